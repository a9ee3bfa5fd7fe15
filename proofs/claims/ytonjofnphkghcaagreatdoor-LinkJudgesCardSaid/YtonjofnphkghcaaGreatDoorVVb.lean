/- The value-level words and their soundness, joined texts. Conditions: none. -/
import Derived.Test.YtonjofnphkghcaaGreatDoorVVa
import Derived.Maps.RangeRun
import Derived.Laws.RangeString
set_option linter.unusedVariables false
set_option linter.unusedSimpArgs false
/- Operations that write, or make, or call; third part: append, at the level of values. Conditions: the table of types tells the program's own rows (TabOK). -/
namespace Go.VL

/-- A slice's value stands for a row that is written. -/
def SlRow (P : Program) (w : World) (B : Nat → Prop) (sz : Nat) (es : List V) (u : Value) : Prop :=
  ∃ us, RowR w B sz es us ∧ (∀ w', (Builtin.lenOf u).run P w' = .ok es.length w') ∧ ∀ w', w'.heap = w.heap → (Builtin.firstCells sz es.length u).run P w' = .ok us.toArray w'

theorem heap_cell {w w' : World} (h : w'.heap = w.heap) (a : Addr) : w'.cell? a = w.cell? a := by simp [World.cell?, h]

theorem SlRow.nil {P w B sz} (base : Option Addr) (cap : Nat) : SlRow P w B sz [] (.slice base 0 cap) := by
  refine ⟨[], .nil, fun w' => by simp [Builtin.lenOf], fun w' _ => ?_⟩
  cases base <;> simp [Builtin.firstCells, loadCells, loadCellsFrom]

theorem SlRow.of {P : Program} {w : World} {B : Nat → Prop} {sz : Nat} {es : List V} {ad : Addr} {cap : Nat} {us : List Value} (hr : RowR w B sz es us) (hc : ∀ (j : Nat) u, us[j]? = some u → w.cell? (ad.add j) = some u) :
    SlRow P w B sz es (.slice (some ad) es.length cap) := by
  refine ⟨us, hr, fun w' => by simp [Builtin.lenOf], fun w' hw => ?_⟩
  have := run_loadCells_list (P := P) w' ad us (fun j v hj => by rw [heap_cell hw]; exact hc j v hj)
  rw [hr.1] at this
  simp [Builtin.firstCells, this]

theorem row_sl {P : Program} {A m σ w nl c sz es u} (h : VR A m σ w (.sl nl c sz es) u) : SlRow P w (Bad A m) sz es u := by
  rcases h.sl_inv with ⟨_, rfl, rfl⟩ | ⟨_, ad, cap, cell, rfl, hB, hblk, hcap, hclip, hes, hcell, hone, hv⟩
  · exact .nil _ _
  · refine .of (us := (List.range (es.length * sz)).map cell) ⟨by simp, hes, fun u hu => ?_, fun i e he r v hv' => ?_⟩ fun j u hj => ?_
    · simp only [List.mem_map, List.mem_range] at hu
      obtain ⟨j, hj, rfl⟩ := hu
      exact hone j hj
    · have hi := (List.getElem?_eq_some_iff.1 he).1
      have hr : r < sz := by rw [← hes e (List.mem_of_getElem? he)]; exact (List.getElem?_eq_some_iff.1 hv').1
      have h1 : (i + 1) * sz ≤ es.length * sz := Nat.mul_le_mul_right _ hi
      rw [Nat.add_mul, Nat.one_mul] at h1
      exact ⟨cell (i * sz + r), by rw [List.getElem?_map, List.getElem?_range (by omega)]; rfl, hv i e he r v hv'⟩
    · have hj' : j < es.length * sz := by have := (List.getElem?_eq_some_iff.1 hj).1; simpa using this
      rw [List.getElem?_map, List.getElem?_range hj'] at hj
      simp at hj
      rw [← hj]
      exact hcell j hj'

/-- A row's object, in memory. -/
theorem row_obj {A m σ w nl g sz es b c} (R : Rel A m σ w) {id : Nat} (hσ : σ[id]? = some (.arr nl g sz es)) (hm : m[id]? = some (some (b, c))) :
    nl = false ∧ ∃ us T, w.heap[b]? = some (.cells us T (0, 0)) ∧ us.size = c * sz ∧ es.length ≤ c ∧ 0 < sz ∧ RowR w (Bad A m) sz es (us.toList.take (es.length * sz)) := by
  rcases R.objs id _ _ hσ hm with ⟨_, hn⟩ | ⟨hn, b', cap, us, T, e, hh, q1, q2, q3, q4, q5⟩
  · cases hn
  · cases e
    have hle : es.length * sz ≤ us.size := by rw [q1]; exact Nat.mul_le_mul_right _ q2
    refine ⟨hn, us, T, hh, q1, q2, q3, by simp [Nat.min_eq_left hle], q4, fun u hu => ?_, fun i e he r v hv => ?_⟩
    · obtain ⟨j, hj, rfl⟩ := List.mem_iff_getElem.1 hu
      simp only [List.length_take, Array.length_toList] at hj
      have hj1 : j < es.length * sz := by omega
      have hi : j / sz < es.length := Nat.div_lt_of_lt_mul (by rw [Nat.mul_comm]; exact hj1)
      have hel := q4 es[j / sz] (List.getElem_mem hi)
      have hr : j % sz < es[j / sz].cells.length := by rw [hel]; exact Nat.mod_lt _ q3
      obtain ⟨u, hu', h1, _⟩ := q5 (j / sz) es[j / sz] (by rw [List.getElem?_eq_getElem hi]) (j % sz) _ (List.getElem?_eq_getElem hr)
      rw [show j / sz * sz + j % sz = j by rw [Nat.mul_comm]; exact Nat.div_add_mod j sz] at hu'
      have : us.toList[j]? = some u := by rw [Array.getElem?_toList]; exact hu'
      have h2 : (us.toList.take (es.length * sz))[j]? = some u := by rw [List.getElem?_take, if_pos hj1]; exact this
      rw [List.getElem?_eq_getElem (by simp; omega)] at h2
      cases h2
      exact h1
    · obtain ⟨u, hu, _, hi⟩ := q5 i e he r v hv
      have hi' := (List.getElem?_eq_some_iff.1 he).1
      have hr : r < sz := by rw [← q4 e (List.mem_of_getElem? he)]; exact (List.getElem?_eq_some_iff.1 hv).1
      have h1 : (i + 1) * sz ≤ es.length * sz := Nat.mul_le_mul_right _ hi'
      rw [Nat.add_mul, Nat.one_mul] at h1
      exact ⟨u, by rw [List.getElem?_take, if_pos (by omega), Array.getElem?_toList]; exact hu, hi⟩

theorem row_rsl {P : Program} {A m σ w nl g sz es id lo hi u} (R : Rel A m σ w) (hσ : σ[id]? = some (.arr nl g sz es)) (h : VR A m σ w (.rsl id g lo hi) u) : SlRow P w (Bad A m) sz ((es.take hi).drop lo) u := by
  obtain ⟨bm, hm, h1, h2, h3⟩ := h.rsl_inv hσ rfl
  have hl : ((es.take hi).drop lo).length = hi - lo := by simp; omega
  rcases Nat.eq_zero_or_pos (hi - lo) with h0 | h0
  · have hnil : (es.take hi).drop lo = [] := List.eq_nil_of_length_eq_zero (by rw [hl, h0])
    rw [hnil]
    rcases h3 with ⟨_, _, rfl⟩ | ⟨_, _, a, rfl⟩ | ⟨_, b, cap, a, _, rfl, _⟩
    · exact .nil _ _
    · exact .nil _ _
    · rw [h0]; exact .nil _ _
  · rcases h3 with ⟨rfl, _, rfl⟩ | ⟨rfl, _, a, rfl⟩ | ⟨_, b, cap, a, rfl, rfl, k1, k2, k3⟩
    · rcases R.objs id _ _ hσ hm with ⟨rfl, _⟩ | ⟨_, b', cap', us, T, e, _⟩
      · simp at h2; omega
      · cases e
    · rcases R.objs id _ _ hσ hm with ⟨rfl, _⟩ | ⟨_, b', cap', us, T, e, _⟩
      · simp at h2; omega
      · cases e
    · obtain ⟨_, us, T, hh, q1, q2, q3, hrow⟩ := row_obj R hσ hm
      have ha := k3 (by omega)
      subst ha
      have hc := hrow.cut lo hi
      have hu : SlRow P w (Bad A m) sz ((es.take hi).drop lo) (.slice (some ⟨b, lo * sz, none⟩) ((es.take hi).drop lo).length (cap - lo)) := .of hc fun j u hj => ?_
      · rw [hl] at hu; exact hu
      · have hin : hi * sz ≤ es.length * sz := Nat.mul_le_mul_right _ h2
        rw [List.getElem?_drop, List.getElem?_take] at hj
        split at hj
        · rw [List.getElem?_take] at hj
          split at hj
          · exact cells_at hh (lo * sz) j u (by rw [List.getElem?_drop]; exact hj)
          · cases hj
        · cases hj

theorem SlRow.srcRun {P : Program} {w B sz es u xt zc d} (h : SlRow P w B sz es u) (hd : P.underlying xt = some d) (hk : (∃ e', d = .slice e') ∨ d = .string) : ∃ us, RowR w B sz es us ∧ SrcRun P xt sz zc w u es.length us := by
  obtain ⟨us, h1, h2, h3⟩ := h
  exact ⟨us, h1, .inl ⟨d, hd, hk, h2, h3⟩⟩

/-- Noughts, one behind the other. -/
theorem row_zeros {P : Program} {t : TypeId} {ty : Ty} (ht : TyOK P t ty) (hz : (zeroC ty).all cell1 = true) (hpos : 0 < ty.size) (n : Nat) : ∃ zc, (∀ w, (zeroValue t).run P w = .ok zc w) ∧ zc.cells.size = ty.size ∧
    ∀ (w : World) (B : Nat → Prop), RowR w B ty.size (List.replicate n (zeroOf ty)) (Builtin.zeroCells zc.cells n).toList := by
  obtain ⟨z, hzr, hzl, hag0, hag1, hlen⟩ := ht.zero
  have hzs : z.cells.size = ty.size := by rw [← Array.length_toList, hzl, hlen]
  have hcl : (zeroC ty).length = ty.size := by simp [zeroC, hlen]
  have hoc : (zeroOf ty).cells = zeroC ty := by
    unfold zeroOf
    cases hag : ty.agg with
    | true => rfl
    | false =>
      simp only [cond_false]
      have h1 := hag0 hag
      have h2 : ty.size = 1 := by rw [← hzs, h1]; rfl
      have h3 : ∃ v, zeroC ty = [v] := by
        match hq : zeroC ty, hcl with
        | [v], _ => exact ⟨v, rfl⟩
        | [], h => simp at h; omega
        | _ :: _ :: _, h => simp at h; omega
      obtain ⟨v, hv⟩ := h3
      rw [hv] at hz ⊢
      simp only [List.headD_cons, List.all_cons, List.all_nil, Bool.and_true] at hz ⊢
      cases v <;> first | rfl | (simp [cell1] at hz)
  have hel : ∀ j, j < n * ty.size → (Builtin.zeroCells z.cells n).toList[j]? = ty.zero[j % ty.size]? := by
    intro j hj
    have hm : j % ty.size < z.cells.size := by rw [hzs]; exact Nat.mod_lt _ hpos
    simp only [Builtin.zeroCells, hzs, Array.toList_map, Array.toList_range, List.getElem?_map, List.getElem?_range hj, Option.map_some]
    rw [← hzl, Array.getElem?_toList, Array.getElem?_eq_getElem hm]
    simp [hm]
  refine ⟨z, hzr, hzs, fun w B => ⟨by simp [size_zeroCells, hzs], fun e he => by rw [List.eq_of_mem_replicate he, hoc, hcl], fun u hu => ?_, fun i e he r v hv => ?_⟩⟩
  · obtain ⟨j, hj, rfl⟩ := List.mem_iff_getElem.1 hu
    have hj' : j < n * ty.size := by simpa [size_zeroCells, hzs] using hj
    have h1 := hel j hj'
    rw [List.getElem?_eq_getElem hj] at h1
    have h2 : (zeroC ty)[j % ty.size]? = some (ofVal0 ((Builtin.zeroCells z.cells n).toList[j])) := by simp [zeroC, ← h1]
    exact cell1_value (A := fun _ => False) (m := []) (σ := []) (w := w) (List.all_eq_true.1 hz _ (List.mem_of_getElem? h2)) (.imm _ _ (VI_ofVal0 w _ _))
  · have hi : i < n := by simpa using (List.getElem?_eq_some_iff.1 he).1
    have he' := List.eq_of_mem_replicate (List.mem_of_getElem? he)
    rw [he', hoc] at hv
    have hr : r < ty.size := by rw [← hcl]; exact (List.getElem?_eq_some_iff.1 hv).1
    have h1 : (i + 1) * ty.size ≤ n * ty.size := Nat.mul_le_mul_right _ hi
    rw [Nat.add_mul, Nat.one_mul] at h1
    have h2 := hel (i * ty.size + r) (by omega)
    rw [Nat.mul_comm i, Nat.mul_add_mod, Nat.mod_eq_of_lt hr, Nat.mul_comm] at h2
    rw [zeroC, List.getElem?_map] at hv
    cases hq : ty.zero[r]? with
    | none => rw [hq] at hv; cases hv
    | some q =>
      rw [hq] at hv h2
      simp at hv
      exact ⟨q, h2, hv ▸ VI_ofVal0 w B q⟩

theorem row_bytes (w : World) (B : Nat → Prop) (s : ByteArray) : RowR w B 1 (bytesV s) (s.data.toList.map fun b => Value.int .u8 b.toNat) := by
  refine ⟨by simp [bytesV], fun e he => ?_, fun u hu => ?_, fun i e he r v hv => ?_⟩
  · simp only [bytesV, List.mem_map] at he
    obtain ⟨b, _, rfl⟩ := he
    rfl
  · simp only [List.mem_map] at hu
    obtain ⟨b, _, rfl⟩ := hu
    rfl
  · simp only [bytesV, List.getElem?_map] at he
    cases hq : s.data.toList[i]? with
    | none => rw [hq] at he; cases he
    | some b =>
      rw [hq] at he
      simp at he
      subst he
      have hr : r = 0 := by have := (List.getElem?_eq_some_iff.1 hv).1; simpa [V.cells] using this
      subst hr
      simp [V.cells] at hv
      subst hv
      exact ⟨.int .u8 b.toNat, by simp [hq], .int _ _⟩

end Go.VL

/- Operations that write, or make, or call; fourth part: append, at the level of values. Conditions: the table of types tells the program's own rows (TabOK). -/
namespace Go.VL

section src
variable {C : Cfg} {A : Nat → Prop} {m : Mp} {σ : St} {w : World}

theorem zero_same {P : Program} {t : TypeId} {z z' : Value} {w : World} (h : ∀ w, (zeroValue t).run P w = .ok z w) (h' : ∀ w, (zeroValue t).run P w = .ok z' w) : z = z' := by
  have h1 := h w
  rw [h' w] at h1
  cases h1
  rfl

theorem vsrc_sound (tok : TabOK C) (R : Rel A m σ w) {e xt : TypeId} {x : V} {u : Value} {K : List V → Prop} (hke : (C.T e).known = true) (hkx : (C.T xt).known = true) (hpos : 0 < (C.T e).size)
    {z : Value} (hz : ∀ w, (zeroValue e).run C.P w = .ok z w) (hr : VR A m σ w x u) (h : vsrc C σ e xt x K) :
    ∃ es us, K es ∧ RowR w (Bad A m) (C.T e).size es us ∧ SrcRun C.P xt (C.T e).size z.cells w u es.length us := by
  obtain ⟨d, hd, _, htd⟩ := (tok.ty xt hkx).und
  unfold TDOK at htd
  have sl : ∀ es, SlRow C.P w (Bad A m) (C.T e).size es u → (∃ e', d = .slice e') ∨ d = .string → K es → ∃ es us, K es ∧ RowR w (Bad A m) (C.T e).size es us ∧ SrcRun C.P xt (C.T e).size z.cells w u es.length us := by
    intro es hs hk hK
    obtain ⟨us, h1, h2⟩ := hs.srcRun (zc := z.cells) hd hk
    exact ⟨es, us, hK, h1, h2⟩
  unfold vsrc at h
  cases x <;> (try simp only at h) <;> try exact h.elim
  case sl nl c sz es =>
    obtain ⟨h1, h2, h3⟩ := h
    have hk : (∃ e', d = .slice e') ∨ d = .string := by
      cases hdd : (C.T xt).d <;> rw [hdd] at h1 htd <;> (try simp only at h1) <;> try exact h1.elim
      exact .inl ⟨_, htd⟩
    rcases h2 with rfl | rfl
    · rcases hr.sl_inv with ⟨_, _, rfl⟩ | ⟨_, ad, cap, cell, rfl, _⟩
      · exact sl _ (.nil _ _) hk h3
      · exact sl _ (.nil _ _) hk h3
    · exact sl _ (row_sl hr) hk h3
  case rsl id g lo hi =>
    obtain ⟨h1, h2⟩ := h
    have hk : (∃ e', d = .slice e') ∨ d = .string := by
      cases hdd : (C.T xt).d <;> rw [hdd] at h1 htd <;> (try simp only at h1) <;> try exact h1.elim
      exact .inl ⟨_, htd⟩
    generalize hσ : σ[id]? = ob at h2
    cases ob with
    | none => exact h2.elim
    | some ob =>
      cases ob <;> simp only at h2 <;> try exact h2.elim
      case arr nl g0 sz es =>
        obtain ⟨rfl, rfl, h3⟩ := h2
        exact sl _ (row_rsl R hσ hr) hk h3
  case str s =>
    obtain ⟨h1, h2, h3⟩ := h
    have hk : d = .string := by
      cases hdd : (C.T xt).d <;> rw [hdd] at h1 htd <;> (try simp only at h1) <;> try exact h1.elim
      exact htd
    have := hr.str_inv
    subst this
    refine sl _ ⟨_, h2 ▸ row_bytes w _ s, fun w' => ?_, fun w' _ => ?_⟩ (.inr hk) h3
    · simp only [Builtin.lenOf, bytesV, List.length_map, Array.length_toList, Sem.run_pure]; rfl
    · have h5 : s.extract 0 s.data.size = s := ByteArray.extract_zero_size
      simp only [Builtin.firstCells, bytesV, List.length_map, Array.length_toList, h5, Sem.run_pure]
      congr 1
      exact Array.ext' (by simp)
  case int k n =>
    cases k <;> simp only at h <;> try exact h.elim
    obtain ⟨h1, h2, h3, h4, h5⟩ := h
    have hk : ∃ k, d = .int k := by
      cases hdd : (C.T xt).d <;> rw [hdd] at h1 htd <;> (try simp only at h1) <;> try exact h1.elim
      obtain ⟨k, hk, _⟩ := htd
      exact ⟨k, hk⟩
    obtain ⟨k, rfl⟩ := hk
    have := hr.int_inv
    subst this
    obtain ⟨z', hz', hzs, hrow⟩ := row_zeros (tok.ty e hke) h4 hpos n.toNat
    obtain rfl := zero_same (w := w) hz hz'
    exact ⟨_, _, h5, hrow w _, .inr ⟨n, k, hd, rfl, h2, h3, by simp, by simp⟩⟩

/-- A row in a block of its own is a slice's immutable value. -/
theorem vi_of_row {B : Nat → Prop} {b sz cap : Nat} {es : List V} {us rest : List Value} {T : TypeId} {w : World} {c : Bool} (hh : w.heap[b]? = some (.cells (us ++ rest).toArray T (0, 0))) (hB : ¬ B b) (hrow : RowR w B sz es us) (hcap : es.length ≤ cap)
    (hc : c = true → cap = es.length) : VI w B (.sl false c sz es) (.slice (some ⟨b, 0, none⟩) es.length cap) := by
  refine .sl c sz es ⟨b, 0, none⟩ cap (fun j => us.getD j undef) (fun _ => hB) (fun _ => (Array.getElem?_eq_some_iff.1 hh).1) hcap hc hrow.2.1 (fun j hj => ?_) (fun j hj => ?_) fun i e he r v hv => ?_
  · have hj' : j < us.length := by rw [hrow.1]; exact hj
    refine cells_at hh 0 j _ ?_
    simp [List.getElem?_append_left hj', hj']
  · have hj' : j < us.length := by rw [hrow.1]; exact hj
    have : us.getD j undef = us[j] := by simp [hj']
    rw [this]
    exact hrow.2.2.1 _ (List.getElem_mem _)
  · obtain ⟨u, hu, hi⟩ := hrow.2.2.2 i e he r v hv
    have : us.getD (i * sz + r) undef = u := by rw [List.getD_eq_getElem?_getD, hu]; rfl
    rw [this]
    exact hi

/-- A row, as an object's content. -/
theorem RowR.objR {A' : Nat → Prop} {m' : Mp} {σ' : St} {w' : World} {b cap sz g : Nat} {es : List V} {us rest : List Value} {T : TypeId} (hh : w'.heap[b]? = some (.cells (us ++ rest).toArray T (0, 0))) (hrow : RowR w' (Bad A' m') sz es us) (hcap : es.length ≤ cap) (hpos : 0 < sz)
    (hl : us.length + rest.length = cap * sz) : ObjR A' m' σ' w' (.arr false g sz es) (some (b, cap)) := by
  refine .inr ⟨rfl, b, cap, _, T, rfl, hh, by simp [hl], hcap, hpos, hrow.2.1, fun i e he r v hv => ?_⟩
  obtain ⟨u, hu, hi⟩ := hrow.2.2.2 i e he r v hv
  refine ⟨u, ?_, hrow.2.2.1 u (List.mem_of_getElem? hu), hi⟩
  rw [List.getElem?_toArray, List.getElem?_append_left (List.getElem?_eq_some_iff.1 hu).1]
  exact hu

/-- A row's object dies, and its block is marked. -/
theorem Rel.share (R : Rel A m σ w) {id g sz b cap : Nat} {es : List V} {w' : World} (hσ : σ[id]? = some (.arr false g sz es)) (hm : m[id]? = some (some (b, cap)))
    (hos : w'.os = w.os) (htp : w'.tape = w.tape) (hou : w'.output = w.output) (hsz : w'.heap.size = w.heap.size) (hh : ∀ b', b' ≠ b → w'.heap[b']? = w.heap[b']?) :
    Rel A (m.set id none) (σ.set id .dead) w' ∧ Ext m σ w (m.set id none) (σ.set id .dead) w' ∧ ¬ Bad A (m.set id none) b := by
  have hid : id < σ.length := (List.getElem?_eq_some_iff.1 hσ).1
  have hidm : id < m.length := by rw [R.len]; exact hid
  have hget : ∀ (i b d : Nat), (m.set id none)[i]? = some (some (b, d)) → i ≠ id ∧ m[i]? = some (some (b, d)) := by
    intro i b d hi
    rw [List.getElem?_set] at hi
    by_cases e : id = i
    · subst e; simp [hidm] at hi
    · rw [if_neg e] at hi; exact ⟨fun e' => e e'.symm, hi⟩
  have O : ObjsLe m σ (m.set id none) (σ.set id .dead) := by
    intro i o1 bm h1 h2
    by_cases e : id = i
    · subst e
      exact ⟨.dead, none, by simp [hid], by simp [hidm], by cases o1 <;> simp [OLe]⟩
    · refine ⟨o1, bm, by rw [List.getElem?_set, if_neg e]; exact h1, by rw [List.getElem?_set, if_neg e]; exact h2, ?_⟩
      cases o1 <;> simp [OLe]
  have M : Mov A m w A (m.set id none) w' := Mov.wider (Nat.le_of_eq hsz.symm) (fun b' _ hn => hh b' fun e => hn (.inr ⟨id, cap, e ▸ hm⟩)) (fun b _ hA => .inl hA) fun i b d _ hi => .inr ⟨i, d, (hget i b d hi).2⟩
  refine ⟨⟨by simp [R.len], fun i j b d e hi hj => R.inj i j b d e (hget i b d hi).2 (hget j b e hj).2, fun i b d hi => ⟨by rw [hsz]; exact (R.lt i b d (hget i b d hi).2).1, (R.lt i b d (hget i b d hi).2).2⟩, fun b hb => by rw [hsz]; exact R.alt b hb, fun i o1 bm h1 h2 => ?_, R.glo.mov M⟩,
    ⟨Nat.le_of_eq hsz.symm, hos, htp, hou, fun b' _ hn => hh b' fun e => hn id cap (e ▸ hm), fun i b d hi => .inl ⟨i, d, (hget i b d hi).2⟩, O⟩, ?_⟩
  · by_cases e : id = i
    · subst e
      have h1' : VO.dead = o1 := by simpa [hid] using h1
      have h2' : none = bm := by simpa [hidm] using h2
      subst h1' h2'
      rfl
    · rw [List.getElem?_set, if_neg e] at h1 h2
      exact (R.objs i o1 bm h1 h2).mov M O R.len fun b' d e' => hh b' fun e'' => e (by subst e''; exact R.inj id i b' cap d hm (by rw [h2, e']))
  · rintro (hA | ⟨i, c, hi'⟩)
    · exact (R.lt id b cap hm).2 hA
    · exact (hget i b c hi').1 (R.inj id i b cap c hm (hget i b c hi').2).symm

/-- A row's object dies; what was a slice of it is a list from then on. -/
theorem Rel.freeze (R : Rel A m σ w) {id g lo hi sz : Nat} {nl : Bool} {es : List V} {u : Value} (hσ : σ[id]? = some (.arr nl g sz es)) (h : VR A m σ w (.rsl id g lo hi) u) :
    Rel A (m.set id none) (σ.set id .dead) w ∧ Ext m σ w (m.set id none) (σ.set id .dead) w ∧ VR A (m.set id none) (σ.set id .dead) w (.sl nl false sz ((es.take hi).drop lo)) u := by
  obtain ⟨R', E⟩ := R.dieObj hσ
  refine ⟨R', E, ?_⟩
  obtain ⟨bm, hm, h1, h2, h3⟩ := h.rsl_inv hσ rfl
  have M : Mov A m w A (m.set id none) w := E.mov
  have hl : ((es.take hi).drop lo).length = hi - lo := by simp; omega
  have hnil : bm = none → es = [] := fun e => by
    rcases R.objs id _ _ hσ hm with ⟨rfl, _⟩ | ⟨_, b', cap', us, T, e', _⟩
    · rfl
    · rw [e] at e'; cases e'
  have empty : ∀ (ad : Addr) (cap : Nat), VR A (m.set id none) (σ.set id .dead) w (.sl false false sz []) (.slice (some ad) 0 cap) := fun ad cap =>
    .imm _ _ (.sl false sz [] ad cap (fun _ => undef) (fun h => by simp at h) (fun h => by simp at h) (Nat.zero_le _) (by simp) (by simp) (fun j hj => by simp at hj) (fun j hj => by simp at hj) (fun i e he => by simp at he))
  rcases h3 with ⟨e, rfl, rfl⟩ | ⟨e, rfl, ad, rfl⟩ | ⟨rfl, b, cap, ad, rfl, rfl, k1, k2, k3⟩
  · have := hnil e
    subst this
    simp only [List.take_nil, List.drop_nil]
    exact .imm _ _ (.sl0 _ _)
  · have := hnil e
    subst this
    simp only [List.take_nil, List.drop_nil]
    exact empty ad 0
  · have hbs := (R.lt id b cap hm).1
    rcases Nat.eq_zero_or_pos (hi - lo) with h0 | h0
    · have hn : (es.take hi).drop lo = [] := List.eq_nil_of_length_eq_zero (by rw [hl, h0])
      rw [hn, h0]
      exact empty ad _
    · obtain ⟨_, us, T, hh, q1, q2, q3, hrow⟩ := row_obj R hσ hm
      have ha := k3 (by omega)
      subst ha
      have hrow' := (hrow.cut lo hi).mov M
      have hnB : ¬ Bad A (m.set id none) b := by
        rintro (hA | ⟨i, c, hi'⟩)
        · exact (R.lt id b cap hm).2 hA
        · rw [List.getElem?_set] at hi'
          by_cases e : id = i
          · subst e
            have hidm : id < m.length := (List.getElem?_eq_some_iff.1 hm).1
            simp [hidm] at hi'
          · rw [if_neg e] at hi'
            exact e (R.inj id i b cap c hm hi')
      have hin : hi * sz ≤ es.length * sz := Nat.mul_le_mul_right _ h2
      have hll := hrow'.1
      refine .imm _ _ (hl ▸ .sl false sz _ ⟨b, lo * sz, none⟩ (cap - lo) (fun j => (((us.toList.take (es.length * sz)).take (hi * sz)).drop (lo * sz)).getD j undef) (fun _ => hnB) (fun _ => hbs) (by rw [hl]; omega) (by simp) hrow'.2.1 (fun j hj => ?_) (fun j hj => ?_) fun i e he r v hv => ?_)
      · have hj' : j < (((us.toList.take (es.length * sz)).take (hi * sz)).drop (lo * sz)).length := by rw [hll]; exact hj
        refine cells_at hh (lo * sz) j _ ?_
        have := List.getElem?_eq_getElem hj'
        rw [List.getD_eq_getElem?_getD, this]
        rw [List.getElem?_drop, List.getElem?_take] at this
        split at this
        · rw [List.getElem?_take] at this
          split at this
          · rw [List.getElem?_drop]; exact this
          · cases this
        · cases this
      · have hj' : j < (((us.toList.take (es.length * sz)).take (hi * sz)).drop (lo * sz)).length := by rw [hll]; exact hj
        rw [List.getD_eq_getElem?_getD, List.getElem?_eq_getElem hj']
        exact hrow'.2.2.1 _ (List.getElem_mem _)
      · obtain ⟨u, hu, hi'⟩ := hrow'.2.2.2 i e he r v hv
        rw [List.getD_eq_getElem?_getD, hu]
        exact hi'

end src
end Go.VL

/- Operations that write, or make, or call; fifth part: append's soundness. Conditions: the table of types tells the program's own rows (TabOK). -/
namespace Go.VL
variable {ro : Option Nat}

theorem vsrc_isVal {C : Cfg} {σ : St} {e xt : TypeId} {x : V} {K : List V → Prop} (h : vsrc C σ e xt x K) : x.isVal = true := by
  cases x <;> first | rfl | exact h.elim

section rel
variable {A : Nat → Prop} {m : Mp} {σ : St} {w : World}

/-- A row without a place is told to be an object. -/
theorem Rel.newNone (R : Rel A m σ w) (nl : Bool) (g sz : Nat) : Rel A (m ++ [none]) (σ ++ [.arr nl g sz []]) w ∧ Ext m σ w (m ++ [none]) (σ ++ [.arr nl g sz []]) w := by
  have O : ObjsLe m σ (m ++ [none]) (σ ++ [.arr nl g sz []]) := by
    intro i o' bm h1 h2
    refine ⟨o', bm, by rw [List.getElem?_append_left (List.getElem?_eq_some_iff.1 h1).1]; exact h1, by rw [List.getElem?_append_left (List.getElem?_eq_some_iff.1 h2).1]; exact h2, ?_⟩
    cases o' <;> simp [OLe]
  have hnew : ∀ (i b d : Nat), (m ++ [none])[i]? = some (some (b, d)) → m[i]? = some (some (b, d)) := by
    intro i b d hi
    rcases Nat.lt_or_ge i m.length with h | h
    · rwa [List.getElem?_append_left h] at hi
    · rw [List.getElem?_append_right h] at hi
      cases hz : i - m.length with
      | zero => rw [hz] at hi; simp at hi
      | succ k => rw [hz] at hi; simp at hi
  have M : Mov A m w A (m ++ [none]) w := Mov.wider (Nat.le_refl _) (fun _ _ _ => rfl) (fun b _ hA => .inl hA) fun i b d _ hi => .inr ⟨i, d, hnew i b d hi⟩
  refine ⟨⟨by simp [R.len], fun i j b d e hi hj => R.inj i j b d e (hnew _ _ _ hi) (hnew _ _ _ hj), fun i b d hi => R.lt i b d (hnew _ _ _ hi), R.alt, fun i o' bm h1 h2 => ?_, R.glo.mov M⟩, Nat.le_refl _, rfl, rfl, rfl, fun _ _ _ => rfl, fun i b d hi => .inl ⟨i, d, hnew i b d hi⟩, O⟩
  rcases Nat.lt_or_ge i σ.length with h | h
  · rw [List.getElem?_append_left h] at h1
    rw [List.getElem?_append_left (by rw [R.len]; exact h)] at h2
    exact (R.objs i o' bm h1 h2).mov M O R.len fun _ _ _ => rfl
  · rw [List.getElem?_append_right h] at h1
    rw [List.getElem?_append_right (by rw [R.len]; exact h)] at h2
    have hz : i - σ.length = 0 := by
      rcases Nat.eq_zero_or_pos (i - σ.length) with h0 | h0
      · exact h0
      · rw [List.getElem?_eq_none (by simp; omega)] at h1; cases h1
    rw [hz] at h1
    rw [show i - m.length = 0 by rw [R.len]; exact hz] at h2
    simp at h1 h2
    subst h1 h2
    exact .inl ⟨rfl, rfl⟩

/-- An object is known otherwise, in its place; memory stays. -/
theorem Rel.reObj (R : Rel A m σ w) {id : Nat} {o o' : VO} {bm : Option (Nat × Nat)} (ho : σ[id]? = some o) (hm : m[id]? = some bm) (hle : OLe o bm o' bm) (hnew : ∀ σ', ObjsLe m σ m σ' → ObjR A m σ' w o' bm) :
    Rel A m (σ.set id o') w ∧ Ext m σ w m (σ.set id o') w := by
  have hid : id < σ.length := (List.getElem?_eq_some_iff.1 ho).1
  have O : ObjsLe m σ m (σ.set id o') := by
    intro i o1 bm1 h1 h2
    by_cases e : id = i
    · subst e
      rw [ho] at h1; rw [hm] at h2
      cases h1; cases h2
      exact ⟨o', bm, by simp [hid], hm, hle⟩
    · refine ⟨o1, bm1, by rw [List.getElem?_set, if_neg e]; exact h1, h2, ?_⟩
      cases o1 <;> simp [OLe]
  have M : Mov A m w A m w := ⟨Nat.le_refl _, fun b _ hn => ⟨rfl, hn⟩⟩
  refine ⟨⟨by simp [R.len], R.inj, R.lt, R.alt, fun i o1 bm1 h1 h2 => ?_, R.glo.mov M⟩, Nat.le_refl _, rfl, rfl, rfl, fun _ _ _ => rfl, fun i b d hi => .inl ⟨i, d, hi⟩, O⟩
  by_cases e : id = i
  · subst e
    rw [hm] at h2
    have h1' : o' = o1 := by simpa [hid] using h1
    cases h2
    subst h1'
    exact hnew _ O
  · rw [List.getElem?_set, if_neg e] at h1
    exact (R.objs i o1 bm1 h1 h2).mov M O R.len fun _ _ _ => rfl

end rel

section effects
variable {C : Cfg} {A : Nat → Prop} {m0 : Mp} {σ0 : St} {w0 : World} {N : Nat} {fr : Fr} {σ : St} {a : Act} {w : World} {m : Mp} {pb : Nat → Option Nat} {o : Oper} {K : Fr → St → Prop} {next : Act → World → Prop} {Q : Exit → Act → World → Prop}

theorem Frm.fresh (F : Frm A m0 σ0 w0 N fr σ a w m pb) : ¬ Bad (pA A pb) m w.heap.size := by
  rintro (h | ⟨i, c, h⟩)
  · exact Nat.lt_irrefl _ (F.rel.alt _ h)
  · exact Nat.lt_irrefl _ (F.rel.lt _ _ _ h).1

/-- A slice without room behind its end, as a value. -/
theorem sl_form {A : Nat → Prop} {m : Mp} {σ : St} {w : World} {nl clip : Bool} {sz : Nat} {es : List V} {u : Value} (h : VR A m σ w (.sl nl clip sz es) u) (hc : (nl || clip) = true) :
    ∃ base, u = .slice base es.length es.length ∧ (nl = true → base = none ∧ es = []) ∧ (nl = false → ∃ ad, base = some ad) := by
  rcases h.sl_inv with ⟨rfl, rfl, rfl⟩ | ⟨rfl, ad, cap, cell, rfl, _, _, _, hclip, _⟩
  · exact ⟨none, rfl, fun _ => ⟨rfl, rfl⟩, fun h => by cases h⟩
  · have := hclip (by simpa using hc)
    subst this
    exact ⟨some ad, rfl, fun h => (by cases h), fun _ => ⟨ad, rfl⟩⟩

theorem sl_loose {A : Nat → Prop} {m : Mp} {σ : St} {w : World} {nl clip : Bool} {sz sz' : Nat} {es : List V} {u : Value} (h : VR A m σ w (.sl nl clip sz es) u) (hs : es = [] ∨ sz = sz') : VR A m σ w (.sl nl false sz' es) u := by
  rcases h.sl_inv with ⟨rfl, rfl, rfl⟩ | ⟨rfl, ad, cap, cell, rfl, h1, h2, h3, h4, h5, h6, h7, h8⟩
  · exact .imm _ _ (.sl0 _ _)
  · rcases hs with rfl | rfl
    · exact .imm _ _ (.sl false sz' [] ad cap cell (fun h => by simp at h) (fun h => by simp at h) h3 (by simp) (by simp) (fun j hj => by simp at hj) (fun j hj => by simp at hj) (fun i e he => by simp at he))
    · exact .imm _ _ (.sl false sz es ad cap cell h1 h2 h3 (by simp) h5 h6 h7 h8)

theorem e_append (tok : TabOK C) (F : Frm A m0 σ0 w0 N fr σ a w m pb) (hd : ∀ d, o.dst = some d → d < N) {args : Array Operand} {ats : Array TypeId} {s x : Operand} {st xt : TypeId} (ho : o.op = .call { callee := .builtin .append, args, argTypes := ats })
    (ha : args.toList = [s, x]) (ht : ats.toList = [st, xt]) (h : vappend C fr σ o (opv fr s) (opv fr x) st xt K) (hn : Nxt A m0 σ0 w0 N K next) : o.wpIn (WF ro) 0 C.P a w next Q := by
  obtain rfl : args = #[s, x] := by apply Array.ext'; simpa using ha
  obtain rfl : ats = #[st, xt] := by apply Array.ext'; simpa using ht
  unfold vappend at h
  obtain ⟨hks, hkx, h⟩ := h
  obtain ⟨d, hd0, _, htd⟩ := (tok.ty st hks).und
  unfold TDOK at htd
  cases hdd : (C.T st).d <;> rw [hdd] at h htd <;> (try simp only at h) <;> try exact h.elim
  rename_i e
  simp only at htd
  subst htd
  obtain ⟨hke, hpos, hbytes, h⟩ := h
  have he := tok.ty e hke
  obtain ⟨z, hz, _, _, hzs⟩ := zeroC_VRs he
  obtain ⟨src, us, hK, hrow, hsrc⟩ := vsrc_sound tok F.rel hke hkx hpos hz (F.opnd x (vsrc_isVal h)) h
  clear h
  have fin : ∀ (u' : Value) (w' : World), (Builtin.append_ #[st, xt] o.type #[a.eval s, a.eval x]).run C.P w = .ok u' w' → next (a.put o.dst u') w' → o.wpIn (WF ro) 0 C.P a w next Q := by
    intro u' w' hr hnx
    refine wp_value ?_ hnx
    obtain ⟨cs, hcs⟩ := resolve_builtin C.P a.eval .append #[s, x] #[st, xt] o.type w
    simp only [execOp, ho]
    rw [hcs]
    simp [builtin, hr]
  have hlen : us.length = src.length * (C.T e).size := hrow.1
  have hnil : src = [] → us = [] := fun h => List.eq_nil_of_length_eq_zero (by rw [hlen, h]; simp)
  have hd1 : Grow w { w with drawn := w.drawn + 1 } := Grow.drawn w _
  generalize hS : opv fr s = S at hK
  cases S <;> (try simp only at hK) <;> try exact hK.elim
  case sl nl clip sz es =>
    obtain ⟨hc, hsz, hlim, hK⟩ := hK
    have hvs : VR (pA A pb) m σ w (.sl nl clip sz es) (a.eval s) := hS ▸ F.opnd s (by rw [hS]; rfl)
    obtain ⟨base, hbase, hb1, hb2⟩ := sl_form hvs hc
    have hrow0 : SlRow C.P w (Bad (pA A pb) m) (C.T e).size es (a.eval s) := row_sl (sl_loose hvs hsz)
    rcases hq : src with _ | ⟨q, qs⟩
    · have hu := hnil hq
      subst hq hu
      have hr := append_same (o := o.type) (base := base) (sLen := es.length) (sCap := es.length) hd0 he hbytes hsrc hz hpos (by simp) (.inr rfl)
      rw [← hbase] at hr
      simp only [List.length_nil, Nat.add_zero, ← hbase] at hr
      refine fin _ _ hr ?_
      simp only [List.isEmpty_nil, Bool.and_true, List.append_nil, List.length_nil, Nat.add_zero] at hK
      cases hf : isFrz C o with
      | true =>
        rw [hf] at hK
        exact hn _ _ _ _ ⟨m, pb, F.putd hd (ResR.of (sl_loose hvs hsz))⟩ hK
      | false =>
        rw [hf] at hK
        obtain ⟨h1, hk⟩ := hK
        obtain rfl : es = [] := by rcases h1 with h1 | h1; exact h1; exact absurd rfl h1
        obtain ⟨R, E⟩ := F.rel.newNone nl 0 (C.T e).size
        refine hn _ _ _ _ ⟨_, pb, (F.step E R).putd hd (ResR.of (.rsl _ _ _ _ _ ?_ (.inr ⟨nl, 0, (C.T e).size, [], none, by simp, by rw [← F.rel.len]; simp, Nat.le_refl _, fun _ => ⟨Nat.le_refl _, Nat.le_refl _, ?_⟩⟩)))⟩ hk
        · rw [hbase]; rfl
        · cases hnl : nl with
          | true => exact .inl ⟨rfl, rfl, by rw [hbase, (hb1 hnl).1]; rfl⟩
          | false =>
            obtain ⟨ad, had⟩ := hb2 hnl
            exact .inr (.inl ⟨rfl, rfl, ad, by rw [hbase, had]; rfl⟩)
    · have hne : src ≠ [] := by rw [hq]; simp
      have hlp : 0 < src.length := List.length_pos_iff.2 hne
      have hie : src.isEmpty = false := by rw [hq]; rfl
      clear hq
      obtain ⟨old, hrold, hold1, hold2⟩ := hrow0
      rw [hbase] at hold2
      obtain ⟨newCap, rest, hcap, hrl, hr⟩ := append_grow (o := o.type) hd0 he hbytes hsrc hz hzs hpos hlim (Nat.le_refl _) (by omega) hold2
      rw [← hbase] at hr
      refine fin _ _ hr ?_
      have F1 := F.grow hd1
      have hrow2 := hrold.append hrow
      rw [hie, Bool.and_false] at hK
      cases hf : isFrz C o with
      | true =>
        rw [hf] at hK
        have g := hd1.trans (Grow.push { w with drawn := w.drawn + 1 } (.cells (old ++ us ++ rest).toArray e (0, 0)))
        refine hn _ _ _ _ ⟨m, pb, (F.grow g).putd hd (ResR.of (.imm _ _ ?_))⟩ hK
        rw [← List.length_append]
        exact vi_of_row (heap_push_new _ _) F.fresh (hrow2.mov g.mov) (by simpa using hcap) (by simp)
      | false =>
        rw [hf] at hK
        obtain ⟨_, hk⟩ := hK
        obtain ⟨R, E⟩ := F1.rel.newObj (.arr false 0 (C.T e).size (es ++ src)) newCap (.cells (old ++ us ++ rest).toArray e (0, 0)) fun w' hw' M O hnew =>
          RowR.objR hnew ((hrow2.mov hd1.mov).mov M) (by simpa using hcap) hpos (by
            have h1 : (es.length + src.length) * (C.T e).size ≤ newCap * (C.T e).size := Nat.mul_le_mul_right _ hcap
            rw [hrow2.1, hrl, List.length_append, Nat.sub_mul]; omega)
        refine hn _ _ _ _ ⟨_, pb, (F1.step E R).putd hd (ResR.of (.rsl _ _ _ _ _ rfl (.inr ⟨false, 0, (C.T e).size, es ++ src, _, by simp, by rw [← F.rel.len]; simp, Nat.le_refl _, fun _ => ⟨Nat.zero_le _, by simp, .inr (.inr ⟨rfl, _, _, _, rfl, rfl, by simpa using hcap, rfl, fun _ => by simp⟩)⟩⟩)))⟩ hk
  case rsl id g lo hi =>
    generalize hσ : σ[id]? = ob at hK
    cases ob with
    | none => exact hK.elim
    | some ob =>
      cases ob <;> (try simp only at hK) <;> try exact hK.elim
      rename_i nl g0 sz es
      cases hin : isInp C o with
      | true =>
        rw [hin] at hK
        obtain ⟨rfl, rfl, rfl, hpe, hfit, hK⟩ := hK
        have hvs : VR (pA A pb) m σ w (.rsl id g 0 hi) (a.eval s) := hS ▸ F.opnd s (by rw [hS]; rfl)
        have hid : id < σ.length := (List.getElem?_eq_some_iff.1 hσ).1
        obtain ⟨bm, hm, h1, h2, h3⟩ := hvs.rsl_inv hσ rfl
        have hne : bm ≠ none := by
          rintro rfl
          rcases F.rel.objs id _ _ hσ hm with ⟨rfl, _⟩ | ⟨_, b', cap', us, T, e', _⟩
          · simp at hpe
          · cases e'
        rcases h3 with ⟨hb0, _⟩ | ⟨hb0, _⟩ | ⟨hnl, b, cap, ad, hb0, hu, k1, k2, k3⟩
        · exact absurd hb0 hne
        · exact absurd hb0 hne
        · simp only [Nat.sub_zero] at hu
          have had := k3 (by omega)
          rw [Nat.zero_mul] at had
          subst had hb0
          obtain ⟨_, cur, T, hh, q1, q2, q3, hrowO⟩ := row_obj F.rel hσ hm
          have hge : hi + src.length ≤ cap := by omega
          have hcz : (hi + src.length) * (C.T e).size ≤ cap * (C.T e).size := Nat.mul_le_mul_right _ hge
          have hez : (hi + src.length) * (C.T e).size ≤ es.length * (C.T e).size := Nat.mul_le_mul_right _ hfit
          have hcap : es.length * (C.T e).size ≤ cap * (C.T e).size := Nat.mul_le_mul_right _ k1
          have hr := append_room (o := o.type) (sCap := cap) (off := 0) (sLen := hi) hd0 he hbytes hsrc hz hpos hlen hge hh (by rw [q1]; simpa using hcz) hrow.2.2.1
          rw [← hu, Nat.zero_add] at hr
          rw [Nat.add_mul] at hcz hez
          have hA := hrowO.cut 0 hi
          have hB := hrowO.cut (hi + src.length) es.length
          simp only [List.drop_zero, Nat.zero_mul, List.take_length] at hA hB
          have hcells : (setVals cur.toList (hi * (C.T e).size) us).toArray = ((((cur.toList.take (es.length * (C.T e).size)).take (hi * (C.T e).size)) ++ us ++ (((cur.toList.take (es.length * (C.T e).size)).take (es.length * (C.T e).size)).drop ((hi + src.length) * (C.T e).size))) ++ cur.toList.drop (es.length * (C.T e).size)).toArray := by
            have hm1 : min (hi * (C.T e).size) (es.length * (C.T e).size) = hi * (C.T e).size := Nat.min_eq_left (by omega)
            congr 1
            apply List.ext_getElem?
            intro j
            rw [setVals_get, List.take_take, List.take_take, Nat.min_self, hm1, Nat.add_mul]
            simp only [Array.length_toList]
            have l1 : (cur.toList.take (hi * (C.T e).size)).length = hi * (C.T e).size := by
              have hcl : cur.toList.length = cur.size := by simp
              rw [List.length_take, hcl]; omega
            have l2 : ((cur.toList.take (es.length * (C.T e).size)).drop (hi * (C.T e).size + src.length * (C.T e).size)).length = es.length * (C.T e).size - (hi * (C.T e).size + src.length * (C.T e).size) := by
              have hcl : cur.toList.length = cur.size := by simp
              rw [List.length_drop, List.length_take, hcl]; omega
            by_cases hj1 : hi * (C.T e).size ≤ j ∧ j < hi * (C.T e).size + us.length ∧ j < cur.size
            · rw [if_pos hj1, List.getElem?_append_left (by simp only [List.length_append, l1, l2]; omega), List.getElem?_append_left (by simp only [List.length_append, l1]; omega), List.getElem?_append_right (by rw [l1]; omega), l1]
            · rw [if_neg hj1]
              rcases Nat.lt_or_ge j (hi * (C.T e).size) with hj2 | hj2
              · rw [List.getElem?_append_left (by simp only [List.length_append, l1, l2]; omega), List.getElem?_append_left (by simp only [List.length_append, l1]; omega), List.getElem?_append_left (by rw [l1]; omega), List.getElem?_take, if_pos (by omega)]
              · rcases Nat.lt_or_ge j (es.length * (C.T e).size) with hj3 | hj3
                · rw [List.getElem?_append_left (by simp only [List.length_append, l1, l2]; omega), List.getElem?_append_right (by simp only [List.length_append, l1]; omega), List.getElem?_drop, List.getElem?_take]
                  simp only [List.length_append, l1]
                  rw [if_pos (by omega)]
                  congr 1
                  omega
                · rw [List.getElem?_append_right (by simp only [List.length_append, l1, l2]; omega), List.getElem?_drop]
                  congr 1
                  simp only [List.length_append, l1, l2]
                  omega
          have hrowN : RowR w (Bad (pA A pb) m) (C.T e).size (es.take hi ++ src ++ es.drop (hi + src.length)) (((cur.toList.take (es.length * (C.T e).size)).take (hi * (C.T e).size)) ++ us ++ (((cur.toList.take (es.length * (C.T e).size)).take (es.length * (C.T e).size)).drop ((hi + src.length) * (C.T e).size))) := (hA.append hrow).append hB
          have hnl2 : (es.take hi ++ src ++ es.drop (hi + src.length)).length = es.length := by simp; omega
          obtain ⟨R, E⟩ := F.rel.setObj (o' := .arr nl g (C.T e).size (es.take hi ++ src ++ es.drop (hi + src.length))) (ob := .cells (setVals cur.toList (hi * (C.T e).size) us).toArray T (0, 0)) hσ hm ⟨Nat.le_refl _, fun _ => ⟨rfl, rfl, rfl, hnl2⟩⟩ fun w' hw' M O hnew => by
            rw [hcells] at hnew
            rw [hnl]
            refine RowR.objR hnew (hrowN.mov M) (by rw [hnl2]; exact k1) hpos ?_
            simp only [List.length_append, List.length_take, List.length_drop, Array.length_toList, q1, hlen, Nat.add_mul]
            omega
          refine fin _ _ hr (hn _ _ _ _ ⟨_, pb, (F.step E R).putd hd (ResR.of (.rsl _ _ _ _ _ rfl (.inr ⟨nl, g, (C.T e).size, es.take hi ++ src ++ es.drop (hi + src.length), _, by simp [hid], hm, Nat.le_refl _, fun _ => ⟨Nat.zero_le _, by rw [hnl2]; exact hfit, .inr (.inr ⟨hnl, _, _, _, rfl, rfl, by rw [hnl2]; exact k1, rfl, fun _ => by rw [Nat.zero_mul]⟩)⟩⟩)))⟩ hK)
      | false =>
      rw [hin] at hK
      obtain ⟨rfl, rfl, rfl, rfl, hlim, hK⟩ := hK
      have hvs : VR (pA A pb) m σ w (.rsl id g 0 es.length) (a.eval s) := hS ▸ F.opnd s (by rw [hS]; rfl)
      have hid : id < σ.length := (List.getElem?_eq_some_iff.1 hσ).1
      have hidm : id < m.length := by rw [F.rel.len]; exact hid
      obtain ⟨bm, hm, h1, h2, h3⟩ := hvs.rsl_inv hσ rfl
      have hrow0 := row_rsl (P := C.P) F.rel hσ hvs
      rw [List.take_length, List.drop_zero] at hrow0
      obtain ⟨old, hrold, hold1, hold2⟩ := hrow0
      have hrow2 := hrold.append hrow
      have core : ∃ u' w' m', (Builtin.append_ #[st, xt] o.type #[a.eval s, a.eval x]).run C.P w = .ok u' w' ∧ Frm A m0 σ0 w0 N fr (σ.set id (.arr (nl && src.isEmpty) (g + 1) (C.T e).size (es ++ src))) a w' m' pb ∧
          VR (pA A pb) m' (σ.set id (.arr (nl && src.isEmpty) (g + 1) (C.T e).size (es ++ src))) w' (.rsl id (g + 1) 0 (es.length + src.length)) u' := by
        -- where all is laid anew
        have anew : ∀ (base : Option Addr) (sCap : Nat), a.eval s = .slice base es.length sCap → es.length ≤ sCap → sCap < es.length + src.length → ∃ u' w' m', (Builtin.append_ #[st, xt] o.type #[a.eval s, a.eval x]).run C.P w = .ok u' w' ∧ Frm A m0 σ0 w0 N fr (σ.set id (.arr (nl && src.isEmpty) (g + 1) (C.T e).size (es ++ src))) a w' m' pb ∧
          VR (pA A pb) m' (σ.set id (.arr (nl && src.isEmpty) (g + 1) (C.T e).size (es ++ src))) w' (.rsl id (g + 1) 0 (es.length + src.length)) u' := by
          intro base sCap hbase hle hg
          have hie : src.isEmpty = false := by cases src with | nil => simp at hg; omega | cons => rfl
          rw [hie, Bool.and_false]
          rw [hbase] at hold2
          obtain ⟨newCap, rest, hcap, hrl, hr⟩ := append_grow (o := o.type) hd0 he hbytes hsrc hz hzs hpos hlim hle hg hold2
          rw [← hbase] at hr
          have F1 := F.grow hd1
          obtain ⟨R, E⟩ := F1.rel.moveObj (c := newCap) (o' := .arr false (g + 1) (C.T e).size (es ++ src)) (ob := .cells (old ++ us ++ rest).toArray e (0, 0)) hσ hm ⟨Nat.le_succ g, fun e => absurd e (by omega)⟩ fun w' hw' M O hnew =>
            RowR.objR hnew ((hrow2.mov hd1.mov).mov M) (by simpa using hcap) hpos (by
              have h1 : (es.length + src.length) * (C.T e).size ≤ newCap * (C.T e).size := Nat.mul_le_mul_right _ hcap
              rw [hrow2.1, hrl, List.length_append, Nat.sub_mul]; omega)
          exact ⟨_, _, _, hr, F1.step E R, .rsl _ _ _ _ _ rfl (.inr ⟨false, g + 1, (C.T e).size, es ++ src, _, by simp [hid], by simp [hidm], Nat.le_refl _, fun _ => ⟨Nat.zero_le _, by simp, .inr (.inr ⟨rfl, _, _, _, rfl, rfl, by simpa using hcap, rfl, fun _ => by simp⟩)⟩⟩)⟩
        -- where nothing is written
        have stay : ∀ (base : Option Addr) (sCap : Nat), a.eval s = .slice base es.length sCap → es.length ≤ sCap → src = [] → ∃ u' w' m', (Builtin.append_ #[st, xt] o.type #[a.eval s, a.eval x]).run C.P w = .ok u' w' ∧ Frm A m0 σ0 w0 N fr (σ.set id (.arr (nl && src.isEmpty) (g + 1) (C.T e).size (es ++ src))) a w' m' pb ∧
          VR (pA A pb) m' (σ.set id (.arr (nl && src.isEmpty) (g + 1) (C.T e).size (es ++ src))) w' (.rsl id (g + 1) 0 (es.length + src.length)) u' := by
          intro base sCap hbase hle hs0
          have hu := hnil hs0
          subst hs0 hu
          have hr := append_same (o := o.type) (base := base) (sLen := es.length) (sCap := sCap) hd0 he hbytes hsrc hz hpos (by simpa using hle) (.inr rfl)
          simp only [List.length_nil, Nat.add_zero, ← hbase] at hr
          simp only [List.isEmpty_nil, Bool.and_true, List.append_nil, List.length_nil, Nat.add_zero]
          have hob := F.rel.objs id _ _ hσ hm
          obtain ⟨R, E⟩ := F.rel.reObj (o' := .arr nl (g + 1) (C.T e).size es) hσ hm ⟨Nat.le_succ g, fun e => absurd e (by omega)⟩ fun σ' O => (hob.mov (A' := pA A pb) (σ' := σ') ⟨Nat.le_refl _, fun b _ hn => ⟨rfl, hn⟩⟩ O F.rel.len fun _ _ _ => rfl : ObjR (pA A pb) m σ' w (.arr nl g (C.T e).size es) bm)
          exact ⟨_, _, _, hr, F.step E R, .rsl _ _ _ _ _ (by rw [hbase]; rfl) (.inr ⟨nl, g + 1, (C.T e).size, es, bm, by simp [hid], hm, Nat.le_refl _, fun _ => ⟨h1, h2, h3⟩⟩)⟩
        rcases h3 with ⟨hb0, hnl, hu⟩ | ⟨hb0, hnl, ad, hu⟩ | ⟨hnl, b, cap, ad, hb0, hu, k1, k2, k3⟩
        · have hes : es = [] := by
            rcases F.rel.objs id _ _ hσ hm with ⟨rfl, _⟩ | ⟨_, b', cap', us, T, e', _⟩
            · rfl
            · rw [hb0] at e'; cases e'
          rcases Nat.eq_zero_or_pos src.length with h0 | h0
          · exact stay none 0 (by rw [hu, hes]; rfl) (by rw [hes]; simp) (List.eq_nil_of_length_eq_zero h0)
          · exact anew none 0 (by rw [hu, hes]; rfl) (by rw [hes]; simp) (by omega)
        · have hes : es = [] := by
            rcases F.rel.objs id _ _ hσ hm with ⟨rfl, _⟩ | ⟨_, b', cap', us, T, e', _⟩
            · rfl
            · rw [hb0] at e'; cases e'
          rcases Nat.eq_zero_or_pos src.length with h0 | h0
          · exact stay (some ad) 0 (by rw [hu, hes]; rfl) (by rw [hes]; simp) (List.eq_nil_of_length_eq_zero h0)
          · exact anew (some ad) 0 (by rw [hu, hes]; rfl) (by rw [hes]; simp) (by omega)
        · simp only [Nat.sub_zero] at hu
          rcases Nat.eq_zero_or_pos src.length with h0 | h0
          · exact stay (some ad) cap hu k1 (List.eq_nil_of_length_eq_zero h0)
          · rcases Nat.lt_or_ge cap (es.length + src.length) with hlt | hge
            · exact anew (some ad) cap hu k1 hlt
            · have had := k3 (by omega)
              rw [Nat.zero_mul] at had
              subst had
              have hie : src.isEmpty = false := by cases src with | nil => simp at h0 | cons => rfl
              rw [hie, Bool.and_false]
              subst hb0
              obtain ⟨_, cur, T, hh, q1, q2, q3, hrowO⟩ := row_obj F.rel hσ hm
              have hcz : (es.length + src.length) * (C.T e).size ≤ cap * (C.T e).size := Nat.mul_le_mul_right _ hge
              have hr := append_room (o := o.type) (sCap := cap) (off := 0) (sLen := es.length) hd0 he hbytes hsrc hz hpos hlen hge hh (by rw [q1]; simpa using hcz) hrow.2.2.1
              rw [← hu] at hr
              rw [Nat.zero_add] at hr
              rw [Nat.add_mul] at hcz
              have hcells : (setVals cur.toList (es.length * (C.T e).size) us).toArray = ((cur.toList.take (es.length * (C.T e).size) ++ us) ++ cur.toList.drop (es.length * (C.T e).size + us.length)).toArray := by
                congr 1
                apply List.ext_getElem?
                intro j
                rw [setVals_get]
                simp only [Array.length_toList]
                by_cases hj1 : es.length * (C.T e).size ≤ j ∧ j < es.length * (C.T e).size + us.length ∧ j < cur.size
                · rw [if_pos hj1, List.getElem?_append_left (by simp; omega), List.getElem?_append_right (by simp; omega)]
                  congr 1
                  simp; omega
                · rw [if_neg hj1]
                  rcases Nat.lt_or_ge j (es.length * (C.T e).size) with hj2 | hj2
                  · rw [List.getElem?_append_left (by simp; omega), List.getElem?_append_left (by simp; omega), List.getElem?_take, if_pos hj2]
                  · rw [List.getElem?_append_right (by simp; omega), List.getElem?_drop]
                    congr 1
                    simp; omega
              obtain ⟨R, E⟩ := F.rel.setObj (o' := .arr false (g + 1) (C.T e).size (es ++ src)) (ob := .cells (setVals cur.toList (es.length * (C.T e).size) us).toArray T (0, 0)) hσ hm ⟨Nat.le_succ g, fun e => absurd e (by omega)⟩ fun w' hw' M O hnew => by
                rw [hcells] at hnew
                refine RowR.objR hnew ((hrowO.append hrow).mov M) (by simpa using hge) hpos ?_
                simp only [List.length_append, List.length_take, List.length_drop, Array.length_toList, q1, hlen]
                omega
              exact ⟨_, _, _, hr, F.step E R, .rsl _ _ _ _ _ rfl (.inr ⟨false, g + 1, (C.T e).size, es ++ src, _, by simp [hid], hm, Nat.le_refl _, fun _ => ⟨Nat.zero_le _, by simp, .inr (.inr ⟨rfl, _, _, _, rfl, rfl, by simpa using hge, rfl, fun _ => by simp⟩)⟩⟩)⟩
      obtain ⟨u', w', m', hr, F', hv'⟩ := core
      refine fin _ _ hr ?_
      cases hf : isFrz C o with
      | true =>
        rw [hf] at hK
        obtain ⟨R, E, hv⟩ := F'.rel.freeze (nl := nl && src.isEmpty) (sz := (C.T e).size) (es := es ++ src) (by simp [hid]) hv'
        rw [List.set_set] at R E hv
        refine hn _ _ _ _ ⟨_, pb, (F'.step E R).putd hd (ResR.of ?_)⟩ hK
        have h9 : ((es ++ src).take (es.length + src.length)).drop 0 = es ++ src := by rw [← List.length_append, List.take_length, List.drop_zero]
        rw [h9] at hv
        exact hv
      | false =>
        rw [hf] at hK
        exact hn _ _ _ _ ⟨_, pb, F'.putd hd (ResR.of hv')⟩ hK

end effects
end Go.VL

/- Operations that write, or make, or call: clear. Conditions: the table of types tells the program's own rows (TabOK). -/
namespace Go.VL
variable {ro : Option Nat}

section effects
variable {C : Cfg} {A : Nat → Prop} {m0 : Mp} {σ0 : St} {w0 : World} {N : Nat} {fr : Fr} {σ : St} {a : Act} {w : World} {m : Mp} {pb : Nat → Option Nat} {o : Oper} {K : Fr → St → Prop} {next : Act → World → Prop} {Q : Exit → Act → World → Prop}

theorem e_clear (tok : TabOK C) (F : Frm A m0 σ0 w0 N fr σ a w m pb) (hd : ∀ d, o.dst = some d → d < N) {args : Array Operand} {ats : Array TypeId} (ho : o.op = .call { callee := .builtin .clear, args, argTypes := ats }) (h : ve C fr σ o K) (hn : Nxt A m0 σ0 w0 N K next) : o.wpIn (WF ro) 0 C.P a w next Q := by
  unfold ve at h
  rw [ho] at h
  simp only at h
  split at h
  · rename_i x t ha ht
    obtain rfl : args = #[x] := by apply Array.ext'; simpa using ha
    obtain rfl : ats = #[t] := by apply Array.ext'; simpa using ht
    obtain ⟨hkn, h⟩ := h
    obtain ⟨d, hd0, _, htd⟩ := (tok.ty t hkn).und
    unfold TDOK at htd
    generalize hX : opv fr x = X at h
    cases hdd : (C.T t).d <;> rw [hdd] at h htd <;> (try simp only at h) <;> try exact h.elim
    rename_i e
    simp only at htd
    subst htd
    cases X <;> (try simp only at h) <;> try exact h.elim
    rename_i id g lo hi
    obtain ⟨hke, h⟩ := h
    generalize hσ : σ[id]? = ob at h
    cases ob with
    | none => exact h.elim
    | some ob =>
      cases ob <;> (try simp only at h) <;> try exact h.elim
      rename_i nl g0 sz es
      obtain ⟨rfl, rfl, hpos, hz, hk⟩ := h
      have hvs : VR (pA A pb) m σ w (.rsl id g lo hi) (a.eval x) := hX ▸ F.opnd x (by rw [hX]; rfl)
      obtain ⟨bm, hm, h1, h2, h3⟩ := hvs.rsl_inv hσ rfl
      have hundef : ∀ {m' : Mp} {σ' : St} {w' : World}, VR (pA A pb) m' σ' w' (.tup []) (.tuple #[]) := fun {_ _ _} => .tup [] #[] rfl fun i v u h1 _ => by simp at h1
      have fin : ∀ w' : World, (Builtin.clear_ #[t] o.type #[a.eval x]).run C.P w = .ok (.tuple #[]) w' → next (a.put o.dst (.tuple #[])) w' → o.wpIn (WF ro) 0 C.P a w next Q := by
        intro w' hr hnx
        refine wp_value ?_ hnx
        obtain ⟨cs, hcs⟩ := resolve_builtin C.P a.eval .clear #[x] #[t] o.type w
        simp only [execOp, ho]
        rw [hcs]
        simp [builtin, hr]
      obtain ⟨z, hzr, hzs, hzrow⟩ := row_zeros (tok.ty e hke) hz hpos (hi - lo)
      have hnl : (es.take lo ++ List.replicate (hi - lo) (zeroOf (C.T e)) ++ es.drop hi).length = es.length := by simp; omega
      -- nothing to clear
      have same : hi = lo → (Builtin.clear_ #[t] o.type #[a.eval x]).run C.P w = .ok (.tuple #[]) w → o.wpIn (WF ro) 0 C.P a w next Q := by
        intro e0 hr
        refine fin w hr ?_
        have hes : es.take lo ++ List.replicate (hi - lo) (zeroOf (C.T e)) ++ es.drop hi = es := by
          subst e0
          simp
        rw [hes] at hk
        have hset : σ.set id (.arr nl g (C.T e).size es) = σ := by
          apply List.ext_getElem?
          intro i
          rw [List.getElem?_set]
          by_cases e : id = i
          · subst e
            rw [if_pos rfl, if_pos (List.getElem?_eq_some_iff.1 hσ).1, hσ]
          · rw [if_neg e]
        rw [hset] at hk
        exact hn _ _ _ _ ⟨_, pb, F.putd hd (ResR.of hundef)⟩ hk
      rcases h3 with ⟨hb0, hnl', hu⟩ | ⟨hb0, hnl', ad, hu⟩ | ⟨hnl', b, cap, ad, hb0, hu, k1, k2, k3⟩
      · have hes : es = [] := by
          rcases F.rel.objs id _ _ hσ hm with ⟨rfl, _⟩ | ⟨_, b', cap', us, T, e', _⟩
          · rfl
          · rw [hb0] at e'; cases e'
        subst hes
        refine same (by simp at h2; omega) ?_
        simp [Builtin.clear_, run_underlying hd0, hu]
      · have hes : es = [] := by
          rcases F.rel.objs id _ _ hσ hm with ⟨rfl, _⟩ | ⟨_, b', cap', us, T, e', _⟩
          · rfl
          · rw [hb0] at e'; cases e'
        subst hes
        refine same (by simp at h2; omega) ?_
        simp [Builtin.clear_, run_underlying hd0, hu]
      · rcases Nat.eq_zero_or_pos (hi - lo) with h0 | h0
        · refine same (by omega) ?_
          rw [h0] at hu
          simp [Builtin.clear_, run_underlying hd0, hu]
        · have had := k3 (by omega)
          subst had
          subst hb0
          obtain ⟨_, cur, T, hh, q1, q2, q3, hrow⟩ := row_obj F.rel hσ hm
          have hin : hi * (C.T e).size ≤ es.length * (C.T e).size := Nat.mul_le_mul_right _ h2
          have hcz : es.length * (C.T e).size ≤ cap * (C.T e).size := Nat.mul_le_mul_right _ k1
          have hll : lo * (C.T e).size + (hi - lo) * (C.T e).size = hi * (C.T e).size := by rw [← Nat.add_mul]; congr 1; omega
          have hzl : (Builtin.zeroCells z.cells (hi - lo)).toList.length = (hi - lo) * (C.T e).size := by have := (hzrow w (fun _ => False)).1; rwa [List.length_replicate] at this
          have hst := storeCells_run C.P b (lo * (C.T e).size) T (Builtin.zeroCells z.cells (hi - lo)).toList 0 cur w hh (by rw [hzl, Nat.add_zero, hll, q1]; omega) (hzrow w (fun _ => False)).2.2.1
          simp only [Nat.add_zero] at hst
          have hpn : ¬ (hi - lo = 0) := by omega
          obtain ⟨k, hkk⟩ : ∃ k, hi - lo = k + 1 := ⟨hi - lo - 1, by omega⟩
          refine fin { w with heap := w.heap.setIfInBounds b (.cells (setVals cur.toList (lo * (C.T e).size) (Builtin.zeroCells z.cells (hi - lo)).toList).toArray T (0, 0)) } (by
            simp only [Builtin.clear_, List.getElem?_toArray, List.getElem?_cons_zero, Sem.run_bind, run_underlying hd0, Result.andThen_ok, hu]
            rw [hkk] at hst ⊢
            simp only [Sem.run_bind, hzr, Result.andThen_ok, hst, Sem.run_pure]) ?_
          have hcells : (setVals cur.toList (lo * (C.T e).size) (Builtin.zeroCells z.cells (hi - lo)).toList).toArray = (((((cur.toList.take (es.length * (C.T e).size)).take (lo * (C.T e).size)).drop (0 * (C.T e).size) ++ (Builtin.zeroCells z.cells (hi - lo)).toList) ++ ((cur.toList.take (es.length * (C.T e).size)).take (es.length * (C.T e).size)).drop (hi * (C.T e).size)) ++ cur.toList.drop (es.length * (C.T e).size)).toArray := by
            congr 1
            apply List.ext_getElem?
            intro j
            rw [setVals_get, hzl]
            simp only [Array.length_toList, Nat.zero_mul, List.drop_zero]
            have l1 : ((cur.toList.take (es.length * (C.T e).size)).take (lo * (C.T e).size)).length = lo * (C.T e).size := by simp; omega
            have l2 : (((cur.toList.take (es.length * (C.T e).size)).take (es.length * (C.T e).size)).drop (hi * (C.T e).size)).length = es.length * (C.T e).size - hi * (C.T e).size := by simp; omega
            rcases Nat.lt_or_ge j (lo * (C.T e).size) with c1 | c1
            · rw [if_neg (by omega), List.append_assoc, List.append_assoc, List.getElem?_append_left (by rw [l1]; exact c1), List.getElem?_take, if_pos c1, List.getElem?_take, if_pos (by omega)]
            · rcases Nat.lt_or_ge j (hi * (C.T e).size) with c2 | c2
              · rw [if_pos (by omega), List.append_assoc, List.append_assoc, List.getElem?_append_right (by rw [l1]; exact c1), l1, List.getElem?_append_left (by rw [hzl]; omega)]
              · rw [if_neg (by omega), List.append_assoc, List.append_assoc, List.getElem?_append_right (by rw [l1]; omega), l1, List.getElem?_append_right (by rw [hzl]; omega), hzl]
                rcases Nat.lt_or_ge j (es.length * (C.T e).size) with c3 | c3
                · rw [List.getElem?_append_left (by rw [l2]; omega), List.getElem?_drop, List.getElem?_take, if_pos (by omega), List.getElem?_take, if_pos (by omega)]
                  congr 1; omega
                · rw [List.getElem?_append_right (by rw [l2]; omega), l2, List.getElem?_drop]
                  congr 1; omega
          obtain ⟨R, E⟩ := F.rel.setObj (o' := .arr nl g (C.T e).size (es.take lo ++ List.replicate (hi - lo) (zeroOf (C.T e)) ++ es.drop hi)) (ob := .cells (setVals cur.toList (lo * (C.T e).size) (Builtin.zeroCells z.cells (hi - lo)).toList).toArray T (0, 0)) hσ hm
            ⟨Nat.le_refl _, fun _ => ⟨rfl, rfl, rfl, hnl⟩⟩ fun w' hw' M O hnew => by
              rw [hcells] at hnew
              subst hnl'
              have r1 := hrow.cut 0 lo
              have r3 := hrow.cut hi es.length
              rw [List.take_length] at r3
              rw [List.drop_zero] at r1
              have rr := ((r1.append (hzrow w _)).append r3).mov M
              refine RowR.objR hnew rr (by rw [hnl]; exact k1) hpos ?_
              rw [rr.1, hnl]
              simp [q1]
              omega
          exact hn _ _ _ _ ⟨_, pb, (F.step E R).putd hd (ResR.of hundef)⟩ hk
  · exact h.elim

end effects
end Go.VL

/- Operations that write, or make, or call; sixth part: maps, calls; every operation. Conditions: the table of types tells the program's own rows (TabOK). -/
namespace Go.VL
variable {ro : Option Nat}

theorem bytes_data_beq (a b : ByteArray) : (a == b) = (a.data == b.data) := by cases a; cases b; rfl
theorem eq_of_bytes_beq {a b : ByteArray} (h : (a == b) = true) : a = b := by
  rw [bytes_data_beq] at h
  cases a; cases b
  simpa using h
theorem bytes_beq_self (a : ByteArray) : (a == a) = true := by rw [bytes_data_beq]; simp

theorem keq_key {td : TD} {k k' : V} {A : Nat → Prop} {m : Mp} {σ : St} {w : World} {u u' : Value} (hk : keyD td k = true) (he : keq k k' = true) (hs : sameKind k k' = true) (hr : VR A m σ w k u) (hr' : VR A m σ w k' u') : u' = u ∧ ∀ n, Instr.sameBits n u' u = true := by
  cases k <;> cases k' <;> simp only [keq, sameKind, Bool.false_eq_true] at he hs
  case agg.agg => cases td <;> simp [keyD] at hk
  case int.int =>
    rw [hr.int_inv, hr'.int_inv]
    simp only [beq_iff_eq] at he hs
    subst he hs
    exact ⟨rfl, fun n => by simp [Instr.sameBits]⟩
  case bool.bool =>
    rw [hr.bool_inv, hr'.bool_inv]
    simp only [beq_iff_eq] at he
    subst he
    exact ⟨rfl, fun n => by simp [Instr.sameBits]⟩
  case str.str =>
    rw [hr.str_inv, hr'.str_inv]
    have he := eq_of_bytes_beq he
    subst he
    exact ⟨rfl, fun n => by simp only [Instr.sameBits]; exact bytes_beq_self _⟩

theorem vput_none : ∀ {l : List (V × V)} {k v : V}, vget l k = none → vput l k v = l ++ [(k, v)]
  | [], _, _, _ => rfl
  | kv :: l, k, v, h => by
    cases hb : keq k kv.1 with
    | true => simp [vget, hb] at h
    | false =>
      have : vget l k = none := by simpa [vget, hb] using h
      simp [vput, hb, vput_none this]

theorem vput_some : ∀ {l : List (V × V)} {k v : V} {j : Nat} {kv : V × V}, l[j]? = some kv → keq k kv.1 = true → (∀ j', j' < j → ∀ kv', l[j']? = some kv' → keq k kv'.1 = false) → vput l k v = l.set j (k, v)
  | [], _, _, _, _, h, _, _ => by simp at h
  | kv0 :: l, k, v, 0, kv, h, he, _ => by
    simp at h
    subst h
    simp [vput, he]
  | kv0 :: l, k, v, j + 1, kv, h, he, hb => by
    have h0 := hb 0 (by omega) kv0 rfl
    simp only [vput, h0, cond_false, List.set_cons_succ]
    rw [vput_some (l := l) (j := j) (by simpa using h) he fun j' hj' kv' h' => hb (j' + 1) (by omega) kv' (by simpa using h')]

section effects
variable {C : Cfg} {A : Nat → Prop} {m0 : Mp} {σ0 : St} {w0 : World} {N : Nat} {fr : Fr} {σ : St} {a : Act} {w : World} {m : Mp} {pb : Nat → Option Nat} {o : Oper} {K : Fr → St → Prop} {next : Act → World → Prop} {Q : Exit → Act → World → Prop}

theorem vr_undef {A : Nat → Prop} {m : Mp} {σ : St} {w : World} : VR A m σ w (.tup []) Go.undef := .tup [] #[] rfl fun i v u h1 _ => by simp at h1

theorem e_makeMap (F : Frm A m0 σ0 w0 N fr σ a w m pb) (hd : ∀ d, o.dst = some d → d < N) {t : TypeId} {r : Option Operand} (ho : o.op = .makeMap t r) (h : ve C fr σ o K) (hn : Nxt A m0 σ0 w0 N K next) : o.wpIn (WF ro) 0 C.P a w next Q := by
  unfold ve at h
  rw [ho] at h
  obtain ⟨hr, hk⟩ := h
  cases r with
  | some r => cases hr
  | none =>
    refine wp_value (u := .map (some w.heap.size)) (w' := { w with heap := w.heap.push (.map #[] 0) }) ?_ ?_
    · simp only [execOp, ho, Option.map_none, Sem.run_bind]
      rfl
    · obtain ⟨R, E⟩ := F.rel.newObj (.map []) 0 (.map #[] 0) fun w' hw' M O hnew => ⟨w.heap.size, 0, #[], rfl, hnew, rfl, fun i kv en h1 _ => by simp at h1⟩
      exact hn _ _ _ _ ⟨_, pb, (F.step E R).putd hd (ResR.of (.mp _ _ rfl (.inr ⟨[], w.heap.size, 0, by simp, by rw [← F.rel.len]; simp, rfl⟩)))⟩ hk

theorem e_mapUpdate (tok : TabOK C) (F : Frm A m0 σ0 w0 N fr σ a w m pb) (hd : ∀ d, o.dst = some d → d < N) {t : TypeId} {x k v : Operand} (ho : o.op = .mapUpdate t x k v ∨ o.op = .insert t x k v) (h : ve C fr σ o K) (hn : Nxt A m0 σ0 w0 N K next) : o.wpIn (WF ro) 0 C.P a w next Q := by
  have h : (C.T t).known = true ∧ (match (C.T t).d, opv fr x with
    | .map kt et, .mp id => (C.T kt).known = true ∧ keyB (C.T kt) (opv fr k) = true ∧ (opv fr v).isVal = true ∧ (match σ[id]? with
      | some (.map l) => ((l.all fun kv => sameKind (opv fr k) kv.1) && updB l (opv fr k)) = true ∧ K (putd fr o (.tup [])) (σ.set id (.map (vput l (opv fr k) (opv fr v))))
      | _ => False)
    | _, _ => False) := by
    unfold ve at h
    rcases ho with ho | ho <;> rw [ho] at h <;> exact h
  have hrun : ∀ w', (Instr.mapUpdate t (a.eval x) (a.eval k) (a.eval v)).run C.P w = .ok () w' → next (a.put o.dst Go.undef) w' → o.wpIn (WF ro) 0 C.P a w next Q := by
    intro w' hr hnx
    refine wp_skip' ?_ hnx
    rcases ho with ho | ho <;> simp [execOp, ho, hr]
  obtain ⟨hkn, h⟩ := h
  obtain ⟨d, hd0, _, htd⟩ := (tok.ty t hkn).und
  unfold TDOK at htd
  generalize hX : opv fr x = X at h
  cases hdd : (C.T t).d <;> rw [hdd] at h htd <;> (try simp only at h) <;> try exact h.elim
  rename_i kt et
  simp only at htd
  subst htd
  cases X <;> (try simp only at h) <;> try exact h.elim
  rename_i id
  obtain ⟨hkk, hkd, hvv, h⟩ := h
  generalize hσ : σ[id]? = ob at h
  cases ob with
  | none => exact h.elim
  | some ob =>
    cases ob <;> (try simp only at h) <;> try exact h.elim
    rename_i l
    obtain ⟨hall, hk⟩ := h
    simp only [Bool.and_eq_true] at hall
    obtain ⟨hall, hupd⟩ := hall
    have hkr := F.opnd k (keyB_isVal hkd)
    have hvr := F.opnd v hvv
    obtain ⟨b, c, hm, e1⟩ := (hX ▸ F.opnd x (by rw [hX]; rfl) : VR _ m σ w (.mp id) _).mp_inv hσ
    obtain ⟨b', c', ents, e2, hh, hs, hv⟩ := F.rel.objs id _ _ hσ hm
    cases e2
    have hlt : b < w.heap.size := (F.rel.lt id b c hm).1
    have hc := checkKey_sound tok hkk hkd hkr false
    have hg : (getObj b).run C.P w = .ok (.map ents ents.size) w := by simp [getObj, Sem.run, hh]
    have hset : ∀ ob : Obj, (setObj b ob).run C.P w = .ok () { w with heap := w.heap.setIfInBounds b ob } := by
      intro ob
      simp [setObj, Sem.run, hh]
    rcases findKey_sound tok hkk hkd hkr l ents.toList (by simpa using hs) (fun j kv e h1 h2 => by have := hv j kv e h1 (by simpa using h2); exact ⟨this.1, this.2.1⟩) hall with ⟨q1, q2⟩ | ⟨v', j, val, q1, q2, q3, ⟨kv, q4, q5⟩, q6⟩
    · rw [vput_none q1] at hk
      refine hrun _ (by simp only [Instr.mapUpdate, Sem.run_bind, run_underlying hd0, Result.andThen_ok, e1, hg, hc, q2, Sem.run_pure, hset]; rfl) ?_
      obtain ⟨R, E⟩ := F.rel.setObj (o' := .map (l ++ [(opv fr k, opv fr v)])) (ob := .map (ents.push { key := a.eval k, val := a.eval v, born := ents.size }) (ents.size + 1)) hσ hm rfl fun w' hw' M O hnew => by
        refine ⟨b, c, ents.push { key := a.eval k, val := a.eval v, born := ents.size }, rfl, by rw [Array.size_push]; exact hnew, by simp [hs], fun i kv en h1 h2 => ?_⟩
        rcases Nat.lt_or_ge i l.length with hi | hi
        · rw [List.getElem?_append_left hi] at h1
          rw [Array.getElem?_push, if_neg (by omega)] at h2
          obtain ⟨a1, a2, a3⟩ := hv i kv en h1 h2
          exact ⟨a1.mov M O F.rel.len, a2.mov M O F.rel.len, a3⟩
        · have hi0 : i = l.length := by
            have := (List.getElem?_eq_some_iff.1 h1).1
            simp at this
            omega
          subst hi0
          rw [List.getElem?_append_right (Nat.le_refl _)] at h1
          rw [← hs, Array.getElem?_push, if_pos rfl] at h2
          simp at h1 h2
          subst h1 h2
          exact ⟨hkr.mov M O F.rel.len, hvr.mov M O F.rel.len, hs⟩
      exact hn _ _ _ _ ⟨_, pb, (F.step E R).putd hd (ResR.of vr_undef)⟩ hk
    · rw [vput_some q4 q5 q6] at hk
      have hj : j < l.length := (List.getElem?_eq_some_iff.1 q4).1
      have hje : j < ents.size := by rw [hs]; exact hj
      have hen : ents[j]? = some ents[j] := Array.getElem?_eq_getElem hje
      obtain ⟨b1, b2, b3⟩ := hv j kv _ q4 hen
      have hsk : sameKind (opv fr k) kv.1 = true := List.all_eq_true.1 hall kv (List.mem_of_getElem? q4)
      have hkd' : keyD (C.T kt).d (opv fr k) = true := by
        unfold keyB at hkd
        simp only [Bool.or_eq_true] at hkd
        rcases hkd with h | h
        · exact h
        · exfalso
          generalize opv fr k = kk at h hupd q1
          cases kk <;> simp only [keyA, Bool.false_eq_true] at h
          simp [updB, q1] at hupd
      obtain ⟨hkey, hbits⟩ := keq_key hkd' q5 hsk hkr b1
      have hstay : (Instr.keyThatStays (((ents[j]?).map (·.key)).getD (a.eval k)) (a.eval k)).run C.P w = .ok (a.eval k) w := by
        rw [hen]
        simp [Instr.keyThatStays, hbits]
      refine hrun _ (by simp only [Instr.mapUpdate, Sem.run_bind, run_underlying hd0, Result.andThen_ok, e1, hg, hc, q2, Sem.run_pure, hstay, hset]; rfl) ?_
      obtain ⟨R, E⟩ := F.rel.setObj (o' := .map (l.set j (opv fr k, opv fr v))) (ob := .map (ents.modify j fun e => { e with key := a.eval k, val := a.eval v }) ents.size) hσ hm rfl fun w' hw' M O hnew => by
        refine ⟨b, c, ents.modify j fun e => { e with key := a.eval k, val := a.eval v }, rfl, by rw [Array.size_modify]; exact hnew, by simp [hs], fun i kv en h1 h2 => ?_⟩
        rw [Array.getElem?_modify] at h2
        rw [List.getElem?_set] at h1
        by_cases hij : j = i
        · subst hij
          rw [if_pos rfl] at h1 h2
          rw [if_pos hj] at h1
          rw [hen] at h2
          simp at h1 h2
          subst h1 h2
          exact ⟨hkr.mov M O F.rel.len, hvr.mov M O F.rel.len, b3⟩
        · rw [if_neg hij] at h1 h2
          obtain ⟨a1, a2, a3⟩ := hv i kv en h1 h2
          exact ⟨a1.mov M O F.rel.len, a2.mov M O F.rel.len, a3⟩
      exact hn _ _ _ _ ⟨_, pb, (F.step E R).putd hd (ResR.of vr_undef)⟩ hk

theorem VRs.append {A : Nat → Prop} {m : Mp} {σ : St} {w : World} {vs vs' : List V} {us us' : List Value} (h : VRs A m σ w vs us) (k : VRs A m σ w vs' us') : VRs A m σ w (vs ++ vs') (us ++ us') := by
  refine ⟨by simp [h.1, k.1], fun i v u h1 h2 => ?_⟩
  rcases Nat.lt_or_ge i vs.length with hi | hi
  · rw [List.getElem?_append_left hi] at h1
    rw [List.getElem?_append_left (by rw [h.1]; exact hi)] at h2
    exact h.2 i v u h1 h2
  · rw [List.getElem?_append_right hi] at h1
    rw [List.getElem?_append_right (by rw [h.1]; exact hi), h.1] at h2
    exact k.2 _ v u h1 h2

theorem call_run (P : Program) (ρ : Operand → Value) (f : Operand) (args : Array Operand) (ats : Array TypeId) (t : TypeId) (w : World) {g : FuncId} {us ts : Array Value} (hf : ρ f = .func (.func g) us ts)
    (hfn : ∃ fn, P.funcs[g]? = some fn ∧ fn.body.isSome = true ∧ (fn.name == "runtime.NumGoroutine") = false) :
    (do let d ← resolve ρ { callee := .value f, args, argTypes := ats } t; invoke d.target d.args : Sem Next).run P w = .ok (.enter g (us ++ args.map ρ ++ ts)) w := by
  obtain ⟨fn, h1, h2, h3⟩ := hfn
  have h4 : fn.body.isNone = false := by cases hb : fn.body <;> simp_all
  have h5 : ∀ us, (callFunc g us).run P w = .ok (.enter g us) w := by
    intro us
    simp only [callFunc, Sem.run_bind, program, Sem.run, Result.andThen_ok, h1, h3, h4, Bool.false_eq_true, if_false]
    rfl
  simp [resolve, Deferred.ofValue, hf, invoke, h5]

theorem yield_run (P : Program) (ρ : Operand → Value) (f : Operand) (args : Array Operand) (ats : Array TypeId) (t : TypeId) (w : World) {l : Nat} {x : Next} (hf : ρ f = .func (.yield l) #[] #[]) (h : (Instr.yield l (args.map ρ)).run P w = .ok x w) :
    (do let d ← resolve ρ { callee := .value f, args, argTypes := ats } t; invoke d.target d.args : Sem Next).run P w = .ok x w := by
  simp [resolve, Deferred.ofValue, hf, invoke, h]

theorem e_call (F : Frm A m0 σ0 w0 N fr σ a w m pb) (hd : ∀ d, o.dst = some d → d < N) {f : Operand} {args : Array Operand} {ats : Array TypeId} (ho : o.op = .call { callee := .value f, args, argTypes := ats }) (h : ve C fr σ o K) (hn : Nxt A m0 σ0 w0 N K next) : o.wpIn (WF ro) 0 C.P a w next Q := by
  unfold ve at h
  rw [ho] at h
  simp only at h
  have hnd : ∀ c, o.op ≠ .defer c := fun c e => by rw [ho] at e; cases e
  generalize hX : opv fr f = X at h
  cases X <;> (try simp only at h) <;> try exact h.elim
  rename_i fn first cap
  cases fn <;> (try simp only at h) <;> try exact h.elim
  case func g =>
    obtain ⟨hav, hc⟩ := h
    obtain ⟨us, ts, hu, hv1, hv2⟩ := (hX ▸ F.opnd f (by rw [hX]; rfl) : VR _ m σ w (.fn (.func g) first cap) _).fn_inv
    have hargs := opnds_VRs F args.toList fun x hx => List.all_eq_true.1 hav _ (List.mem_map_of_mem hx)
    have hrun : (execOp a.eval o).run C.P w = .ok (.enter g (us ++ args.map a.eval ++ ts)) w := by
      simp only [execOp, ho]
      exact call_run C.P a.eval f args ats o.type w hu hc.1
    refine ⟨fun _ _ => trivial, ?_⟩
    rw [Oper.semAt_eq _ _ _ hnd, hrun]
    refine ⟨fun e => by simp [Fence.wide] at e, ?_⟩
    have hcall := hc.2 (pA A pb) m w _ F.rel ((hv1.append hargs).append hv2)
    have he : (us.toList ++ args.toList.map a.eval ++ ts.toList).toArray = us ++ args.map a.eval ++ ts := Array.ext' (by simp)
    rw [he] at hcall
    refine CallsIn.mono (callsIn_wide.2 hcall : CallsIn Fence.wide _ _ _ _ _ _) fun e w' ⟨r, u, m', σ', h1, h2, h3, h4, h5, h6⟩ => ?_
    subst h1
    exact hn _ _ _ _ ⟨m', pb, (F.step h4 h3).putd hd (ResR.of h2)⟩ h6
  case yield l =>
    cases first <;> (try simp only at h) <;> try exact h.elim
    cases cap <;> (try simp only at h) <;> try exact h.elim
    obtain ⟨hav, hc⟩ := h
    obtain ⟨us, ts, hu, hv1, hv2⟩ := (hX ▸ F.opnd f (by rw [hX]; rfl) : VR _ m σ w (.fn (.yield l) [] []) _).fn_inv
    have hargs := opnds_VRs F args.toList fun x hx => List.all_eq_true.1 hav _ (List.mem_map_of_mem hx)
    have hus : us = #[] := by have := hv1.1; exact Array.eq_empty_of_size_eq_zero (by simpa using this)
    have hts : ts = #[] := by have := hv2.1; exact Array.eq_empty_of_size_eq_zero (by simpa using this)
    subst hus hts
    obtain ⟨fn, tmps, as, body, hy, hround⟩ := hc (pA A pb) m w _ F.rel hargs
    have he : (args.toList.map a.eval).toArray = args.map a.eval := Array.ext' (by simp)
    rw [he] at hy
    have hrun : (execOp a.eval o).run C.P w = .ok (.round l fn tmps as body) w := by
      simp only [execOp, ho]
      exact yield_run C.P a.eval f args ats o.type w hu hy
    refine ⟨fun _ _ => trivial, ?_⟩
    rw [Oper.semAt_eq _ _ _ hnd, hrun]
    refine ⟨fun e => by simp [Fence.wide] at e, ?_⟩
    refine RoundIn.mono (hround : RoundIn Fence.wide _ _ _ _ _ _ _ _ _) fun e w' ⟨r, u, m', σ', h1, h2, h3, h4, h5, h6⟩ => ?_
    subst h1
    exact hn _ _ _ _ ⟨m', pb, (F.step h4 h3).putd hd (ResR.of h2)⟩ h6

theorem e_range (tok : TabOK C) (F : Frm A m0 σ0 w0 N fr σ a w m pb) (hd : ∀ d, o.dst = some d → d < N) {t : TypeId} {x : Operand} (ho : o.op = .range t x) (h : ve C fr σ o K) (hn : Nxt A m0 σ0 w0 N K next) : o.wpIn (WF ro) 0 C.P a w next Q := by
  unfold ve at h
  rw [ho] at h
  simp only [vrange] at h
  obtain ⟨hkn, h⟩ := h
  obtain ⟨d, hd0, _, htd⟩ := (tok.ty t hkn).und
  unfold TDOK at htd
  generalize hX : opv fr x = X at h
  cases hdd : (C.T t).d <;> rw [hdd] at h htd <;> (try simp only at h) <;> try exact h.elim
  case str =>
    simp only at htd
    subst htd
    cases X <;> (try simp only at h) <;> try exact h.elim
    rename_i s
    have e1 := (hX ▸ F.opnd x (by rw [hX]; rfl) : VR _ m σ w (.str s) _).str_inv
    refine wp_value (u := .pointer (some ⟨w.heap.size, 0, none⟩)) (w' := { w with heap := w.heap.push (.stringIter s 0) }) ?_ ?_
    · simp only [execOp, ho, e1, run_range_string w t s hd0, Sem.run_bind]
      rfl
    · obtain ⟨R, E⟩ := F.rel.newObj (.siter s 0) 0 (.stringIter s 0) fun w' hw' M O hnew => ⟨w.heap.size, 0, rfl, hnew⟩
      exact hn _ _ _ _ ⟨_, pb, (F.step E R).putd hd (ResR.of (.iter _ _ rfl (.inr ⟨.siter s 0, w.heap.size, 0, by simp, rfl, by rw [← F.rel.len]; simp, rfl⟩)))⟩ h
  case map kt et =>
    simp only at htd
    subst htd
    cases X <;> (try simp only at h) <;> try exact h.elim
    rename_i id
    generalize hσ : σ[id]? = ob at h
    cases ob with
    | none => exact h.elim
    | some ob =>
      cases ob <;> (try simp only at h) <;> try exact h.elim
      rename_i l
      obtain ⟨b, c, hm, e1⟩ := (hX ▸ F.opnd x (by rw [hX]; rfl) : VR _ m σ w (.mp id) _).mp_inv hσ
      obtain ⟨b', c', ents, e2, hh, hs, hv⟩ := F.rel.objs id _ _ hσ hm
      cases e2
      refine wp_value (u := .pointer (some ⟨w.heap.size, 0, none⟩)) (w' := { w with heap := w.heap.push (.mapIter (some b) l.length #[] l.length) }) ?_ ?_
      · simp only [execOp, ho, e1, run_range_map w t _ _ b ents ents.size hd0 hh, Sem.run_bind, hs]
        rfl
      · obtain ⟨R, E⟩ := F.rel.newObj (.iter id l.length (List.range l.length) none) 0 (.mapIter (some b) l.length #[] l.length) fun w' hw' M O hnew =>
          ⟨w.heap.size, 0, #[], rfl, List.nodup_range, by simp, fun i hi => (by cases hi), .inr ⟨l, b, c, by rw [List.getElem?_append_left (List.getElem?_eq_some_iff.1 hσ).1]; exact hσ, by rw [List.getElem?_append_left (List.getElem?_eq_some_iff.1 hm).1]; exact hm, hnew⟩⟩
        exact hn _ _ _ _ ⟨_, pb, (F.step E R).putd hd (ResR.of (.iter _ _ rfl (.inr ⟨.iter id l.length (List.range l.length) none, w.heap.size, 0, by simp, rfl, by rw [← F.rel.len]; simp, rfl⟩)))⟩ h

theorem VR.tup3 {A : Nat → Prop} {m : Mp} {σ : St} {w : World} {v v' v'' : V} {u u' u'' : Value} (h : VR A m σ w v u) (h' : VR A m σ w v' u') (h'' : VR A m σ w v'' u'') : VR A m σ w (.tup [v, v', v'']) (.tuple #[u, u', u'']) := by
  refine .tup _ _ rfl fun i x y h1 h2 => ?_
  match i with
  | 0 => simp at h1 h2; rw [← h1, ← h2]; exact h
  | 1 => simp at h1 h2; rw [← h1, ← h2]; exact h'
  | 2 => simp at h1 h2; rw [← h1, ← h2]; exact h''
  | n + 3 => simp at h1
theorem VR.tup1 {A : Nat → Prop} {m : Mp} {σ : St} {w : World} {v : V} {u : Value} (h : VR A m σ w v u) : VR A m σ w (.tup [v]) (.tuple #[u]) := by
  refine .tup _ _ rfl fun i x y h1 h2 => ?_
  match i with
  | 0 => simp at h1 h2; rw [← h1, ← h2]; exact h
  | n + 1 => simp at h1

theorem byte_at (s : ByteArray) (pos : Nat) (h : pos < s.size) : s.data.toList.getD pos 0 = s[pos]'h := by
  have : pos < s.data.size := h
  rw [List.getD_eq_getElem?_getD, Array.getElem?_toList, Array.getElem?_eq_getElem this]
  rfl

theorem e_next (F : Frm A m0 σ0 w0 N fr σ a w m pb) (hd : ∀ d, o.dst = some d → d < N) {x : Operand} {isS : Bool} (ho : o.op = .next x isS) (h : ve C fr σ o K) (hn : Nxt A m0 σ0 w0 N K next) : o.wpIn (WF ro) 0 C.P a w next Q := by
  unfold ve at h
  rw [ho] at h
  simp only [vnext] at h
  generalize hX : opv fr x = X at h
  cases X <;> (try simp only at h) <;> try exact h.elim
  rename_i id off
  obtain ⟨rfl, h⟩ := h
  generalize hσ : σ[id]? = ob at h
  cases ob with
  | none => exact h.elim
  | some ob =>
    cases ob <;> (try simp only at h) <;> try exact h.elim
    case siter s pos =>
      obtain ⟨rfl, h⟩ := h
      obtain ⟨b, c, hm, e1⟩ := (hX ▸ F.opnd x (by rw [hX]; rfl) : VR _ m σ w (.ptr id 0) _).iter_inv hσ rfl
      obtain ⟨b', c', e2, hh⟩ := F.rel.objs id _ _ hσ hm
      cases e2
      by_cases hlt : pos < s.size
      · have hb : Nat.blt pos s.size = true := Nat.ble_eq_true_of_le hlt
        rw [hb] at h
        obtain ⟨hasc, hk⟩ := h
        rw [byte_at s pos hlt] at hasc hk
        refine wp_value (u := .tuple #[.bool true, .int .i64 pos, .int .i32 (s[pos]'hlt).toNat]) (w' := { w with heap := w.heap.setIfInBounds b (.stringIter s (pos + 1)) }) ?_ ?_
        · simp only [execOp, ho, e1, Instr.next, getObj, setObj, Sem.run_bind, Sem.run, hh, Result.andThen, hlt, if_true, decode_ascii s pos hlt hasc]
          simp [goInt, Sem.run, hh]
        · obtain ⟨R, E⟩ := F.rel.setObj (o' := .siter s (pos + 1)) (ob := .stringIter s (pos + 1)) hσ hm rfl fun w' hw' M O hnew => ⟨b, c, rfl, hnew⟩
          exact hn _ _ _ _ ⟨_, pb, (F.step E R).putd hd (ResR.of ((VR.imm _ _ (.bool _)).tup3 (.imm _ _ (.int _ _)) (.imm _ _ (.int _ _))))⟩ hk
      · have hb : Nat.blt pos s.size = false := by
          cases hb : Nat.blt pos s.size with
          | false => rfl
          | true => exact absurd (Nat.le_of_ble_eq_true hb) hlt
        rw [hb] at h
        refine wp_value (u := .tuple #[.bool false]) (w' := w) ?_ ?_
        · simp [execOp, ho, e1, Instr.next, getObj, Sem.run, hh, hlt]
        · exact hn _ _ _ _ ⟨_, pb, F.putd hd (ResR.of (VR.imm _ _ (.bool _)).tup1)⟩ h
    case iter mid n left cur =>
      obtain ⟨rfl, h⟩ := h
      generalize hσm : σ[mid]? = obm at h
      cases obm with
      | none => exact h.elim
      | some obm =>
        cases obm <;> (try simp only at h) <;> try exact h.elim
        rename_i l
        obtain ⟨hln, hend, hstep⟩ := h
        obtain ⟨b, c, hm, e1⟩ := (hX ▸ F.opnd x (by rw [hX]; rfl) : VR _ m σ w (.ptr id 0) _).iter_inv hσ rfl
        obtain ⟨b', c', seen, e2, hnd, hmem, hcur, h3⟩ := F.rel.objs id _ _ hσ hm
        cases e2
        rcases h3 with h3 | ⟨l', mb, mc, k1, k2, k3⟩
        · rw [hσm] at h3; cases h3
        rw [hσm] at k1
        cases k1
        obtain ⟨b2, c2, ents, e3, hh, hs, hv⟩ := F.rel.objs mid _ _ hσm k2
        cases e3
        have hborn : ∀ e ∈ ents.toList, ∃ i, i < n ∧ e.born = i ∧ ents[i]? = some e := by
          intro e he
          obtain ⟨i, hi, rfl⟩ := List.mem_iff_getElem.1 he
          have hi' : i < ents.size := by simpa using hi
          obtain ⟨_, _, q3⟩ := hv i _ _ (List.getElem?_eq_getElem (by omega)) (Array.getElem?_eq_getElem hi')
          exact ⟨i, by omega, by simpa using q3, by simp [hi']⟩
        have hold : ∀ e ∈ ents.toList, e.born < n := fun e he => by
          obtain ⟨i, h1, h2, _⟩ := hborn e he
          omega
        rcases run_next_at (P := C.P) w o.type b mb n n seen ents ents.size k3 hh hold (Nat.le_refl _) with ⟨h0, hrun⟩ | ⟨e, he, w1, hal, hrun⟩
        · have hl : left = [] := by
            cases left with
            | nil => rfl
            | cons i r =>
              obtain ⟨hi1, hi2⟩ := (hmem i).1 (by simp)
              have hie : i < ents.size := by omega
              obtain ⟨_, _, q3⟩ := hv i _ _ (List.getElem?_eq_getElem (by omega)) (Array.getElem?_eq_getElem hie)
              have : ents[i] ∈ leftOf ents seen := by
                unfold leftOf
                rw [Array.mem_filter]
                refine ⟨Array.getElem_mem hie, ?_⟩
                rw [q3]
                simpa using hi2
              have := Array.size_pos_of_mem this
              omega
          exact wp_value (by simp only [execOp, ho, e1, hrun, Sem.run_bind]; rfl) (hn _ _ _ _ ⟨_, pb, F.putd hd (ResR.of (VR.imm _ _ (.bool _)).tup1)⟩ (hend hl))
        · obtain ⟨he1, he2⟩ := mem_left he
          obtain ⟨i, hi, hbi, hei⟩ := hborn e he1
          have hil : i ∈ left := (hmem i).2 ⟨hi, by rw [hbi] at he2; simpa using he2⟩
          have hli : i < l.length := by omega
          obtain ⟨q1, q2, q3⟩ := hv i _ _ (List.getElem?_eq_getElem hli) hei
          have hne : id ≠ mid := fun e => by subst e; rw [hσ] at hσm; cases hσm
          obtain ⟨nd, F1, hw1, hdr⟩ : ∃ nd, Frm A m0 σ0 w0 N fr σ a { w with drawn := nd } m pb ∧ w1 = { w with drawn := nd } ∧ Mov (pA A pb) m w (pA A pb) m w1 := by
            rcases hal with rfl | rfl
            · exact ⟨w1.drawn, F, rfl, (Grow.refl w1).mov⟩
            · exact ⟨w.drawn + 1, F.grow (Grow.drawn w _), rfl, (Grow.drawn w _).mov⟩
          subst hw1
          obtain ⟨R, E⟩ := F1.rel.setObj (o' := .iter mid n (left.erase i) (some i)) (ob := .mapIter (some mb) n (seen.push e.born) ents.size) hσ hm rfl fun w' hw' M O hnew =>
            ⟨b, c, seen.push e.born, rfl, hnd.erase i, fun j => by
              rw [hnd.mem_erase_iff, hmem j, Array.toList_push, List.mem_append, List.mem_singleton, hbi]
              constructor
              · exact fun h => ⟨h.2.1, fun h' => h'.elim h.2.2 h.1⟩
              · exact fun h => ⟨fun h' => h.2 (.inr h'), h.1, fun h' => h.2 (.inl h')⟩, fun j hj => (by cases hj; simp [hbi]), .inr ⟨l, mb, mc, by rw [List.getElem?_set, if_neg hne]; exact hσm, k2, by rw [hnew, hs, hln]⟩⟩
          refine wp_value (by simp only [execOp, ho, e1, hrun, Sem.run_bind]; rfl) (hn _ _ _ _ ⟨_, pb, (F1.step E R).putd hd (ResR.of ((VR.imm _ _ (.bool _)).tup3 ?_ ?_))⟩ (hstep i _ hil (List.getElem?_eq_getElem hli)))
          · exact (q1.mov hdr (ObjsLe.refl m σ) F.rel.len).mov E.mov E.objs F.rel.len
          · exact (q2.mov hdr (ObjsLe.refl m σ) F.rel.len).mov E.mov E.objs F.rel.len

theorem e_make (tok : TabOK C) (F : Frm A m0 σ0 w0 N fr σ a w m pb) (hd : ∀ d, o.dst = some d → d < N) {t : TypeId} {x y : Operand} (ho : o.op = .makeSlice t x y) (h : ve C fr σ o K) (hn : Nxt A m0 σ0 w0 N K next) : o.wpIn (WF ro) 0 C.P a w next Q := by
  unfold ve at h
  rw [ho] at h
  simp only [vmake] at h
  obtain ⟨hkn, h⟩ := h
  obtain ⟨d, hd0, _, htd⟩ := (tok.ty t hkn).und
  unfold TDOK at htd
  generalize hX : opv fr x = X at h
  generalize hY : opv fr y = Y at h
  cases hdd : (C.T t).d <;> rw [hdd] at h htd <;> (try simp only at h) <;> try exact h.elim
  rename_i e
  simp only at htd
  subst htd
  obtain ⟨hke, hpos, hby, hz1, h⟩ := h
  cases X <;> (try simp only at h) <;> try exact h.elim
  rename_i k n
  cases k <;> (try simp only at h) <;> try exact h.elim
  cases Y <;> (try simp only at h) <;> try exact h.elim
  rename_i k n'
  cases k <;> (try simp only at h) <;> try exact h.elim
  obtain ⟨rfl, h0, hlim, hk⟩ := h
  have e1 := (hX ▸ F.opnd x (by rw [hX]; rfl) : VR _ m σ w (.int .i64 n') _).int_inv
  have e2 := (hY ▸ F.opnd y (by rw [hY]; rfl) : VR _ m σ w (.int .i64 n') _).int_inv
  have he := tok.ty e hke
  obtain ⟨zc, hzr, hzs, hrow⟩ := row_zeros he hz1 hpos n'.toNat
  have hsz := he.sizeOf w
  obtain ⟨ie, hie, his, hib⟩ := he.info
  unfold lim at hlim
  have wl : IntKind.i64.wrap n' = n' := wrap_ok h0 hlim
  have n1 : ¬ n' < 0 := by omega
  have hb1 : (ie.bytes : Int) * n' ≤ 4096 * 4294967296 := Int.mul_le_mul (by omega) hlim h0 (by omega)
  have n2 : ¬ (281474976710656 < (ie.bytes : Int) * n') := by omega
  have hw : (Instr.makeSlice t (.int .i64 n') (.int .i64 n')).run C.P w = .ok (.slice (some ⟨w.heap.size, 0, none⟩) n'.toNat n'.toNat) { w with heap := w.heap.push (.cells (Builtin.zeroCells zc.cells n'.toNat) e (0, 0)) } := by
    by_cases hn0 : n'.toNat * (C.T e).size = 0
    · have hn1 : n'.toNat = 0 := by
        rcases Nat.mul_eq_zero.1 hn0 with h | h
        · exact h
        · omega
      simp [Instr.makeSlice, run_underlying hd0, asInt, asIntOf, typeInfo, hie, hsz, wl, n1, n2, hn0, newRow, Builtin.zeroCells, hzs, hn1, Array.range_zero']
    · have hn1 : ¬ n'.toNat = 0 := fun h => hn0 (by rw [h, Nat.zero_mul])
      simp [Instr.makeSlice, run_underlying hd0, asInt, asIntOf, typeInfo, hie, hsz, wl, n1, n2, hn0, newRow, Builtin.zeroCells, hzs, hzr]
  refine wp_value (by simp only [execOp, ho, e1, e2, hw, Sem.run_bind]; rfl) ?_
  obtain ⟨R, E⟩ := F.rel.newObj (.arr false 0 (C.T e).size (List.replicate n'.toNat (zeroOf (C.T e)))) n'.toNat (.cells (Builtin.zeroCells zc.cells n'.toNat) e (0, 0)) fun w' hw' M O hnew => by
    have hr := (hrow w (Bad (pA A pb) m)).mov M
    have : (Builtin.zeroCells zc.cells n'.toNat) = ((Builtin.zeroCells zc.cells n'.toNat).toList ++ []).toArray := by simp
    rw [this] at hnew
    exact RowR.objR hnew hr (by simp) hpos (by rw [hr.1]; simp)
  exact hn _ _ _ _ ⟨_, pb, (F.step E R).putd hd (ResR.of (.rsl _ _ _ _ _ rfl (.inr ⟨false, 0, (C.T e).size, List.replicate n'.toNat (zeroOf (C.T e)), some (w.heap.size, n'.toNat), by simp, by rw [← F.rel.len]; simp, Nat.le_refl _, fun _ => ⟨Nat.zero_le _, by rw [List.length_replicate]; exact Nat.le_refl _, .inr (.inr ⟨rfl, _, _, _, rfl, rfl, by rw [List.length_replicate]; exact Nat.le_refl _, rfl, fun _ => by rw [Nat.zero_mul]⟩)⟩⟩)))⟩ hk

theorem isU8_inv {v : V} (h : isU8 v = true) : ∃ n, v = .int .u8 n := by
  cases v <;> simp only [isU8] at h <;> try cases h
  rename_i k n
  cases k <;> simp only [isU8] at h <;> try cases h
  exact ⟨n, rfl⟩
/-- A row of bytes is built as an object. -/
theorem e_buildRow (tok : TabOK C) (F : Frm A m0 σ0 w0 N fr σ a w m pb) (hd : ∀ d, o.dst = some d → d < N) {t : TypeId} {n : Nat} {parts : Array (Nat × Operand)} (ho : o.op = .buildSlice t n parts) (h : ve C fr σ o K) (hn : Nxt A m0 σ0 w0 N K next) : o.wpIn (WF ro) 0 C.P a w next Q := by
  unfold ve at h
  rw [ho] at h
  simp only at h
  obtain ⟨e, cells, w', hw', hcs, hlp, hk, hres, hx⟩ := build_core tok F ho h
  generalize (parts.toList.map fun p => opv fr p.2) = es at hlp hk hres
  simp only [vrow] at hk
  obtain ⟨hsz, hpos, hu8, hk⟩ := hk
  rw [hsz] at hres hk hcs
  subst hlp
  subst hw'
  refine wp_value hx ?_
  cases hres with
  | sl _ _ _ ad cap cell hB hblk hcap hclip hszs hcell hone hv =>
    have hcs' : cells.size = es.length := by rw [hcs, Nat.mul_one]
    have hnew : ({ w with heap := w.heap.push (.cells cells e (0, 0)) } : World).heap[w.heap.size]? = some (.cells cells e (0, 0)) := heap_push_new w _
    have hat : ∀ i, i < es.length → cells[i]? = some (cell i) := fun i hi => by
      have h1 := hcell i (by rw [Nat.mul_one]; exact hi)
      have hi' : i < cells.size := by rw [hcs']; exact hi
      have h2 := cells_at hnew 0 i cells[i] (by simp [hi'])
      rw [h1] at h2
      rw [Array.getElem?_eq_getElem hi']
      exact h2.symm
    obtain ⟨R, E⟩ := F.rel.newObj (.arr false 0 1 es) es.length (.cells cells e (0, 0)) fun w' hw' M O hnew => by
      refine .inr ⟨rfl, _, _, cells, e, rfl, hnew, hcs, Nat.le_refl _, Nat.one_pos, hszs, fun i x hx r v hv' => ?_⟩
      have hi := (List.getElem?_eq_some_iff.1 hx).1
      obtain ⟨k, rfl⟩ := isU8_inv (List.all_eq_true.1 hu8 x (List.mem_of_getElem? hx))
      have hr : r = 0 := by
        cases r with
        | zero => rfl
        | succ r => simp [V.cells] at hv'
      subst hr
      have hv1 : V.int .u8 k = v := by simpa [V.cells] using hv'
      subst hv1
      have h3 := hv i _ hx 0 _ hv'
      rw [Nat.mul_one, Nat.add_zero] at h3
      have hce : cell i = .int .u8 k := by
        generalize cell i = q at h3
        cases h3; rfl
      refine ⟨cell i, by rw [Nat.mul_one, Nat.add_zero]; exact hat i hi, by rw [hce]; rfl, ?_⟩
      rw [hce]
      exact .int _ _
    exact hn _ _ _ _ ⟨_, pb, (F.step E R).putd hd (ResR.of (.rsl _ _ _ _ _ rfl (.inr ⟨false, 0, 1, es, some (w.heap.size, es.length), by simp, by rw [← F.rel.len]; simp, Nat.le_refl _, fun _ => ⟨Nat.zero_le _, Nat.le_refl _, .inr (.inr ⟨rfl, _, _, _, rfl, rfl, Nat.le_refl _, rfl, fun _ => by rw [Nat.zero_mul]⟩)⟩⟩)))⟩ hk
/-- Bytes seen as bytes that a text shares. -/
theorem run_share {P : Program} {w : World} {s e : TypeId} {b n cap : Nat} {us : Array Value} {T : TypeId} (hs : P.underlying s = some (.slice e)) (he : P.underlying e = some (.int .u8)) (hh : w.heap[b]? = some (.cells us T (0, 0))) :
    ∃ w', (convert s s (.slice (some ⟨b, 0, none⟩) n cap)).run P w = .ok (.slice (some ⟨b, 0, none⟩) n cap) w' ∧ w'.os = w.os ∧ w'.tape = w.tape ∧ w'.output = w.output ∧ w'.heap.size = w.heap.size ∧ (∀ b', b' ≠ b → w'.heap[b']? = w.heap[b']?) ∧ w'.heap[b]? = some (.cells us T (us.size, us.size + 1)) := by
  have hsh : w.shape? b = some (T, us.size) := by unfold World.shape?; rw [hh]
  have hlt : b < w.heap.size := (Array.getElem?_eq_some_iff.1 hh).1
  have hgb : w.heap[b] = .cells us T (0, 0) := (Array.getElem?_eq_some_iff.1 hh).2
  refine ⟨w.freeze ⟨b, us.size, none⟩ 1, ?_, ?_, ?_, ?_, ?_, ?_, ?_⟩
  · simp [convert, run_underlying hs, run_underlying he, markStringish, hsh]
  · unfold World.freeze; rw [if_neg (by decide)]
  · unfold World.freeze; rw [if_neg (by decide)]
  · unfold World.freeze; rw [if_neg (by decide)]
  · unfold World.freeze; rw [if_neg (by decide)]; simp
  · intro b' hb'
    unfold World.freeze
    rw [if_neg (by decide)]
    simp only [Array.getElem?_modify]
    rw [if_neg (fun h => hb' h.symm)]
  · unfold World.freeze
    rw [if_neg (by decide)]
    simp only [Array.getElem?_modify]
    rw [if_pos trivial, hh]
    rfl
theorem e_share (tok : TabOK C) (F : Frm A m0 σ0 w0 N fr σ a w m pb) (hd : ∀ d, o.dst = some d → d < N) {s d : TypeId} {x : Operand} (ho : o.op = .convert s d x) (h : ve C fr σ o K) (hn : Nxt A m0 σ0 w0 N K next) : o.wpIn (WF ro) 0 C.P a w next Q := by
  unfold ve at h
  rw [ho] at h
  simp only [vshare] at h
  obtain ⟨hsd, hks, h⟩ := h
  have hsd := Nat.eq_of_beq_eq_true hsd
  subst hsd
  obtain ⟨ds, hds, _, hts⟩ := (tok.ty s hks).und
  unfold TDOK at hts
  generalize hX : opv fr x = X at h
  cases hdd : (C.T s).d <;> rw [hdd] at h hts <;> (try simp only at h) <;> try exact h.elim
  rename_i e
  simp only at hts
  subst hts
  obtain ⟨hke, hu, h⟩ := h
  have hue : C.P.underlying e = some (.int .u8) := by
    obtain ⟨de, hde, _, hte⟩ := (tok.ty e hke).und
    unfold TDOK at hte
    cases hd2 : (C.T e).d <;> rw [hd2] at hu hte <;> (try exact hu.elim)
    obtain ⟨k, rfl, hz⟩ := hte
    rw [hz] at hu
    cases k <;> first | exact hde | exact hu.elim
  cases X <;> (try simp only at h) <;> try exact h.elim
  rename_i id g lo hi
  generalize hσ : σ[id]? = ob at h
  cases ob with
  | none => exact h.elim
  | some ob =>
    cases ob <;> (try simp only at h) <;> try exact h.elim
    rename_i nl g0 sz es
    obtain ⟨rfl, rfl, rfl, rfl, rfl, hu8, hpos, hk⟩ := h
    have hvr : VR _ m σ w (.rsl id g 0 es.length) (a.eval x) := hX ▸ F.opnd x (by rw [hX]; rfl)
    obtain ⟨bm, hm, h1, h2, h3⟩ := hvr.rsl_inv hσ rfl
    rcases h3 with ⟨e1, hnl, _⟩ | ⟨hbm, _, ad, hu⟩ | ⟨_, b, cap, ad, rfl, hu, k1, k2, k3⟩
    · cases hnl
    · rcases F.rel.objs id _ _ hσ hm with ⟨h0, _⟩ | ⟨_, b, cap, us, T, hb, _⟩
      · rw [h0] at hpos; exact absurd hpos (by simp)
      · rw [hbm] at hb; cases hb
    · obtain ⟨_, us, T, hh, q1, q2, q3, hrow⟩ := row_obj F.rel hσ hm
      have ha := k3 (by omega)
      rw [Nat.zero_mul] at ha
      subst ha
      obtain ⟨w', hrun, w1, w2, w3, w4, w5, w6⟩ := run_share (n := es.length - 0) (cap := cap - 0) hds hue hh
      obtain ⟨R, E, hnB⟩ := F.rel.share hσ hm w1 w2 w3 w4 w5
      refine wp_value (w' := w') (by simp only [execOp, ho, hu, Sem.run_bind, hrun, Result.andThen_ok]; rfl) (hn _ _ _ _ ⟨_, pb, (F.step E R).putd hd (ResR.of (.imm _ _ ?_))⟩ hk)
      have hat : ∀ (i : Nat) (x : V), es[i]? = some x → ∃ k : Int, x = V.int .u8 k ∧ us[i]? = some (Value.int .u8 k) := by
        intro i x hx
        obtain ⟨k, rfl⟩ := isU8_inv (List.all_eq_true.1 hu8 x (List.mem_of_getElem? hx))
        obtain ⟨u, hu', hvi⟩ := hrow.2.2.2 i _ hx 0 (.int .u8 k) rfl
        simp only [Nat.mul_one, Nat.add_zero, List.getElem?_take] at hu'
        split at hu'
        · refine ⟨k, rfl, ?_⟩
          rw [← Array.getElem?_toList, hu']
          cases hvi; rfl
        · cases hu'
      have hget : ∀ i : Nat, i < es.length → ∃ k : Int, es[i]? = some (V.int .u8 k) ∧ us[i]? = some (Value.int .u8 k) := fun i hi => by
        obtain ⟨k, h1, h2⟩ := hat i es[i] (List.getElem?_eq_getElem hi)
        exact ⟨k, by rw [List.getElem?_eq_getElem hi, h1], h2⟩
      have hbs := (F.rel.lt id b cap hm).1
      refine .sl false 1 es ⟨b, 0, none⟩ cap (fun j => us.getD j undef) (fun _ => hnB) (fun _ => by rw [w4]; exact hbs) q2 (fun h => by cases h) hrow.2.1 (fun j hj => ?_) (fun j hj => ?_) fun i x hx r v hv => ?_
      · obtain ⟨k, _, h2⟩ := hget j (by rwa [Nat.mul_one] at hj)
        refine cells_at w6 0 j _ ?_
        rw [List.drop_zero, Array.getElem?_toList, h2]
        simp [Array.getD_eq_getD_getElem?, h2]
      · obtain ⟨k, _, h2⟩ := hget j (by rwa [Nat.mul_one] at hj)
        simp only [Array.getD_eq_getD_getElem?, h2, Option.getD_some]
        rfl
      · obtain ⟨k, rfl, h2⟩ := hat i x hx
        have hr : r = 0 := by
          cases r with
          | zero => rfl
          | succ r => simp [V.cells] at hv
        subst hr
        have hv1 : V.int .u8 k = v := by simpa [V.cells] using hv
        subst hv1
        simp only [Nat.mul_one, Nat.add_zero, Array.getD_eq_getD_getElem?, h2, Option.getD_some]
        exact .int _ _

/-- Every operation. -/
theorem vstep_sound (tok : TabOK C) (F : Frm A m0 σ0 w0 N fr σ a w m pb) (hd : ∀ d, o.dst = some d → d < N) (h : vstep C fr σ o K) (hn : Nxt A m0 σ0 w0 N K next) : o.wpIn (WF ro) 0 C.P a w next Q := by
  unfold vstep at h
  cases he : effect o.op with
  | false =>
    rw [he] at h
    exact e_quiet tok F hd h hn
  | true =>
    rw [he] at h
    simp only [cond_true] at h
    cases ho : o.op <;> rw [ho] at he <;> simp only [effect, Bool.false_eq_true] at he
    case alloc t => exact e_alloc tok F hd ho h hn
    case box t x => exact e_box F hd ho h hn
    case store t p x => exact e_store tok F hd ho h hn
    case insert t x k v => exact e_mapUpdate tok F hd (.inr ho) h hn
    case mapUpdate t x k v => exact e_mapUpdate tok F hd (.inl ho) h hn
    case makeMap t r => exact e_makeMap F hd ho h hn
    case range t x => exact e_range tok F hd ho h hn
    case next x s => exact e_next F hd ho h hn
    case makeSlice t x y => exact e_make tok F hd ho h hn
    case call c =>
      obtain ⟨callee, args, ats⟩ := c
      cases callee with
      | value f => exact e_call F hd ho h hn
      | invoke r n => simp [effect] at he
      | builtin b =>
        cases b <;> simp only [effect, Bool.false_eq_true] at he
        case append =>
          unfold ve at h
          rw [ho] at h
          simp only at h
          split at h
          · rename_i s x st xt ha ht
            exact e_append tok F hd ho ha ht h hn
          · exact h.elim
        case clear => exact e_clear tok F hd ho h hn

/-- What stands among the changes of a region. -/
theorem ve_sound (tok : TabOK C) (F : Frm A m0 σ0 w0 N fr σ a w m pb) (hd : ∀ d, o.dst = some d → d < N) (he : effect o.op = true ∨ (∃ x, o.op = .assign x) ∨ (∃ t n p, o.op = .buildSlice t n p) ∨ ∃ s d x, o.op = .convert s d x) (h : ve C fr σ o K) (hn : Nxt A m0 σ0 w0 N K next) : o.wpIn (WF ro) 0 C.P a w next Q := by
  rcases he with he | ⟨x, ho⟩ | ⟨t, n, p, ho⟩ | ⟨s, d, x, ho⟩
  · refine vstep_sound tok F hd ?_ hn
    unfold vstep
    rw [he]
    exact h
  · refine e_quiet tok F hd ?_ hn
    unfold ve at h
    rw [ho] at h ⊢
    exact h
  · exact e_buildRow tok F hd ho h hn
  · exact e_share tok F hd ho h hn

end effects
end Go.VL

/- The value-level logic, third part: regions (those that draw their order, too), code, functions. Conditions: none (definitions). -/
namespace Go.VL

def gslot (all : List Oper) (j : Nat) : Option Nat := (all[j]?).bind (·.dst)

def vops (C : Cfg) (all : List Oper) : List Oper → Fr → St → (Fr → St → Prop) → Prop
  | [], fr, σ, Q => Q fr σ
  | o :: os, fr, σ, Q => match o.guard with
    | none => vstep C fr σ o fun fr' σ' => vops C all os fr' σ' Q
    | some (j, want) => match gslot all j with
      | some d => (match lk fr d with
        | .bool b => bif b == want then (vstep C fr σ o fun fr' σ' => vops C all os fr' σ' Q) else vops C all os (putd fr o (.tup [])) σ Q
        | .tup [] => vops C all os (putd fr o (.tup [])) σ Q
        | _ => False)
      | none => False

/-! Regions whose operations come in any order that their edges let: operations that change something (tl) come one behind the other; the others are shown to tell the same wherever they may come. -/

def depsOf (o : Oper) : List Nat := (o.after.toList.filter (Region.binds .any)).map (·.on)

/-- What waits for what, a number's bits. -/
def ancsGo : List Oper → List Nat → List Nat
  | [], acc => acc
  | o :: os, acc => ancsGo os (acc ++ [(depsOf o).foldl (fun x d => x ||| (1 <<< d) ||| acc.getD d 0) 0])
/-- One round more, for edges that go back. -/
def ancsIt (ops : List Oper) (prev : List Nat) : List Nat := ops.map fun o => (depsOf o).foldl (fun x d => x ||| (1 <<< d) ||| prev.getD d 0) 0
def ancsN (ops : List Oper) : Nat → List Nat → List Nat
  | 0, l => l
  | n + 1, l => ancsN ops n (ancsIt ops l)
def backB : List Oper → Nat → Bool
  | [], _ => false
  | o :: os, k => ((depsOf o).any fun d => Nat.ble k d) || backB os (k + 1)
def ancs (ops : List Oper) : List Nat := bif backB ops 0 then ancsN ops 12 (ancsGo ops []) else ancsGo ops []
def bitB (x i : Nat) : Bool := Nat.testBit x i

/-- One of these behind the other: what waits, for what. -/
def edgesOf : List Nat → List (Nat × Nat)
  | a :: b :: r => (b, a) :: edgesOf (b :: r)
  | _ => []
def newAfter (es : List (Nat × Nat)) (k : Nat) : Array Edge := ((es.filter fun e => Nat.beq e.1 k).map fun e => { on := e.2, ground := .chain }).toArray
def addE (es : List (Nat × Nat)) : List Oper → Nat → List Oper
  | [], _ => []
  | o :: os, k => { o with after := o.after ++ newAfter es k } :: addE es os (k + 1)
/-- The operations, where those of τ come in its order. -/
def chainO (τ : List Nat) (ops : List Oper) : List Oper := match τ with
  | [] => ops
  | _ => addE (edgesOf τ) ops 0

def nodupB : List Nat → Bool
  | [] => true
  | i :: l => !memB l i && nodupB l

/-- What may stand among the changes. -/
def effA : Op → Bool
  | .assign _ | .buildSlice _ _ _ | .convert _ _ _ => true
  | op => effect op

/-- Each one stands behind what it waits for; what changes something waits for what has changed something, and so does what stands behind it. -/
def planB (ops : List Oper) (an tl : List Nat) : List Nat → List Nat → Option Nat → Bool
  | [], _, _ => true
  | i :: rest, seen, last => (match ops[i]? with
      | some o => (depsOf o).all (memB seen) &&
          (match last with | some t => bitB (an.getD i 0) t | none => true) &&
          (bif memB tl i then effA o.op && o.guard.isNone else
            (o.dst.isSome && (match o.op with | .call { callee := .value _, .. } => true | .call { callee := .builtin .append, .. } => true | op => !effect op) && (match o.guard with | some (j, _) => memB (depsOf o) j && !memB tl j | none => true)))
      | none => false) && planB ops an tl rest (i :: seen) (bif memB tl i then some i else last)

/-- Places that operations that change nothing write. -/
def qdstsGo (tl : List Nat) : List Oper → Nat → List Nat
  | [], _ => []
  | o :: os, k => bif memB tl k then qdstsGo tl os (k + 1) else (match o.dst with
    | some d => d :: qdstsGo tl os (k + 1)
    | none => qdstsGo tl os (k + 1))
def qdsts (ops : List Oper) (tl : List Nat) : List Nat := qdstsGo tl ops 0
def tdsts (ops : List Oper) (tl : List Nat) : List Nat := tl.filterMap (gslot ops)
def blanks (l : List Nat) : Fr := l.map fun d => (d, V.undef)

def planOK (ops : List Oper) (tl plan : List Nat) : Bool :=
  (List.range ops.length).all (memB plan) && nodupB plan && nodupB (qdsts ops tl) && (tdsts ops tl).all (fun d => !memB (qdsts ops tl) d) && planB ops (ancs ops) tl plan [] none

def lkd (done : List (Nat × V)) (j : Nat) : Option V := match done with
  | [] => none
  | p :: r => bif Nat.beq p.1 j then some p.2 else lkd r j

/-- The values that an operation may look at. -/
def visOf (ops : List Oper) (done : List (Nat × V)) : List Nat → Fr
  | [] => []
  | j :: js => match gslot ops j, lkd done j with
    | some d, some v => (d, v) :: visOf ops done js
    | _, _ => visOf ops done js
def doneFr (ops : List Oper) : List (Nat × V) → Fr
  | [] => []
  | p :: r => match gslot ops p.1 with
    | some d => (d, p.2) :: doneFr ops r
    | none => doneFr ops r

/-- An append to a row that no one appends to again, told as a value. -/
def vappQ (C : Cfg) (σ : St) (s x : V) (st xt : TypeId) (K : V → Prop) : Prop :=
  (C.T st).known = true ∧ (C.T xt).known = true ∧
  match (C.T st).d with
  | .slice e => (C.T e).known = true ∧ 0 < (C.T e).size ∧ (C.T e).bytes ≤ 4096 ∧ vsrc C σ e xt x fun src =>
      (match s with
      | .sl nl clip sz es => (nl || clip) = true ∧ (es = [] ∨ sz = (C.T e).size) ∧ es.length + src.length ≤ lim ∧ K (.sl (nl && src.isEmpty) false (C.T e).size (es ++ src))
      | _ => False)
  | _ => False
def vqx (C : Cfg) (fr : Fr) (σ : St) (op : Op) (K : V → Prop) : Prop :=
  match op with
  | .call { callee := .builtin .append, args, argTypes } => (match args.toList, argTypes.toList with
    | [s, x], [st, xt] => vappQ C σ (opv fr s) (opv fr x) st xt K
    | _, _ => False)
  | op => vq C fr σ op K

/-- An operation that changes nothing tells v. -/
def vq1 (C : Cfg) (fr : Fr) (σ : St) (o : Oper) (v : V) : Prop :=
  match o.op with
  | .call { callee := .value f, args, .. } => (match opv fr f with
    | .fn (.func g) first cap => (args.toList.map (opv fr)).all V.isVal = true ∧ VCalls C.P g (first ++ args.toList.map (opv fr) ++ cap) σ fun r σ' => r = v ∧ σ' = σ
    | _ => False)
  | op => vqx C fr σ op fun x => x = v

def qok (C : Cfg) (ops : List Oper) (done : List (Nat × V)) (S : Fr) (σ : St) (o : Oper) (v : V) : Prop :=
  match o.guard with
  | none => vq1 C (visOf ops done (depsOf o) ++ S) σ o v
  | some (j, want) => match lkd done j with
    | some (.bool b) => bif b == want then vq1 C (visOf ops done (depsOf o) ++ S) σ o v else v = .tup []
    | some (.tup []) => v = .tup []
    | _ => False

/-- What may still come behind a change tells the same then. -/
def again (C : Cfg) (ops : List Oper) (an : Nat) (done : List (Nat × V)) (S : Fr) (σ : St) : List (Nat × V) → Prop
  | [] => True
  | p :: r => (bif bitB an p.1 then True else (match ops[p.1]? with
      | some o => qok C ops done S σ o p.2
      | none => False)) ∧ again C ops an done S σ r

def isU : V → Bool
  | .undef => true
  | _ => false
def noLrefL (d : Option Nat) (done : List (Nat × V)) : Bool := match d with
  | some d => done.all fun p => !isLref d p.2
  | none => true

def vrun (C : Cfg) (ops : List Oper) (tl : List Nat) : List Nat → List (Nat × V) → Fr → St → (Fr → St → Prop) → Prop
  | [], done, S, σ, Q => Q (doneFr ops done ++ S) σ
  | i :: rest, done, S, σ, Q => match ops[i]? with
    | some o => bif memB tl i then
          (noLrefL o.dst done = true ∧ (o.op.operands.toList.all fun x => !isU (opv (visOf ops done (depsOf o) ++ S) x)) = true ∧ ve C (visOf ops done (depsOf o) ++ S) σ o fun fr' σ' =>
            again C ops ((ancs ops).getD i 0) done (blanks (qdsts ops tl) ++ fr') σ' done ∧ vrun C ops tl rest done (blanks (qdsts ops tl) ++ fr') σ' Q)
        else ∃ v, qok C ops done S σ o v ∧ vrun C ops tl rest ((i, v) :: done) S σ Q
    | none => False

/-- Every id in a value is less than n. -/
def ref0 (n : Nat) : V → Bool
  | .ptr id _ | .eptr id _ _ _ | .rsl id _ _ _ | .mp id => Nat.blt id n
  | v => imm0 v
def ref1 (n : Nat) : V → Bool
  | .fn _ xs ys => xs.all (ref0 n) && ys.all (ref0 n)
  | v => ref0 n v
def refV (n : Nat) : V → Bool
  | .agg cs | .tup cs | .cell cs => cs.all (ref1 n)
  | .ifc _ v => ref1 n v
  | .lref _ _ => true
  | v => ref1 n v
def refO (n : Nat) : VO → Bool
  | .dead => true
  | .box cs => cs.all (ref1 n)
  | .arr _ _ _ _ => true
  | .map l => l.all fun kv => (refV n kv.1 && kv.1.isVal) && (refV n kv.2 && kv.2.isVal)
  | .iter _ _ _ _ => false
  | .siter _ _ => true
  | .blk _ _ kp => kp.all fun p => ref1 n p.2

/-- What may be forgotten, or known otherwise, between two steps. -/
inductive Ghost (σ0 : St) : Fr → St → Fr → St → Prop where
  | refl (fr : Fr) (σ : St) : Ghost σ0 fr σ fr σ
  | trans (fr : Fr) (σ : St) (fr' : Fr) (σ' : St) (fr'' : Fr) (σ'' : St) (h : Ghost σ0 fr σ fr' σ') (h' : Ghost σ0 fr' σ' fr'' σ'') : Ghost σ0 fr σ fr'' σ''
  | frame (fr fr' : Fr) (σ : St) (h : ∀ t, lk fr' t = lk fr t ∨ lk fr' t = .undef) : Ghost σ0 fr σ fr' σ
  | drop (fr : Fr) (σ : St) (n : Nat) (hn : σ0.length ≤ n) (h : ∀ t, refV n (lk fr t) = true) (h' : ∀ (i : Nat) o, i < n → σ[i]? = some o → σ0[i]? = some o ∨ refO n o = true) : Ghost σ0 fr σ fr (σ.take n)
  | adopt (fr : Fr) (σ : St) (t sz : Nat) (c : Bool) (z : Nat) (h : lk fr t = .sl true c z []) : Ghost σ0 fr σ ((t, .rsl σ.length 0 0 0) :: fr) (σ ++ [.arr true 0 sz []])
  | adoptF (fr : Fr) (σ : St) (t i sz : Nat) (cs : List V) (c : Bool) (z : Nat) (h : lk fr t = .cell cs) (h' : cs[i]? = some (.sl true c z [])) : Ghost σ0 fr σ ((t, .cell (cs.set i (.rsl σ.length 0 0 0))) :: fr) (σ ++ [.arr true 0 sz []])
  | adoptO (fr : Fr) (σ : St) (k i sz : Nat) (cs : List V) (c : Bool) (z : Nat) (h : σ[k]? = some (.box cs)) (h' : cs[i]? = some (.sl true c z [])) : Ghost σ0 fr σ fr ((σ ++ [VO.arr true 0 sz []]).set k (VO.box (cs.set i (.rsl σ.length 0 0 0))))
  | freezeO (fr : Fr) (σ : St) (k i id g lo hi sz : Nat) (nl : Bool) (es cs : List V) (h : σ[k]? = some (.box cs)) (h' : cs[i]? = some (.rsl id g lo hi)) (h'' : σ[id]? = some (.arr nl g sz es)) :
      Ghost σ0 fr σ fr ((σ.set id VO.dead).set k (VO.box (cs.set i (.sl nl false sz ((es.take hi).drop lo)))))
  | freeze (fr : Fr) (σ : St) (t id g lo hi sz : Nat) (nl : Bool) (es : List V) (h : lk fr t = .rsl id g lo hi) (h' : σ[id]? = some (.arr nl g sz es)) :
      Ghost σ0 fr σ ((t, .sl nl false sz ((es.take hi).drop lo)) :: fr) (σ.set id .dead)
  | dieO (fr : Fr) (σ : St) (id : Nat) : Ghost σ0 fr σ fr (σ.set id .dead)

/-- What is asked behind a round. -/
def lpost (σ0 : St) (I : Nat → Fr → St → Prop) (n : Nat) (Q : Exit → Fr → St → Prop) : Exit → Fr → St → Prop
  | .normal, fr', σ' => ∃ k fr1 σ1, Ghost σ0 fr' σ' fr1 σ1 ∧ I k fr1 σ1 ∧ k < n
  | e, fr', σ' => ∃ fr1 σ1, Ghost σ0 fr' σ' fr1 σ1 ∧ Q e fr1 σ1

def bindV : List Nat → List V → Fr → Fr
  | p :: ps, v :: vs, fr => bindV ps vs ((p, v) :: fr)
  | _, _, fr => fr

/-- How a round may end: i: the loop's record, an object. -/
def vround (σ1 : St) (i l : Nat) (kp : Fr) (rdy bsy : Obj) (dn : Code → Obj) (K : V → St → Prop) : Exit → Fr → St → Prop
  | .normal, fr', σ' => ∃ fr1 σ2, Ghost σ1 fr' σ' fr1 σ2 ∧ σ2[i]? = some (.blk l bsy kp) ∧ K (.bool true) (σ2.set i (.blk l rdy kp))
  | .ret, fr', σ' => ∃ fr1 σ2, Ghost σ1 fr' σ' fr1 σ2 ∧ σ2[i]? = some (.blk l bsy kp) ∧ K (.bool false) (σ2.set i (.blk l (dn .ret) kp))
  | .exit id, fr', σ' => ∃ fr1 σ2, Ghost σ1 fr' σ' fr1 σ2 ∧ σ2[i]? = some (.blk l bsy kp) ∧ K (.bool false) (σ2.set i (.blk l (dn (.exit id)) kp))
  | _, _, _ => False

def noRange : Code → Bool
  | .seq a b | .cond _ a b => noRange a && noRange b
  | .block _ c | .loop c => noRange c
  | .rangeFunc _ _ _ _ => false
  | _ => true

def vwp (C : Cfg) (σ0 : St) : Code → Fr → St → (Exit → Fr → St → Prop) → Prop
  | .skip, fr, σ, Q => Q .normal fr σ
  | .region _ ops draw, fr, σ, Q => bif draw then
        ∃ S : List Nat, S.Nodup ∧ ∀ τ : List Nat, τ.Perm S → ∃ tl plan, planOK (chainO τ ops.toList) tl plan = true ∧ vrun C (chainO τ ops.toList) tl plan [] (blanks (qdsts (chainO τ ops.toList) tl) ++ fr) σ fun fr' σ' => ∃ fr'' σ'', Ghost σ0 fr' σ' fr'' σ'' ∧ Q .normal fr'' σ''
      else vops C ops.toList ops.toList fr σ (Q .normal)
  | .seq a b, fr, σ, Q => vwp C σ0 a fr σ fun e fr' σ' => match e with
    | .normal => vwp C σ0 b fr' σ' Q
    | e => Q e fr' σ'
  | .cond c t e, fr, σ, Q => match opv fr c with
    | .bool b => bif b then vwp C σ0 t fr σ Q else vwp C σ0 e fr σ Q
    | _ => False
  | .block id c, fr, σ, Q => vwp C σ0 c fr σ fun e fr' σ' => match e with
    | .exit id' => bif Nat.beq id' id then Q .normal fr' σ' else Q (.exit id') fr' σ'
    | e => Q e fr' σ'
  | .loop c, fr, σ, Q => ∃ (I : Nat → Fr → St → Prop), (∃ n fr1 σ1, Ghost σ0 fr σ fr1 σ1 ∧ I n fr1 σ1) ∧
      ∀ n fr σ, I n fr σ → vwp C σ0 c fr σ (lpost σ0 I n Q)
  | .exit id, fr, σ, Q => Q (.exit id) fr σ
  | .ret, fr, σ, Q => Q .ret fr σ
  | .scope _, _, _, _ => False
  | .label _, _, _, _ => False
  | .goto _, _, _, _ => False
  | .rangeFunc g ps assign body, fr, σ, Q => noRange assign = true ∧ noRange body = true ∧ ∃ kp : Fr, (∀ t, lk kp t = lk fr t ∨ lk kp t = .undef) ∧ (kp.all fun p => p.2.isVal) = true ∧ (match opv fr g with
    | .fn (.func gf) first cap => ∀ (l : Nat) (rdy bsy : Obj) (dn : Code → Obj),
        (∀ (args : List V) (σ1 : St) (K : V → St → Prop), σ1[σ.length]? = some (.blk l rdy kp) → args.length = ps.size → args.all V.isVal = true →
          vwp C σ1 assign (bindV ps.toList args kp) σ1 (fun e fr1 σ2 => e = .normal ∧ σ2[σ.length]? = some (.blk l rdy kp) ∧
            vwp C σ1 body fr1 (σ2.set σ.length (.blk l bsy kp)) (vround σ1 σ.length l kp rdy bsy dn K)) → VYield C.P l args σ1 K) →
        VCalls C.P gf (first ++ [.fn (.yield l) [] []] ++ cap) (σ ++ [.blk l rdy kp]) fun _ σ' =>
          (σ'[σ.length]? = some (.blk l rdy kp) ∧ Q .normal fr (σ'.set σ.length .dead)) ∨
          (σ'[σ.length]? = some (.blk l (dn .ret) kp) ∧ Q .ret fr (σ'.set σ.length .dead)) ∨
          (∃ id, σ'[σ.length]? = some (.blk l (dn (.exit id)) kp) ∧ Q (.exit id) fr (σ'.set σ.length .dead))
    | _ => False)
  | .refuse _, _, _, _ => False

/-- Each place that is written is one of the frame's. -/
def okOps (N : Nat) (ops : List Oper) : Bool := ops.all fun o => match o.dst with | some d => Nat.blt d N | none => true
def okCode (N : Nat) : Code → Bool
  | .region _ ops _ => okOps N ops.toList
  | .seq a b | .cond _ a b => okCode N a && okCode N b
  | .block _ c | .loop c => okCode N c
  | .rangeFunc _ ps assign body => (ps.toList.all fun p => Nat.blt p N) && (okCode N assign && okCode N body)
  | _ => true

/-- A result, read. -/
def vres1 (C : Cfg) (fr : Fr) (σ : St) : ResultVar → (V → Prop) → Prop
  | .tmp t, K => (lk fr t).isVal = true ∧ K (lk fr t)
  | .cell a t, K => vcells fr σ (lk fr a) fun cs => vload C t cs K
def vresL (C : Cfg) (fr : Fr) (σ : St) : List ResultVar → (List V → Prop) → Prop
  | [], K => K []
  | r :: rs, K => vres1 C fr σ r fun v => vresL C fr σ rs fun vs => K (v :: vs)
def packV : List V → V
  | [v] => v
  | vs => .tup vs

/-- What has been made in a call is written no more: values over it, as lists. -/
def fz0 (n : Nat) (σ : St) : V → V
  | .rsl id g lo hi => bif Nat.blt id n then .rsl id g lo hi else (match σ[id]? with
    | some (.arr nl g0 sz es) => bif Nat.beq g g0 then .sl nl false sz ((es.take hi).drop lo) else .undef
    | _ => .undef)
  | .ptr id off => bif Nat.blt id n then .ptr id off else (match σ[id]? with
    | some (.box cs) => bif cs.all imm1 then .ip (cs.drop off) else .undef
    | _ => .undef)
  | .mp id => bif Nat.blt id n then .mp id else (match σ[id]? with
    | some (.map l) => bif l.all (fun kv => immV kv.1 && immV kv.2) then .im l else .undef
    | _ => .undef)
  | .eptr id g i off => bif Nat.blt id n then .eptr id g i off else .undef
  | v => v
def fz1 (n : Nat) (σ : St) : V → V
  | .fn f xs ys => .fn f (xs.map (fz0 n σ)) (ys.map (fz0 n σ))
  | v => fz0 n σ v
def fzV (n : Nat) (σ : St) : V → V
  | .agg cs => .agg (cs.map (fz1 n σ))
  | .tup cs => .tup (cs.map (fun v => match v with | .agg ds => .agg (ds.map (fz1 n σ)) | v => fz1 n σ v))
  | .ifc t v => .ifc t (fz1 n σ v)
  | v => fz1 n σ v

/-- All ids in a result are less than n. -/
def scV (n : Nat) : V → Bool
  | .tup cs => cs.all fun v => match v with
    | .agg ds => ds.all (ref1 n)
    | .ifc _ v => ref1 n v
    | v => ref1 n v
  | .agg cs => cs.all (ref1 n)
  | .ifc _ v => ref1 n v
  | v => ref1 n v

end Go.VL

/- Regions in their text's order; what may be forgotten between two steps. Conditions: the table of types tells the program's own rows (TabOK). -/
namespace Go.VL
variable {ro : Option Nat}

section
variable {C : Cfg} {A : Nat → Prop} {m0 : Mp} {σ0 : St} {w0 : World} {N : Nat} {fr fr' : Fr} {σ : St} {a : Act} {w : World} {m : Mp} {pb : Nat → Option Nat}

theorem Frm.weaken (F : Frm A m0 σ0 w0 N fr σ a w m pb) (h : ∀ t, lk fr' t = lk fr t ∨ lk fr' t = .undef) : Frm A m0 σ0 w0 N fr' σ a w m pb := by
  refine ⟨F.tm, F.df, F.rel, fun t ht => ?_, fun t ht => ?_, F.pinj, F.pnew, F.ext⟩
  · rcases h t with e | e
    · rw [e]
      have hs := F.slot t ht
      generalize lk fr t = v at hs
      cases v with
      | lref s off =>
        intro cs hcs
        rcases h s with e' | e'
        · rw [e'] at hcs; exact hs cs hcs
        · rw [e'] at hcs; cases hcs
      | _ => exact hs
    · rw [e]; exact .imm _ _ (.undef _)
  · rcases h t with e | e
    · rw [e]; exact F.far t ht
    · exact e

theorem FRel.weaken (F : FRel A m0 σ0 w0 N fr σ a w) (h : ∀ t, lk fr' t = lk fr t ∨ lk fr' t = .undef) : FRel A m0 σ0 w0 N fr' σ a w := by
  obtain ⟨m, pb, F⟩ := F
  exact ⟨m, pb, F.weaken h⟩

theorem Frm.drawn (F : Frm A m0 σ0 w0 N fr σ a w m pb) (n : Nat) : Frm A m0 σ0 w0 N fr σ a { w with drawn := n } m pb := F.grow (Grow.drawn w n)

/-- What a guard sees. -/
theorem yielded_bool {ops : Array Oper} {j d : Nat} {b : Bool} (F : Frm A m0 σ0 w0 N fr σ a w m pb) (hj : gslot ops.toList j = some d) (h : lk fr d = .bool b) : yielded ops a.tmps j = some b := by
  have hd : d < N := by
    rcases Nat.lt_or_ge d N with h' | h'
    · exact h'
    · rw [F.far d h'] at h; cases h
  have hs := F.slot d hd
  rw [h] at hs
  have := VR.bool_inv hs
  unfold yielded
  have hg : (ops[j]?).bind (·.dst) = some d := by simpa [gslot] using hj
  rw [hg]
  have ht : a.tmps[d]? = some (.bool b) := by
    rw [Array.getD_eq_getD_getElem?] at this
    have hlt : d < a.tmps.size := by rw [F.tm]; exact hd
    rw [Array.getElem?_eq_getElem hlt] at this ⊢
    simpa using this
  simp [ht]

theorem yielded_tup {ops : Array Oper} {j d : Nat} (F : Frm A m0 σ0 w0 N fr σ a w m pb) (hj : gslot ops.toList j = some d) (h : lk fr d = .tup []) : yielded ops a.tmps j = none := by
  have hd : d < N := by
    rcases Nat.lt_or_ge d N with h' | h'
    · exact h'
    · rw [F.far d h'] at h; cases h
  have hs := F.slot d hd
  rw [h] at hs
  obtain ⟨us, hu, _⟩ := VR.tup_inv hs
  unfold yielded
  have hg : (ops[j]?).bind (·.dst) = some d := by simpa [gslot] using hj
  rw [hg]
  have ht : a.tmps[d]? = some (.tuple us) := by
    rw [Array.getD_eq_getD_getElem?] at hu
    have hlt : d < a.tmps.size := by rw [F.tm]; exact hd
    rw [Array.getElem?_eq_getElem hlt] at hu ⊢
    simpa using hu
  simp [ht]

theorem vops_sound (tok : TabOK C) {ops : Array Oper} (hN : okOps N ops.toList = true) {Qv : Fr → St → Prop} {Q : Exit → Act → World → Prop} (hQ : ∀ fr σ a w, FRel A m0 σ0 w0 N fr σ a w → Qv fr σ → Q .normal a w) :
    ∀ (os : List Oper) (k : Nat), ops.toList.drop k = os → ∀ fr σ a w, FRel A m0 σ0 w0 N fr σ a w → vops C ops.toList os fr σ Qv → wpOpsIn (WF ro) 0 C.P ops Q (List.range' k os.length) a w
  | [], k, _, fr, σ, a, w, F, h => hQ fr σ a w F h
  | o :: os, k, hk, fr, σ, a, w, F, h => by
    have ho' : ops.toList[k]? = some o := by
      have := congrArg (fun l => l[0]?) hk
      simpa [List.getElem?_drop] using this
    have ho : ops[k]? = some o := by simpa using ho'
    have hk' : ops.toList.drop (k + 1) = os := by
      have := congrArg List.tail hk
      simpa [List.tail_drop] using this
    have hd : ∀ d, o.dst = some d → d < N := by
      intro d hd
      have := List.all_eq_true.1 hN o (List.mem_of_getElem? ho')
      rw [hd] at this
      exact Nat.le_of_ble_eq_true this
    have ih := vops_sound tok hN hQ os (k + 1) hk'
    obtain ⟨m, pb, F⟩ := F
    have run : vstep C fr σ o (fun fr' σ' => vops C ops.toList os fr' σ' Qv) → o.wpIn (WF ro) 0 C.P a w (wpOpsIn (WF ro) 0 C.P ops Q (List.range' (k + 1) os.length)) Q := fun h =>
      vstep_sound tok F hd h fun fr' σ' a' w' F' h' => ih fr' σ' a' w' F' h'
    have skip : vops C ops.toList os (putd fr o (.tup [])) σ Qv → wpOpsIn (WF ro) 0 C.P ops Q (List.range' (k + 1) os.length) (a.put o.dst Go.undef) w := fun h =>
      ih _ _ _ _ ⟨m, pb, F.putd hd (ResR.of vr_undef)⟩ h
    simp only [List.length_cons, List.range'_succ, wpOpsIn, ho]
    unfold vops at h
    cases hg : o.guard with
    | none =>
      rw [hg] at h
      have : Region.wanted o (yielded ops a.tmps) = true := by simp [Region.wanted, hg]
      rw [this, if_pos rfl]
      exact run h
    | some p =>
      obtain ⟨j, want⟩ := p
      rw [hg] at h
      simp only at h
      cases hgs : gslot ops.toList j with
      | none => rw [hgs] at h; exact h.elim
      | some d =>
        rw [hgs] at h
        simp only at h
        generalize hv : lk fr d = v at h
        cases v <;> (try simp only at h) <;> try exact h.elim
        case bool b =>
          have hy := yielded_bool F hgs hv
          cases hb : b == want with
          | true =>
            rw [hb] at h
            have : Region.wanted o (yielded ops a.tmps) = true := by
              simp only [Region.wanted, hg, hy]
              simpa using hb
            rw [this, if_pos rfl]
            exact run h
          | false =>
            rw [hb] at h
            have : Region.wanted o (yielded ops a.tmps) = false := by
              simp only [Region.wanted, hg, hy]
              simpa using hb
            rw [this]
            simp only [Bool.false_eq_true, if_false]
            exact ⟨fun _ _ => trivial, skip h⟩
        case tup l =>
          cases l <;> (try simp only at h) <;> try exact h.elim
          have hy := yielded_tup F hgs hv
          have : Region.wanted o (yielded ops a.tmps) = false := by
            simp [Region.wanted, hg, hy]
          rw [this]
          simp only [Bool.false_eq_true, if_false]
          exact ⟨fun _ _ => trivial, skip h⟩

/-- All ids in a value are less than n. -/
inductive Sc (n : Nat) : V → Prop where
  | undef : Sc n .undef
  | int (k : IntKind) (x : Int) : Sc n (.int k x)
  | bool (b : Bool) : Sc n (.bool b)
  | str (s : ByteArray) : Sc n (.str s)
  | nilp : Sc n .nilp
  | nilf : Sc n .nilf
  | nili : Sc n .nili
  | nilm : Sc n .nilm
  | sl (nl c : Bool) (sz : Nat) (es : List V) : Sc n (.sl nl c sz es)
  | ip (cs : List V) : Sc n (.ip cs)
  | ptr (id off : Nat) (h : id < n) : Sc n (.ptr id off)
  | eptr (id g i off : Nat) (h : id < n) : Sc n (.eptr id g i off)
  | rsl (id g lo hi : Nat) (h : id < n) : Sc n (.rsl id g lo hi)
  | mp (id : Nat) (h : id < n) : Sc n (.mp id)
  | agg (cs : List V) (h : ∀ v, v ∈ cs → Sc n v) : Sc n (.agg cs)
  | tup (cs : List V) (h : ∀ v, v ∈ cs → Sc n v) : Sc n (.tup cs)
  | fn (f : Fn) (xs ys : List V) (h : ∀ v, v ∈ xs → Sc n v) (h' : ∀ v, v ∈ ys → Sc n v) : Sc n (.fn f xs ys)
  | ifc (t : TypeId) (v : V) (h : Sc n v) : Sc n (.ifc t v)
  | im (l : List (V × V)) : Sc n (.im l)

theorem VI.sc {w : World} {B : Nat → Prop} {v : V} {u : Value} (h : VI w B v u) (n : Nat) : Sc n v := by
  induction h with
  | undef u => exact .undef
  | int k x => exact .int k x
  | bool b => exact .bool b
  | str s => exact .str s
  | nilp => exact .nilp
  | nilf => exact .nilf
  | nili => exact .nili
  | nilm => exact .nilm
  | sl0 c sz => exact .sl _ _ _ _
  | sl => exact .sl _ _ _ _
  | ip => exact .ip _
  | agg cs us hl hv ih =>
    refine .agg cs fun v hv' => ?_
    obtain ⟨i, hi, rfl⟩ := List.mem_iff_getElem.1 hv'
    exact ih i _ _ (List.getElem?_eq_getElem hi) (Array.getElem?_eq_getElem (by rw [hl]; exact hi))
  | tup cs us hl hv ih =>
    refine .tup cs fun v hv' => ?_
    obtain ⟨i, hi, rfl⟩ := List.mem_iff_getElem.1 hv'
    exact ih i _ _ (List.getElem?_eq_getElem hi) (Array.getElem?_eq_getElem (by rw [hl]; exact hi))
  | fn f xs ys us ts hl hl' hv hv' ih ih' =>
    refine .fn f xs ys (fun v hm => ?_) fun v hm => ?_
    · obtain ⟨i, hi, rfl⟩ := List.mem_iff_getElem.1 hm
      exact ih i _ _ (List.getElem?_eq_getElem hi) (Array.getElem?_eq_getElem (by rw [hl]; exact hi))
    · obtain ⟨i, hi, rfl⟩ := List.mem_iff_getElem.1 hm
      exact ih' i _ _ (List.getElem?_eq_getElem hi) (Array.getElem?_eq_getElem (by rw [hl']; exact hi))
  | ifc t v u h ih => exact .ifc t v ih
  | im => exact .im _

theorem lt_of_some {α : Type} {l : List α} {i : Nat} {x : α} (h : l[i]? = some x) : i < l.length := (List.getElem?_eq_some_iff.1 h).1

theorem VR.sc {A : Nat → Prop} {m : Mp} {σ : St} {w : World} {v : V} {u : Value} (h : VR A m σ w v u) : Sc σ.length v := by
  induction h with
  | imm v u h => exact h.sc _
  | ptr id off u ho h => exact .ptr id off (by rcases h with h | ⟨_, _, _, h, _⟩ <;> exact lt_of_some h)
  | eptr id g i off u ho h => exact .eptr id g i off (by rcases h with h | ⟨_, _, _, _, h, _⟩ <;> exact lt_of_some h)
  | rsl id g lo hi u ho h => exact .rsl id g lo hi (by rcases h with h | ⟨_, _, _, _, _, h, _⟩ <;> exact lt_of_some h)
  | mp id u ho h => exact .mp id (by rcases h with h | ⟨_, _, _, h, _⟩ <;> exact lt_of_some h)
  | iter id u ho h => exact .ptr id 0 (by rcases h with h | ⟨_, _, _, h, _⟩ <;> exact lt_of_some h)
  | agg cs us hl hv ih =>
    refine .agg cs fun v hv' => ?_
    obtain ⟨i, hi, rfl⟩ := List.mem_iff_getElem.1 hv'
    exact ih i _ _ (List.getElem?_eq_getElem hi) (Array.getElem?_eq_getElem (by rw [hl]; exact hi))
  | tup cs us hl hv ih =>
    refine .tup cs fun v hv' => ?_
    obtain ⟨i, hi, rfl⟩ := List.mem_iff_getElem.1 hv'
    exact ih i _ _ (List.getElem?_eq_getElem hi) (Array.getElem?_eq_getElem (by rw [hl]; exact hi))
  | fn f xs ys us ts hl hl' hv hv' ih ih' =>
    refine .fn f xs ys (fun v hm => ?_) fun v hm => ?_
    · obtain ⟨i, hi, rfl⟩ := List.mem_iff_getElem.1 hm
      exact ih i _ _ (List.getElem?_eq_getElem hi) (Array.getElem?_eq_getElem (by rw [hl]; exact hi))
    · obtain ⟨i, hi, rfl⟩ := List.mem_iff_getElem.1 hm
      exact ih' i _ _ (List.getElem?_eq_getElem hi) (Array.getElem?_eq_getElem (by rw [hl']; exact hi))
  | ifc t v u h ih => exact .ifc t v ih

theorem Sc.mono {n k : Nat} (hnk : n ≤ k) {v : V} (h : Sc n v) : Sc k v := by
  induction h with
  | ptr id off h => exact .ptr id off (by omega)
  | eptr id g i off h => exact .eptr id g i off (by omega)
  | rsl id g lo hi h => exact .rsl id g lo hi (by omega)
  | mp id h => exact .mp id (by omega)
  | agg cs h ih => exact .agg cs ih
  | tup cs h ih => exact .tup cs ih
  | fn f xs ys h h' ih ih' => exact .fn f xs ys ih ih'
  | ifc t v h ih => exact .ifc t v ih
  | undef => exact .undef
  | int k x => exact .int k x
  | bool b => exact .bool b
  | str s => exact .str s
  | nilp => exact .nilp
  | nilf => exact .nilf
  | nili => exact .nili
  | nilm => exact .nilm
  | sl => exact .sl _ _ _ _
  | ip => exact .ip _
  | im => exact .im _

theorem take_some {α : Type} {l : List α} {n i : Nat} {x : α} (h : l[i]? = some x) (hi : i < n) : (l.take n)[i]? = some x := by rw [List.getElem?_take, if_pos hi]; exact h
theorem of_take {α : Type} {l : List α} {n i : Nat} {x : α} (h : (l.take n)[i]? = some x) : i < n ∧ l[i]? = some x := by
  rw [List.getElem?_take] at h
  split at h
  · exact ⟨by assumption, h⟩
  · cases h

/-- Objects made last are forgotten: values that don't lead to them are what they were. -/
theorem VR.take {A A' : Nat → Prop} {m : Mp} {σ : St} {w : World} {n : Nat} (hA : ∀ b, A' b → Bad A m b) {v : V} {u : Value} (h : VR A m σ w v u) : Sc n v → VR A' (m.take n) (σ.take n) w v u := by
  have M : Mov A m w A' (m.take n) w := Mov.wider (Nat.le_refl _) (fun _ _ _ => rfl) (fun b _ hb => hA b hb) fun i b d _ hi => .inr ⟨i, d, (of_take hi).2⟩
  induction h with
  | imm v u h => exact fun _ => .imm _ _ (h.mov M)
  | ptr id off u ho h =>
    intro hs
    cases hs with
    | ptr _ _ hid =>
      refine .ptr id off u ho ?_
      rcases h with h | ⟨cs, b, c, h1, h2, h3⟩
      · exact .inl (take_some h hid)
      · exact .inr ⟨cs, b, c, take_some h1 hid, take_some h2 hid, h3⟩
  | eptr id g i off u ho h =>
    intro hs
    cases hs with
    | eptr _ _ _ _ hid =>
      refine .eptr id g i off u ho ?_
      rcases h with h | ⟨nl, g0, sz, es, h1, h2, h3⟩
      · exact .inl (take_some h hid)
      · exact .inr ⟨nl, g0, sz, es, take_some h1 hid, h2, fun e => by
          obtain ⟨a1, b, c, a2, a3⟩ := h3 e
          exact ⟨a1, b, c, take_some a2 hid, a3⟩⟩
  | rsl id g lo hi u ho h =>
    intro hs
    cases hs with
    | rsl _ _ _ _ hid =>
      refine .rsl id g lo hi u ho ?_
      rcases h with h | ⟨nl, g0, sz, es, bm, h1, hbm, h2, h3⟩
      · exact .inl (take_some h hid)
      · exact .inr ⟨nl, g0, sz, es, bm, take_some h1 hid, take_some hbm hid, h2, h3⟩
  | mp id u ho h =>
    intro hs
    cases hs with
    | mp _ hid =>
      refine .mp id u ho ?_
      rcases h with h | ⟨l, b, c, h1, h2, h3⟩
      · exact .inl (take_some h hid)
      · exact .inr ⟨l, b, c, take_some h1 hid, take_some h2 hid, h3⟩
  | iter id u ho h =>
    intro hs
    cases hs with
    | ptr _ _ hid =>
      refine .iter id u ho ?_
      rcases h with h | ⟨it, b, c, h1, hit, h2, h3⟩
      · exact .inl (take_some h hid)
      · exact .inr ⟨it, b, c, take_some h1 hid, hit, take_some h2 hid, h3⟩
  | agg cs us hl hv ih =>
    intro hs
    cases hs with
    | agg _ hs => exact .agg cs us hl fun i v u h1 h2 => ih i v u h1 h2 (hs v (List.mem_of_getElem? h1))
  | tup cs us hl hv ih =>
    intro hs
    cases hs with
    | tup _ hs => exact .tup cs us hl fun i v u h1 h2 => ih i v u h1 h2 (hs v (List.mem_of_getElem? h1))
  | fn f xs ys us ts hl hl' hv hv' ih ih' =>
    intro hs
    cases hs with
    | fn _ _ _ hs hs' => exact .fn f xs ys us ts hl hl' (fun i v u h1 h2 => ih i v u h1 h2 (hs v (List.mem_of_getElem? h1))) fun i v u h1 h2 => ih' i v u h1 h2 (hs' v (List.mem_of_getElem? h1))
  | ifc t v u h ih =>
    intro hs
    cases hs with
    | ifc _ _ hs => exact .ifc t v u (ih hs)

theorem sc_imm0 {n : Nat} {v : V} (h : imm0 v = true) : Sc n v := by
  cases v <;> first | (simp [imm0] at h; done) | constructor
theorem ref0_sc {n : Nat} {v : V} (h : ref0 n v = true) : Sc n v := by
  cases v <;> first | exact sc_imm0 h | (constructor; exact Nat.le_of_ble_eq_true h)
theorem ref1_sc {n : Nat} {v : V} (h : ref1 n v = true) : Sc n v := by
  cases v with
  | fn f xs ys =>
    simp only [ref1, Bool.and_eq_true, List.all_eq_true] at h
    exact .fn f xs ys (fun v hv => ref0_sc (h.1 v hv)) fun v hv => ref0_sc (h.2 v hv)
  | _ => exact ref0_sc h
theorem refV_sc {n : Nat} {v : V} (h : refV n v = true) (hv : v.isVal = true) : Sc n v := by
  cases v with
  | agg cs => exact .agg cs fun v hv => ref1_sc (List.all_eq_true.1 h v hv)
  | tup cs => exact .tup cs fun v hv => ref1_sc (List.all_eq_true.1 h v hv)
  | ifc t v => exact .ifc t v (ref1_sc h)
  | cell cs => cases hv
  | lref s o => cases hv
  | _ => exact ref1_sc h

/-- All values of an object lead to objects less than n. -/
def ScO (n : Nat) : VO → Prop
  | .dead => True
  | .box cs => ∀ v, v ∈ cs → Sc n v
  | .arr _ _ _ _ => True
  | .map l => ∀ kv, kv ∈ l → Sc n kv.1 ∧ Sc n kv.2
  | .iter mid _ _ _ => mid < n
  | .siter _ _ => True
  | .blk _ _ kp => ∀ t, Sc n (lk kp t)

theorem ObjR.sc {A : Nat → Prop} {m : Mp} {σ : St} {w : World} {o : VO} {bm : Option (Nat × Nat)} (h : ObjR A m σ w o bm) : ScO σ.length o := by
  cases o with
  | dead => trivial
  | blk l o kp =>
    obtain ⟨_, _, hv, hf⟩ := h
    intro t
    rcases Nat.lt_or_ge t (tmpsOf o).size with ht | ht
    · exact (hv t _ (Array.getElem?_eq_getElem ht)).sc
    · rw [hf t ht]; exact ref1_sc rfl
  | arr => trivial
  | box cs =>
    obtain ⟨b, c, us, T, _, _, hv⟩ := h
    intro v hm
    obtain ⟨i, hi, rfl⟩ := List.mem_iff_getElem.1 hm
    exact (hv.2 i _ _ (List.getElem?_eq_getElem hi) (List.getElem?_eq_getElem (by rw [hv.1]; exact hi))).sc
  | map l =>
    obtain ⟨b, c, ents, _, _, hs, hv⟩ := h
    intro kv hm
    obtain ⟨i, hi, rfl⟩ := List.mem_iff_getElem.1 hm
    obtain ⟨h1, h2, _⟩ := hv i _ _ (List.getElem?_eq_getElem hi) (Array.getElem?_eq_getElem (by rw [hs]; exact hi))
    exact ⟨h1.sc, h2.sc⟩
  | siter => trivial
  | iter mid n left cur =>
    obtain ⟨b, c, seen, _, _, _, _, h⟩ := h
    rcases h with h | ⟨_, _, _, h, _⟩ <;> exact lt_of_some h

theorem ScO.mono {n k : Nat} (hnk : n ≤ k) {o : VO} (h : ScO n o) : ScO k o := by
  cases o with
  | dead => trivial
  | blk l o kp => exact fun t => (h t).mono hnk
  | arr => trivial
  | box cs => exact fun v hv => (h v hv).mono hnk
  | map l => exact fun kv hkv => ⟨(h kv hkv).1.mono hnk, (h kv hkv).2.mono hnk⟩
  | siter => trivial
  | iter mid => exact Nat.lt_of_lt_of_le h hnk

theorem refO_sc {n : Nat} {o : VO} (h : refO n o = true) : ScO n o := by
  cases o with
  | dead => trivial
  | blk l o kp =>
    intro t
    have h' : kp.all (fun p => ref1 n p.2) = true := h
    clear h
    induction kp with
    | nil => exact ref1_sc rfl
    | cons p kp ih =>
      obtain ⟨j, v⟩ := p
      simp only [List.all_cons, Bool.and_eq_true] at h'
      rw [lk_cons]
      split
      · exact ref1_sc h'.1
      · exact ih h'.2
  | arr => trivial
  | box cs => exact fun v hv => ref1_sc (List.all_eq_true.1 h v hv)
  | map l =>
    intro kv hkv
    have := List.all_eq_true.1 h kv hkv
    simp only [Bool.and_eq_true] at this
    exact ⟨refV_sc this.1.1 this.1.2, refV_sc this.2.1 this.2.2⟩
  | siter => trivial
  | iter => simp [refO] at h

end
end Go.VL

/- What may be forgotten between two steps: soundness. Conditions: none (plain theorems over any program). -/
namespace Go.VL

section
variable {A : Nat → Prop} {m0 : Mp} {σ0 : St} {w0 : World} {N : Nat} {fr fr' : Fr} {σ σ' : St} {a : Act} {w : World} {m : Mp} {pb : Nat → Option Nat}

theorem Mov.take {A A' : Nat → Prop} {m : Mp} {w : World} {n : Nat} (hA : ∀ b, A' b → Bad A m b) : Mov A m w A' (m.take n) w :=
  Mov.wider (Nat.le_refl _) (fun _ _ _ => rfl) (fun b _ hb => hA b hb) fun i b d _ hi => .inr ⟨i, d, (of_take hi).2⟩

theorem VRs.take' {A A' : Nat → Prop} {m : Mp} {σ : St} {w : World} {n : Nat} (hA : ∀ b, A' b → Bad A m b) {vs : List V} {us : List Value} (h : VRs A m σ w vs us) (hs : ∀ v, v ∈ vs → Sc n v) : VRs A' (m.take n) (σ.take n) w vs us :=
  ⟨h.1, fun i v u h1 h2 => (h.2 i v u h1 h2).take hA (hs v (List.mem_of_getElem? h1))⟩

theorem ObjR.take {A A' : Nat → Prop} {m : Mp} {σ : St} {w : World} {n : Nat} (hA : ∀ b, A' b → Bad A m b) {o : VO} {bm : Option (Nat × Nat)} (h : ObjR A m σ w o bm) (hs : ScO n o) : ObjR A' (m.take n) (σ.take n) w o bm := by
  have M : Mov A m w A' (m.take n) w := Mov.take hA
  cases o with
  | dead => exact h
  | blk l ob kp => exact ⟨h.1, h.2.1, fun t u hu => (h.2.2.1 t u hu).take hA (hs t), h.2.2.2⟩
  | box cs =>
    obtain ⟨b, c, us, T, e, hh, hv⟩ := h
    exact ⟨b, c, us, T, e, hh, hv.take' hA hs⟩
  | arr nl g sz es =>
    rcases h with h | ⟨hn, b, cap, us, T, e, hh, h1, h2, h3, h4, h5⟩
    · exact .inl h
    · exact .inr ⟨hn, b, cap, us, T, e, hh, h1, h2, h3, h4, fun i e' he r v hv => by
        obtain ⟨u, hu, h1, hi⟩ := h5 i e' he r v hv
        exact ⟨u, hu, h1, hi.mov M⟩⟩
  | map l =>
    obtain ⟨b, c, ents, e, hh, h1, h2⟩ := h
    exact ⟨b, c, ents, e, hh, h1, fun i kv en hkv he => by
      obtain ⟨a1, a2, a3⟩ := h2 i kv en hkv he
      obtain ⟨s1, s2⟩ := hs kv (List.mem_of_getElem? hkv)
      exact ⟨a1.take hA s1, a2.take hA s2, a3⟩⟩
  | siter s pos => exact h
  | iter mid k left cur =>
    obtain ⟨b, c, seen, e, h1, h2, h2', h3⟩ := h
    refine ⟨b, c, seen, e, h1, h2, h2', ?_⟩
    rcases h3 with h3 | ⟨l, mb, mc, k1, k2, k3⟩
    · exact .inl (take_some h3 hs)
    · exact .inr ⟨l, mb, mc, take_some k1 hs, take_some k2 hs, k3⟩

/-- Objects made last are forgotten. -/
theorem Rel.drop {A A' : Nat → Prop} {m : Mp} {σ : St} {w : World} {n : Nat} (R : Rel A m σ w) (hA : ∀ b, A' b → A b) (hs : ∀ (i : Nat) o, i < n → σ[i]? = some o → ScO n o) : Rel A' (m.take n) (σ.take n) w := by
  refine ⟨by simp [R.len], fun i j b c d hi hj => R.inj i j b c d (of_take hi).2 (of_take hj).2, fun i b c hi => ⟨(R.lt i b c (of_take hi).2).1, fun h => (R.lt i b c (of_take hi).2).2 (hA b h)⟩, fun b hb => R.alt b (hA b hb), fun i o bm ho hm => ?_, R.glo.mov (Mov.take fun b hb => .inl (hA b hb))⟩
  exact (R.objs i o bm (of_take ho).2 (of_take hm).2).take (fun b hb => .inl (hA b hb)) (hs i o (of_take ho).1 (of_take ho).2)

theorem Ext.drop {n : Nat} (E : Ext m0 σ0 w0 m σ w) (hn : σ0.length ≤ n) : Ext m0 σ0 w0 (m.take n) (σ.take n) w := by
  refine ⟨E.sz, E.os, E.tape, E.output, E.blk, fun i b c hi => E.new i b c (of_take hi).2, fun i o bm ho hm => ?_⟩
  obtain ⟨o', bm', h1, h2, h3⟩ := E.objs i o bm ho hm
  have hi : i < n := Nat.lt_of_lt_of_le (lt_of_some ho) hn
  exact ⟨o', bm', take_some h1 hi, take_some h2 hi, h3⟩

theorem sc_objs {A : Nat → Prop} {n : Nat} (R0 : Rel A m0 σ0 w0) (hn : σ0.length ≤ n) (h' : ∀ (i : Nat) o, i < n → σ[i]? = some o → σ0[i]? = some o ∨ refO n o = true) : ∀ (i : Nat) o, i < n → σ[i]? = some o → ScO n o := by
  intro i o hi ho
  rcases h' i o hi ho with h | h
  · have hlt : i < m0.length := by rw [R0.len]; exact lt_of_some h
    exact (R0.objs i o _ h (List.getElem?_eq_getElem hlt)).sc.mono hn
  · exact refO_sc h

theorem Frm.drop {n : Nat} (R0 : Rel A m0 σ0 w0) (F : Frm A m0 σ0 w0 N fr σ a w m pb) (hn : σ0.length ≤ n) (h : ∀ t, refV n (lk fr t) = true) (h' : ∀ (i : Nat) o, i < n → σ[i]? = some o → σ0[i]? = some o ∨ refO n o = true) :
    Frm A m0 σ0 w0 N fr (σ.take n) a w (m.take n) pb := by
  refine ⟨F.tm, F.df, F.rel.drop (fun _ h => h) (sc_objs R0 hn h'), fun t ht => ?_, F.far, F.pinj, F.pnew, F.ext.drop hn⟩
  have hs := F.slot t ht
  have hr := h t
  generalize lk fr t = v at hs hr
  cases v with
  | cell cs =>
    obtain ⟨b, us, T, h1, h2, h3, h4⟩ := hs
    exact ⟨b, us, T, h1, h2, h3, h4.take' (fun b hb => .inl hb) fun v hv => ref1_sc (List.all_eq_true.1 hr v hv)⟩
  | lref s off => exact hs
  | _ => exact VR.take (fun b hb => .inl hb) hs (refV_sc hr rfl)

/-- A slot's value is known otherwise. -/
theorem Frm.reval (F : Frm A m0 σ0 w0 N fr σ a w m pb) {d : Nat} (hd : d < N) {v : V} (h : ResR (pA A pb) m σ w pb v (a.tmps.getD d Go.undef)) : Frm A m0 σ0 w0 N ((d, v) :: fr) σ a w m pb := by
  refine ⟨F.tm, F.df, F.rel, fun t ht => ?_, fun t ht => ?_, F.pinj, F.pnew, F.ext⟩
  · rw [lk_cons]
    by_cases e : d = t
    · rw [if_pos e]; subst e; exact h.slot
    · rw [if_neg e]
      have hs := F.slot t ht
      generalize lk fr t = v0 at hs
      cases v0 with
      | lref s off =>
        intro cs hcs
        rw [lk_cons] at hcs
        by_cases e' : d = s
        · rw [if_pos e'] at hcs; exact absurd hcs (h.notCell cs)
        · rw [if_neg e'] at hcs; exact hs cs hcs
      | _ => exact hs
  · rw [lk_cons, if_neg (by omega)]; exact F.far t ht

theorem Frm.inN (F : Frm A m0 σ0 w0 N fr σ a w m pb) {t : Nat} (h : lk fr t ≠ .undef) : t < N := by
  rcases Nat.lt_or_ge t N with h' | h'
  · exact h'
  · exact absurd (F.far t h') h

theorem ghost_sound (R0 : Rel A m0 σ0 w0) (g : Ghost σ0 fr σ fr' σ') : FRel A m0 σ0 w0 N fr σ a w → FRel A m0 σ0 w0 N fr' σ' a w := by
  induction g with
  | refl => exact id
  | trans _ _ _ _ _ _ _ _ ih ih' => exact fun h => ih' (ih h)
  | frame fr fr' σ h => exact fun F => F.weaken h
  | drop fr σ n hn h h' =>
    rintro ⟨m, pb, F⟩
    exact ⟨_, pb, F.drop R0 hn h h'⟩
  | adopt fr σ t sz c z h =>
    rintro ⟨m, pb, F⟩
    have ht : t < N := F.inN (by rw [h]; intro e; cases e)
    have hs := F.slot t ht
    rw [h] at hs
    rcases VR.sl_inv hs with ⟨_, _, hu⟩ | ⟨e, _⟩
    · obtain ⟨R, E⟩ := F.rel.newNone true 0 sz
      refine ⟨_, pb, (F.step E R).reval ht (ResR.of (.rsl _ _ _ _ _ ?_ (.inr ⟨true, 0, sz, [], none, by simp, by rw [← F.rel.len]; simp, Nat.le_refl _, fun _ => ⟨Nat.le_refl _, Nat.le_refl _, .inl ⟨rfl, rfl, hu⟩⟩⟩)))⟩
      rw [hu]; rfl
    · cases e
  | adoptF fr σ t i sz cs c z h h' =>
    rintro ⟨m, pb, F⟩
    have ht : t < N := F.inN (by rw [h]; intro e; cases e)
    obtain ⟨R, E⟩ := F.rel.newNone true 0 sz
    have F1 := F.step E R
    have hs := F1.slot t ht
    rw [h] at hs
    obtain ⟨b, us, T, h1, h2, h3, h4⟩ := hs
    obtain ⟨hi, _⟩ := List.getElem?_eq_some_iff.1 h'
    have hiu : i < us.toList.length := by rw [h4.1]; exact hi
    have hv := h4.2 i _ _ h' (List.getElem?_eq_getElem hiu)
    rcases VR.sl_inv hv with ⟨_, _, hu⟩ | ⟨e, _⟩
    · have h5 := h4.set (i := i) (v := .rsl σ.length 0 0 0) (u := us.toList[i]) (.rsl _ _ _ _ _ (by rw [hu]; rfl) (.inr ⟨true, 0, sz, [], none, by simp, by rw [← F.rel.len]; simp, Nat.le_refl _, fun _ => ⟨Nat.le_refl _, Nat.le_refl _, .inl ⟨rfl, rfl, hu⟩⟩⟩))
      rw [List.set_getElem_self] at h5
      refine ⟨_, pb, F1.tm, F1.df, F1.rel, fun t' ht' => ?_, fun t' ht' => ?_, F1.pinj, F1.pnew, F1.ext⟩
      · rw [lk_cons]
        by_cases e : t = t'
        · rw [if_pos e]; subst e; exact ⟨b, us, T, h1, h2, h3, h5⟩
        · rw [if_neg e]
          have hs := F1.slot t' ht'
          generalize lk fr t' = v0 at hs
          cases v0 with
          | lref s off =>
            intro cs' hcs
            rw [lk_cons] at hcs
            by_cases e' : t = s
            · subst e'; exact hs cs h
            · rw [if_neg e'] at hcs; exact hs cs' hcs
          | _ => exact hs
      · rw [lk_cons, if_neg (by omega)]; exact F1.far t' ht'
    · cases e
  | adoptO fr σ k i sz cs c z h h' =>
    rintro ⟨m, pb, F⟩
    obtain ⟨R, E⟩ := F.rel.newNone true 0 sz
    have F1 := F.step E R
    have hk : k < σ.length := (List.getElem?_eq_some_iff.1 h).1
    have h1 : (σ ++ [VO.arr true 0 sz []])[k]? = some (.box cs) := by rw [List.getElem?_append_left hk]; exact h
    have hml : k < (m ++ [none]).length := by rw [F1.rel.len]; simp; omega
    have hm := List.getElem?_eq_getElem hml
    obtain ⟨b, c', us, T, e1, e2, h4⟩ := F1.rel.objs k _ _ h1 hm
    obtain ⟨hi, _⟩ := List.getElem?_eq_some_iff.1 h'
    have hiu : i < us.toList.length := by rw [h4.1]; exact hi
    have hv := h4.2 i _ _ h' (List.getElem?_eq_getElem hiu)
    rcases VR.sl_inv hv with ⟨_, _, hu⟩ | ⟨e, _⟩
    · have h5 := h4.set (i := i) (v := .rsl σ.length 0 0 0) (u := us.toList[i]) (.rsl _ _ _ _ _ (by rw [hu]; rfl) (.inr ⟨true, 0, sz, [], none, by simp, by rw [← F.rel.len]; simp, Nat.le_refl _, fun _ => ⟨Nat.le_refl _, Nat.le_refl _, .inl ⟨rfl, rfl, hu⟩⟩⟩))
      rw [List.set_getElem_self] at h5
      have O1 : ObjR (pA A pb) (m ++ [none]) (σ ++ [VO.arr true 0 sz []]) w (.box (cs.set i (.rsl σ.length 0 0 0))) (m ++ [none])[k] := ⟨b, c', us, T, e1, e2, h5⟩
      obtain ⟨R2, E2⟩ := F1.rel.reObj h1 hm (o' := .box (cs.set i (.rsl σ.length 0 0 0))) ⟨rfl, by simp⟩ (fun σ' O => O1.mov ⟨Nat.le_refl _, fun b _ hn => ⟨rfl, hn⟩⟩ O F1.rel.len fun _ _ _ => rfl)
      exact ⟨_, pb, F1.step E2 R2⟩
    · cases e
  | freezeO fr σ k i id g lo hi sz nl es cs h h' h'' =>
    rintro ⟨m, pb, F⟩
    have hk : k < σ.length := (List.getElem?_eq_some_iff.1 h).1
    have hml : k < m.length := by rw [F.rel.len]; exact hk
    have hm := List.getElem?_eq_getElem hml
    obtain ⟨b, c', us, T, e1, e2, h4⟩ := F.rel.objs k _ _ h hm
    obtain ⟨hi', _⟩ := List.getElem?_eq_some_iff.1 h'
    have hiu : i < us.toList.length := by rw [h4.1]; exact hi'
    have hv := h4.2 i _ _ h' (List.getElem?_eq_getElem hiu)
    obtain ⟨R, E, hv2⟩ := F.rel.freeze h'' hv
    have F1 := F.step E R
    have hne : id ≠ k := fun e => by subst e; rw [h] at h''; cases h''
    have h1 : (σ.set id .dead)[k]? = some (.box cs) := by rw [List.getElem?_set, if_neg hne]; exact h
    have hm1 : (m.set id none)[k]? = some m[k] := by rw [List.getElem?_set, if_neg hne]; exact hm
    obtain ⟨b', c'', us', T', e1', e2', h4'⟩ := F1.rel.objs k _ _ h1 hm1
    rw [e1] at e1'
    cases e1'
    rw [e2] at e2'
    cases e2'
    have h5 := h4'.set (i := i) (v := .sl nl false sz ((es.take hi).drop lo)) (u := us.toList[i]) hv2
    rw [List.set_getElem_self] at h5
    have O1 : ObjR (pA A pb) (m.set id none) (σ.set id .dead) w (.box (cs.set i (.sl nl false sz ((es.take hi).drop lo)))) m[k] := ⟨b, c', us, T, e1, e2, h5⟩
    obtain ⟨R2, E2⟩ := F1.rel.reObj h1 hm1 (o' := .box (cs.set i (.sl nl false sz ((es.take hi).drop lo)))) ⟨rfl, by simp⟩ (fun σ' O => O1.mov ⟨Nat.le_refl _, fun b _ hn => ⟨rfl, hn⟩⟩ O F1.rel.len fun _ _ _ => rfl)
    exact ⟨_, pb, F1.step E2 R2⟩
  | freeze fr σ t id g lo hi sz nl es h h' =>
    rintro ⟨m, pb, F⟩
    have ht : t < N := F.inN (by rw [h]; intro e; cases e)
    have hs := F.slot t ht
    rw [h] at hs
    obtain ⟨R, E, hv⟩ := F.rel.freeze h' hs
    exact ⟨_, pb, (F.step E R).reval ht (ResR.of hv)⟩
  | dieO fr σ id =>
    rintro ⟨m, pb, F⟩
    rcases Nat.lt_or_ge id σ.length with h | h
    · obtain ⟨R, E⟩ := F.rel.dieObj (List.getElem?_eq_getElem h)
      exact ⟨_, pb, F.step E R⟩
    · rw [List.set_eq_of_length_le h]
      exact ⟨m, pb, F⟩

end
end Go.VL

/- Regions that draw their order, first part: what is told of plans, and of frames. Conditions: none (plain theorems over any program). -/
namespace Go.VL

theorem memB_iff : ∀ (l : List Nat) (i : Nat), memB l i = true ↔ i ∈ l
  | [], i => by simp [memB]
  | a :: l, i => by
    simp only [memB, Bool.or_eq_true, memB_iff l i, List.mem_cons]
    constructor
    · rintro (h | h)
      · exact .inl (Nat.eq_of_beq_eq_true h).symm
      · exact .inr h
    · rintro (rfl | h)
      · exact .inl (Nat.beq_refl _)
      · exact .inr h

theorem nodupB_iff : ∀ (l : List Nat), nodupB l = true → l.Nodup
  | [], _ => List.nodup_nil
  | a :: l, h => by
    simp only [nodupB, Bool.and_eq_true, Bool.not_eq_true'] at h
    refine List.nodup_cons.2 ⟨fun hm => ?_, nodupB_iff l h.2⟩
    rw [← memB_iff] at hm
    rw [hm] at h
    cases h.1

inductive Reach (ops : List Oper) : Nat → Nat → Prop where
  | one {i j : Nat} {o : Oper} (h : ops[i]? = some o) (hj : j ∈ depsOf o) : Reach ops i j
  | step {i j k : Nat} {o : Oper} (h : ops[i]? = some o) (hj : j ∈ depsOf o) (r : Reach ops j k) : Reach ops i k

theorem fold_bits (f : Nat → Nat) (t : Nat) : ∀ (l : List Nat) (x : Nat), (l.foldl (fun x d => x ||| (1 <<< d) ||| f d) x).testBit t = true → x.testBit t = true ∨ ∃ d ∈ l, t = d ∨ (f d).testBit t = true
  | [], x, h => .inl h
  | d :: l, x, h => by
    rw [List.foldl_cons] at h
    rcases fold_bits f t l _ h with h1 | ⟨d', hd, h1⟩
    · simp only [Nat.testBit_or, Bool.or_eq_true] at h1
      rcases h1 with (h1 | h1) | h1
      · exact .inl h1
      · refine .inr ⟨d, by simp, .inl ?_⟩
        rw [Nat.testBit_shiftLeft] at h1
        simp only [Bool.and_eq_true, decide_eq_true_eq] at h1
        have := h1.2
        rcases Nat.eq_zero_or_pos (t - d) with h0 | h0
        · omega
        · obtain ⟨k, hk⟩ : ∃ k, t - d = k + 1 := ⟨t - d - 1, by omega⟩
          rw [hk, Nat.testBit_succ] at this
          simp at this
      · exact .inr ⟨d, by simp, .inr h1⟩
    · exact .inr ⟨d', by simp [hd], h1⟩

theorem ancsGo_reach (ops : List Oper) : ∀ (os : List Oper) (acc : List Nat), ops.drop acc.length = os → (∀ i t, (acc.getD i 0).testBit t = true → Reach ops i t) → ∀ i t, ((ancsGo os acc).getD i 0).testBit t = true → Reach ops i t
  | [], acc, _, h, i, t, ht => h i t ht
  | o :: os, acc, hd, h, i, t, ht => by
    have ho : ops[acc.length]? = some o := by
      have := congrArg (fun l => l[0]?) hd
      simpa [List.getElem?_drop] using this
    refine ancsGo_reach ops os _ ?_ (fun i t ht => ?_) i t ht
    · have := congrArg List.tail hd
      simpa [List.tail_drop] using this
    · rw [List.getD_eq_getElem?_getD] at ht
      rcases Nat.lt_trichotomy i acc.length with hi | hi | hi
      · rw [List.getElem?_append_left hi, ← List.getD_eq_getElem?_getD] at ht
        exact h i t ht
      · subst hi
        rw [List.getElem?_append_right (Nat.le_refl _)] at ht
        simp only [Nat.sub_self, List.getElem?_cons_zero, Option.getD_some] at ht
        rcases fold_bits (fun d => acc.getD d 0) t _ _ ht with h1 | ⟨d, hd', h1⟩
        · simp at h1
        · rcases h1 with rfl | h1
          · exact .one ho hd'
          · exact .step ho hd' (h d t h1)
      · rw [List.getElem?_eq_none (by simp; omega)] at ht
        simp at ht

theorem ancsIt_reach {ops : List Oper} {prev : List Nat} (h : ∀ i t, (prev.getD i 0).testBit t = true → Reach ops i t) (i t : Nat) (ht : ((ancsIt ops prev).getD i 0).testBit t = true) : Reach ops i t := by
  unfold ancsIt at ht
  rw [List.getD_eq_getElem?_getD, List.getElem?_map] at ht
  cases ho : ops[i]? with
  | none => rw [ho] at ht; simp at ht
  | some o =>
    rw [ho] at ht
    simp only [Option.map_some, Option.getD_some] at ht
    rcases fold_bits (fun d => prev.getD d 0) t _ _ ht with h1 | ⟨d, hd', h1⟩
    · simp at h1
    · rcases h1 with rfl | h1
      · exact .one ho hd'
      · exact .step ho hd' (h d t h1)
theorem ancsN_reach {ops : List Oper} : ∀ (n : Nat) (prev : List Nat), (∀ i t, (prev.getD i 0).testBit t = true → Reach ops i t) → ∀ i t, ((ancsN ops n prev).getD i 0).testBit t = true → Reach ops i t
  | 0, _, h => h
  | n + 1, prev, h => ancsN_reach n _ (ancsIt_reach h)
theorem ancs_reach {ops : List Oper} {i t : Nat} (h : bitB ((ancs ops).getD i 0) t = true) : Reach ops i t := by
  have h0 := ancsGo_reach ops ops [] rfl (fun i t h => by simp at h)
  unfold ancs at h
  cases hb : backB ops 0 with
  | true => rw [hb] at h; exact ancsN_reach 12 _ h0 i t h
  | false => rw [hb] at h; exact h0 i t h

theorem reach_listed {ops : List Oper} {L : Nat → Prop} (hL : ∀ (i : Nat) o, L i → ops[i]? = some o → ∀ j ∈ depsOf o, L j) {i t : Nat} (r : Reach ops i t) : (∀ o, ops[i]? = some o → ∀ j ∈ depsOf o, L j) → L t := by
  induction r with
  | one h hj => exact fun H => H _ h _ hj
  | step h hj r ih => exact fun H => ih fun o ho j hj' => hL _ _ (H _ h _ hj) ho j hj'

def lastOf (tl : List Nat) : List Nat → Option Nat → Option Nat
  | [], last => last
  | i :: r, last => lastOf tl r (bif memB tl i then some i else last)

theorem lastOf_mem (tl : List Nat) : ∀ (p : List Nat) (x : Nat), ∃ t, lastOf tl p (some x) = some t ∧ (t = x ∨ t ∈ p)
  | [], x => ⟨x, rfl, .inl rfl⟩
  | i :: r, x => by
    simp only [lastOf]
    cases memB tl i with
    | true =>
      obtain ⟨t, h1, h2⟩ := lastOf_mem tl r i
      refine ⟨t, h1, .inr ?_⟩
      rcases h2 with rfl | h2
      · simp
      · simp [h2]
    | false =>
      obtain ⟨t, h1, h2⟩ := lastOf_mem tl r x
      refine ⟨t, h1, ?_⟩
      rcases h2 with rfl | h2
      · exact .inl rfl
      · exact .inr (by simp [h2])

theorem lastOf_app (tl : List Nat) : ∀ (p : List Nat) (τ : Nat) (q : List Nat) (l : Option Nat), memB tl τ = true → ∃ t, lastOf tl (p ++ τ :: q) l = some t ∧ (t = τ ∨ t ∈ q)
  | [], τ, q, l, h => by
    simp only [List.nil_append, lastOf, h, cond_true]
    exact lastOf_mem tl q τ
  | i :: p, τ, q, l, h => by
    simp only [List.cons_append, lastOf]
    exact lastOf_app tl p τ q _ h

/-- What a good plan tells of one operation. -/
structure Placed (ops : List Oper) (tl pre : List Nat) (i : Nat) (o : Oper) : Prop where
  at_ : ops[i]? = some o
  deps : ∀ j ∈ depsOf o, j ∈ pre
  last : ∀ t, lastOf tl pre none = some t → Reach ops i t
  isT : memB tl i = true → effA o.op = true ∧ o.guard = none
  isQ : memB tl i = false → (∃ d, o.dst = some d) ∧ ((∃ f args ats, o.op = .call { callee := .value f, args := args, argTypes := ats }) ∨ (∃ args ats, o.op = .call { callee := .builtin .append, args := args, argTypes := ats }) ∨ effect o.op = false) ∧ ∀ j want, o.guard = some (j, want) → j ∈ depsOf o ∧ memB tl j = false

theorem planB_at {ops : List Oper} {tl : List Nat} {i : Nat} {rest : List Nat} : ∀ (pre seen : List Nat) (last : Option Nat), planB ops (ancs ops) tl (pre ++ i :: rest) seen last = true →
    ∃ o, ops[i]? = some o ∧ (∀ j ∈ depsOf o, j ∈ pre ∨ j ∈ seen) ∧ (∀ t, lastOf tl pre last = some t → Reach ops i t) ∧ (memB tl i = true → effA o.op = true ∧ o.guard = none) ∧
      (memB tl i = false → (∃ d, o.dst = some d) ∧ ((∃ f args ats, o.op = .call { callee := .value f, args := args, argTypes := ats }) ∨ (∃ args ats, o.op = .call { callee := .builtin .append, args := args, argTypes := ats }) ∨ effect o.op = false) ∧ ∀ j want, o.guard = some (j, want) → j ∈ depsOf o ∧ memB tl j = false)
  | [], seen, last, h => by
    simp only [List.nil_append, planB, Bool.and_eq_true] at h
    obtain ⟨h, _⟩ := h
    cases ho : ops[i]? with
    | none => rw [ho] at h; simp at h
    | some o =>
      rw [ho] at h
      simp only [Bool.and_eq_true, List.all_eq_true] at h
      obtain ⟨⟨h1, h2⟩, h3⟩ := h
      refine ⟨o, rfl, fun j hj => .inr ((memB_iff _ _).1 (h1 j hj)), fun t ht => ?_, fun hm => ?_, fun hm => ?_⟩
      · simp only [lastOf] at ht
        rw [ht] at h2
        exact ancs_reach h2
      · rw [hm] at h3
        simp only [cond_true, Bool.and_eq_true] at h3
        exact ⟨h3.1, by simpa using h3.2⟩
      · rw [hm] at h3
        simp only [cond_false, Bool.and_eq_true] at h3
        obtain ⟨⟨h4, h5⟩, h6⟩ := h3
        refine ⟨Option.isSome_iff_exists.1 h4, ?_, fun j want hg => ?_⟩
        · split at h5
          · rename_i f args ats heq
            exact .inl ⟨_, _, _, heq⟩
          · rename_i args ats heq
            exact .inr (.inl ⟨_, _, heq⟩)
          · exact .inr (.inr (by simpa using h5))
        · rw [hg] at h6
          simp only [Bool.and_eq_true, Bool.not_eq_true'] at h6
          exact ⟨(memB_iff _ _).1 h6.1, h6.2⟩
  | p :: pre, seen, last, h => by
    simp only [List.cons_append, planB, Bool.and_eq_true] at h
    obtain ⟨o, h1, h2, h3, h4, h5⟩ := planB_at pre _ _ h.2
    refine ⟨o, h1, fun j hj => ?_, h3, h4, h5⟩
    rcases h2 j hj with h | h
    · exact .inl (by simp [h])
    · rcases List.mem_cons.1 h with rfl | h
      · exact .inl (by simp)
      · exact .inr h

theorem placed {ops : List Oper} {tl plan pre rest : List Nat} {i : Nat} (h : planB ops (ancs ops) tl plan [] none = true) (hp : plan = pre ++ i :: rest) : ∃ o, Placed ops tl pre i o := by
  subst hp
  obtain ⟨o, h1, h2, h3, h4, h5⟩ := planB_at pre [] none h
  exact ⟨o, h1, fun j hj => (h2 j hj).resolve_right (by simp), h3, h4, h5⟩

/-! Places -/

theorem qdstsGo_mem {tl : List Nat} : ∀ {os : List Oper} {k j : Nat} {o : Oper} {d : Nat}, os[j]? = some o → o.dst = some d → memB tl (k + j) = false → d ∈ qdstsGo tl os k
  | [], _, _, _, _, h, _, _ => by simp at h
  | o' :: os, k, 0, o, d, h, hd, hm => by
    simp at h
    subst h
    simp only [Nat.add_zero] at hm
    simp [qdstsGo, hm, hd]
  | o' :: os, k, j + 1, o, d, h, hd, hm => by
    have ih := qdstsGo_mem (os := os) (k := k + 1) (j := j) (by simpa using h) hd (by rw [show k + 1 + j = k + (j + 1) by omega]; exact hm)
    simp only [qdstsGo]
    cases memB tl k with
    | true => exact ih
    | false =>
      cases o'.dst with
      | none => exact ih
      | some d' => simp [ih]

theorem qdstsGo_inj {tl : List Nat} : ∀ {os : List Oper} {k j j' : Nat} {o o' : Oper} {d : Nat}, (qdstsGo tl os k).Nodup → os[j]? = some o → o.dst = some d → memB tl (k + j) = false → os[j']? = some o' → o'.dst = some d → memB tl (k + j') = false → j = j'
  | [], _, _, _, _, _, _, _, h, _, _, _, _, _ => by simp at h
  | p :: os, k, j, j', o, o', d, hn, h1, h2, h3, h4, h5, h6 => by
    have hn' : (qdstsGo tl os (k + 1)).Nodup := by
      simp only [qdstsGo] at hn
      cases hm : memB tl k with
      | true => rw [hm] at hn; exact hn
      | false =>
        rw [hm] at hn
        cases hp : p.dst with
        | none => rw [hp] at hn; exact hn
        | some d' => rw [hp] at hn; exact (List.nodup_cons.1 hn).2
    have hin : ∀ i q, memB tl (k + (i + 1)) = false → os[i]? = some q → q.dst = some d → memB tl k = false → p.dst = some d → False := by
      intro i q hi hq hqd hm hp
      have := qdstsGo_mem (os := os) (k := k + 1) hq hqd (by rw [show k + 1 + i = k + (i + 1) by omega]; exact hi)
      simp only [qdstsGo, hm, cond_false, hp] at hn
      exact (List.nodup_cons.1 hn).1 this
    cases j with
    | zero =>
      cases j' with
      | zero => rfl
      | succ j' =>
        simp at h1 h4
        subst h1
        exact (hin j' o' h6 h4 h5 (by simpa using h3) h2).elim
    | succ j =>
      cases j' with
      | zero =>
        simp at h1 h4
        subst h4
        exact (hin j o h3 h1 h2 (by simpa using h6) h5).elim
      | succ j' =>
        have := qdstsGo_inj (os := os) (k := k + 1) (j := j) (j' := j') hn' (by simpa using h1) h2 (by rw [show k + 1 + j = k + (j + 1) by omega]; exact h3) (by simpa using h4) h5 (by rw [show k + 1 + j' = k + (j' + 1) by omega]; exact h6)
        omega

theorem gslot_some {ops : List Oper} {j d : Nat} (h : gslot ops j = some d) : ∃ o, ops[j]? = some o ∧ o.dst = some d := by
  unfold gslot at h
  cases ho : ops[j]? with
  | none => rw [ho] at h; cases h
  | some o => rw [ho] at h; exact ⟨o, rfl, h⟩

theorem lk_app (fr fr' : Fr) (t : Nat) : lk (fr ++ fr') t = lk fr' t ∨ ∃ v, (t, v) ∈ fr ∧ lk (fr ++ fr') t = v := by
  induction fr with
  | nil => exact .inl rfl
  | cons p r ih =>
    obtain ⟨d, v⟩ := p
    rw [List.cons_append, lk_cons]
    by_cases e : d = t
    · subst e
      exact .inr ⟨v, by simp, by simp⟩
    · rw [if_neg e]
      rcases ih with h | ⟨v', h1, h2⟩
      · exact .inl h
      · exact .inr ⟨v', by simp [h1], h2⟩

theorem lk_app_congr (fr : Fr) {fr1 fr2 : Fr} {t : Nat} (h : lk fr1 t = lk fr2 t) : lk (fr ++ fr1) t = lk (fr ++ fr2) t := by
  induction fr with
  | nil => exact h
  | cons p r ih => obtain ⟨d, v⟩ := p; rw [List.cons_append, List.cons_append, lk_cons, lk_cons, ih]

theorem lk_app_none {fr fr' : Fr} {t : Nat} (h : ∀ p ∈ fr, p.1 ≠ t) : lk (fr ++ fr') t = lk fr' t := by
  induction fr with
  | nil => rfl
  | cons p r ih =>
    obtain ⟨d, v⟩ := p
    rw [List.cons_append, lk_cons, if_neg (h (d, v) (by simp))]
    exact ih fun p hp => h p (by simp [hp])

theorem lk_blanks {l : List Nat} {fr : Fr} {t : Nat} : (t ∈ l ∧ lk (blanks l ++ fr) t = .undef) ∨ (t ∉ l ∧ lk (blanks l ++ fr) t = lk fr t) := by
  induction l with
  | nil => exact .inr ⟨by simp, rfl⟩
  | cons d l ih =>
    simp only [blanks, List.map_cons, List.cons_append, lk_cons]
    by_cases e : d = t
    · exact .inl ⟨by simp [e], by simp [e]⟩
    · rw [if_neg e]
      rcases ih with ⟨h1, h2⟩ | ⟨h1, h2⟩
      · exact .inl ⟨by simp [h1], h2⟩
      · exact .inr ⟨by simp [h1]; exact fun e' => e e'.symm, h2⟩

theorem lkd_mem : ∀ {done : List (Nat × V)} {j : Nat} {v : V}, lkd done j = some v → (j, v) ∈ done
  | p :: r, j, v, h => by
    simp only [lkd] at h
    cases hb : Nat.beq p.1 j with
    | true =>
      rw [hb] at h
      simp at h
      have := Nat.eq_of_beq_eq_true hb
      subst this h
      simp
    | false =>
      rw [hb] at h
      simp [lkd_mem h]

theorem mem_lkd : ∀ {done : List (Nat × V)} {j : Nat} {v : V}, (done.map (·.1)).Nodup → (j, v) ∈ done → lkd done j = some v
  | p :: r, j, v, hn, h => by
    simp only [List.map_cons, List.nodup_cons] at hn
    simp only [lkd]
    rcases List.mem_cons.1 h with h | h
    · subst h
      simp
    · have hne : p.1 ≠ j := fun e => hn.1 (e ▸ List.mem_map.2 ⟨(j, v), h, rfl⟩)
      have : Nat.beq p.1 j = false := by
        cases hb : Nat.beq p.1 j with
        | false => rfl
        | true => exact absurd (Nat.eq_of_beq_eq_true hb) hne
      rw [this]
      exact mem_lkd hn.2 h

theorem vis_mem {ops : List Oper} {done : List (Nat × V)} : ∀ {js : List Nat} {p : Nat × V}, p ∈ visOf ops done js → ∃ j ∈ js, gslot ops j = some p.1 ∧ lkd done j = some p.2
  | j :: js, p, h => by
    simp only [visOf] at h
    split at h
    · rename_i d v h1 h2
      rcases List.mem_cons.1 h with h | h
      · subst h
        exact ⟨j, by simp, h1, h2⟩
      · obtain ⟨j', h3, h4⟩ := vis_mem h
        exact ⟨j', by simp [h3], h4⟩
    · obtain ⟨j', h3, h4⟩ := vis_mem h
      exact ⟨j', by simp [h3], h4⟩

theorem doneFr_mem {ops : List Oper} : ∀ {done : List (Nat × V)} {p : Nat × V}, p ∈ doneFr ops done → ∃ j, gslot ops j = some p.1 ∧ (j, p.2) ∈ done
  | q :: r, p, h => by
    simp only [doneFr] at h
    split at h
    · rename_i d h1
      rcases List.mem_cons.1 h with h | h
      · subst h
        exact ⟨q.1, h1, by simp⟩
      · obtain ⟨j, h2, h3⟩ := doneFr_mem h
        exact ⟨j, h2, by simp [h3]⟩
    · obtain ⟨j, h2, h3⟩ := doneFr_mem h
      exact ⟨j, h2, by simp [h3]⟩

theorem mem_doneFr {ops : List Oper} : ∀ {done : List (Nat × V)} {j d : Nat} {v : V}, gslot ops j = some d → (j, v) ∈ done → (d, v) ∈ doneFr ops done
  | q :: r, j, d, v, h, hm => by
    simp only [doneFr]
    rcases List.mem_cons.1 hm with e | hm
    · subst e
      simp [h]
    · have := mem_doneFr h hm
      split <;> simp [this]

theorem lk_of_mem {fr fr' : Fr} {t : Nat} {v : V} (h : (t, v) ∈ fr) (hu : ∀ v', (t, v') ∈ fr → v' = v) : lk (fr ++ fr') t = v := by
  induction fr with
  | nil => cases h
  | cons p r ih =>
    obtain ⟨d, v0⟩ := p
    rw [List.cons_append, lk_cons]
    by_cases e : d = t
    · subst e
      rw [if_pos rfl]
      exact hu v0 (by simp)
    · rw [if_neg e]
      rcases List.mem_cons.1 h with h | h
      · cases h; exact absurd rfl e
      · exact ih h fun v' hv' => hu v' (by simp [hv'])

end Go.VL

/- Regions that draw their order, second part: operations, wherever they come. Conditions: the table of types tells the program's own rows (TabOK). -/
namespace Go.VL
variable {ro : Option Nat}

section
variable {C : Cfg} {A : Nat → Prop} {m0 : Mp} {σ0 : St} {w0 : World} {N : Nat} {fr M : Fr} {σ : St} {a : Act} {w : World} {o : Oper}

theorem isU_iff {v : V} : isU v = false → v ≠ .undef := by
  intro h e
  subst e
  cases h

theorem opv_up (hM : ∀ t, lk M t = lk fr t ∨ lk M t = .undef) {x : Operand} (h : isU (opv M x) = false) : opv M x = opv fr x := by
  cases x with
  | tmp t =>
    rcases hM t with e | e
    · exact e
    · exact absurd e (isU_iff h)
  | _ => rfl

theorem vsrc_mono {σ : St} {e xt : TypeId} {x : V} {K K' : List V → Prop} (hk : ∀ l, K l → K' l) (h : vsrc C σ e xt x K) : vsrc C σ e xt x K' := by
  unfold vsrc at h ⊢
  cases x <;> (try simp only at h ⊢) <;> try exact h.elim
  case sl => exact ⟨h.1, h.2.1, hk _ h.2.2⟩
  case str => exact ⟨h.1, h.2.1, hk _ h.2.2⟩
  case rsl id g lo hi =>
    refine ⟨h.1, ?_⟩
    have h2 := h.2
    generalize σ[id]? = ob at h2 ⊢
    cases ob with
    | none => exact h2.elim
    | some ob =>
      cases ob <;> (try simp only at h2 ⊢) <;> try exact h2.elim
      exact ⟨h2.1, h2.2.1, hk _ h2.2.2⟩
  case int k n =>
    cases k <;> (try simp only at h ⊢) <;> try exact h.elim
    exact ⟨h.1, h.2.1, h.2.2.1, h.2.2.2.1, hk _ h.2.2.2.2⟩

theorem vsrc_noU {C : Cfg} {σ : St} {e xt : TypeId} {x : V} {K : List V → Prop} (h : vsrc C σ e xt x K) : x ≠ .undef := by
  rintro rfl
  exact h
theorem vsrc_false {C : Cfg} {σ : St} (e xt : TypeId) (x : V) : ¬ vsrc C σ e xt x fun _ => False := by
  intro h
  unfold vsrc at h
  split at h
  · exact h.2.2
  · obtain ⟨_, h⟩ := h
    split at h
    · exact h.2.2
    · exact h
  · exact h.2.2
  · exact h.2.2.2.2
  · exact h
theorem tok_frz {C : Cfg} (tok : TabOK C) (l : List Tmp) : TabOK { C with frz := l } := ⟨tok.ty, tok.eq, tok.ck, tok.mix⟩
/-- An operation that changes nothing, at a frame of which less is known: it tells v, and nothing else changes. -/
theorem q_step (tok : TabOK C) {m : Mp} {pb : Nat → Option Nat} (F : Frm A m0 σ0 w0 N fr σ a w m pb) (hM : ∀ t, lk M t = lk fr t ∨ lk M t = .undef) {d : Nat} (hd : o.dst = some d) (hdN : d < N) {v : V}
    (hk : (∃ f args ats, o.op = .call { callee := .value f, args := args, argTypes := ats }) ∨ (∃ args ats, o.op = .call { callee := .builtin .append, args := args, argTypes := ats }) ∨ effect o.op = false) (h : vq1 C M σ o v) {next : Act → World → Prop} {Q : Exit → Act → World → Prop}
    (hn : ∀ a' w', (∀ cs, v ≠ .cell cs) → FRel A m0 σ0 w0 N ((d, v) :: fr) σ a' w' → next a' w') : o.wpIn (WF ro) 0 C.P a w next Q := by
  have FM := F.weaken hM
  rcases hk with ⟨f, args, ats, ho⟩ | ⟨args, ats, ho⟩ | he
  · unfold vq1 at h
    rw [ho] at h
    simp only at h
    generalize hX : opv M f = X at h
    cases X <;> (try simp only at h) <;> try exact h.elim
    rename_i fn first cap
    cases fn <;> (try simp only at h) <;> try exact h.elim
    rename_i g
    obtain ⟨hav, hc⟩ := h
    obtain ⟨us, ts, hu, hv1, hv2⟩ := (hX ▸ FM.opnd f (by rw [hX]; rfl) : VR _ m σ w (.fn (.func g) first cap) _).fn_inv
    have hargs := opnds_VRs FM args.toList fun x hx => List.all_eq_true.1 hav _ (List.mem_map_of_mem hx)
    have hrun : (execOp a.eval o).run C.P w = .ok (.enter g (us ++ args.map a.eval ++ ts)) w := by
      simp only [execOp, ho]
      exact call_run C.P a.eval f args ats o.type w hu hc.1
    refine ⟨fun _ _ => trivial, ?_⟩
    rw [Oper.semAt_eq _ _ _ (fun c e => by rw [ho] at e; cases e), hrun]
    refine ⟨fun e => by simp [Fence.wide] at e, ?_⟩
    have hcall := hc.2 (pA A pb) m w _ F.rel ((hv1.append hargs).append hv2)
    have he : (us.toList ++ args.toList.map a.eval ++ ts.toList).toArray = us ++ args.map a.eval ++ ts := Array.ext' (by simp)
    rw [he] at hcall
    refine CallsIn.mono (callsIn_wide.2 hcall : CallsIn Fence.wide _ _ _ _ _ _) fun e w' ⟨r, u, m', σ', h1, h2, h3, h4, h5, h6⟩ => ?_
    subst h1 h5 h6
    rw [hd]
    refine hn _ w' (fun cs e => by have := h2.isVal; rw [e] at this; cases this) ⟨m', pb, (F.step h4 h3).put hdN (ResR.of h2)⟩
  · unfold vq1 at h
    rw [ho] at h
    simp only [vqx] at h
    split at h
    · rename_i s x st xt ha ht
      unfold vappQ at h
      obtain ⟨k1, k2, h⟩ := h
      split at h
      · rename_i e heq
        obtain ⟨k3, k4, k5, h⟩ := h
        have hx : opv M x = opv fr x := opv_up hM (by
          have := vsrc_noU h
          generalize opv M x = X at this
          cases X <;> first | rfl | exact absurd rfl this)
        obtain ⟨nl, clip, sz, es, hs⟩ : ∃ nl clip sz es, opv M s = .sl nl clip sz es := by
          cases hS : opv M s <;> rw [hS] at h
          case sl nl clip sz es => exact ⟨nl, clip, sz, es, rfl⟩
          all_goals exact absurd (vsrc_mono (C := C) (K' := fun _ => False) (fun l hl => hl) h) (vsrc_false _ _ _)
        have hs' : opv M s = opv fr s := opv_up hM (by rw [hs]; rfl)
        have hv : ∀ cs, v ≠ .cell cs := by
          rintro cs rfl
          rw [hs] at h
          exact vsrc_false _ _ _ (vsrc_mono (C := C) (K' := fun _ => False) (fun l hl => by have := hl.2.2.2; cases this) h)
        refine e_append (C := { C with frz := d :: C.frz }) (K := fun fr' σ' => fr' = (d, v) :: fr ∧ σ' = σ) (tok_frz tok _) F (fun d' h' => by rw [hd] at h'; cases h'; exact hdN) ho ha ht ?_ (fun fr' σ' a' w' F' hk => by
          obtain ⟨rfl, rfl⟩ := hk
          exact hn _ _ hv F')
        have hfz : isFrz { C with frz := d :: C.frz } o = true := by simp [isFrz, hd, memB]
        unfold vappend
        rw [hfz]
        refine ⟨k1, k2, ?_⟩
        show (match (C.T st).d with | .slice e => _ | _ => False)
        rw [heq]
        refine ⟨k3, k4, k5, ?_⟩
        rw [← hx, ← hs', hs]
        rw [hs] at h
        refine vsrc_mono (C := C) (fun src hq => ?_) h
        simp only at hq
        refine ⟨hq.1, hq.2.1, hq.2.2.1, ?_⟩
        simp only [cond_true, putd, hd]
        exact ⟨by rw [hq.2.2.2], trivial⟩
      · exact h.elim
    · exact h.elim
  · have hq : vq C M σ o.op fun x => x = v := by
      unfold vq1 vqx at h
      split at h
      · rename_i f args ats heq
        rw [heq] at he
        simp [effect] at he
      · split at h
        · rename_i args ats heq
          rw [heq] at he
          simp [effect] at he
        · exact h
    obtain ⟨v', u, w', rfl, hr, g, hrun⟩ := vq_sound tok FM hq
    refine wp_value hrun ?_
    rw [hd]
    exact hn _ w' hr.notCell ⟨m, pb, (F.grow g).put hdN hr⟩

theorem putd_app (fr : Fr) (o : Oper) (v : V) : putd fr o v = putd [] o v ++ fr := by
  unfold putd
  cases o.dst <;> rfl
theorem putd_mem {o : Oper} {v : V} {p : Nat × V} (h : p ∈ putd [] o v) : o.dst = some p.1 := by
  unfold putd at h
  cases ho : o.dst with
  | none => rw [ho] at h; cases h
  | some d => rw [ho] at h; simp at h; rw [h]

theorem vappend_up {σ : St} {s x : V} {st xt : TypeId} {K K' : Fr → St → Prop} (hk : ∀ v σ', K (putd M o v) σ' → K' (putd fr o v) σ') (h : vappend C M σ o s x st xt K) : vappend C fr σ o s x st xt K' := by
  unfold vappend at h ⊢
  refine ⟨h.1, h.2.1, ?_⟩
  replace h := h.2.2
  cases hd : (C.T st).d <;> rw [hd] at h <;> (try simp only at h ⊢) <;> try exact h.elim
  refine ⟨h.1, h.2.1, h.2.2.1, vsrc_mono (fun src hq => ?_) h.2.2.2⟩
  clear h
  have h := hq
  clear hq
  cases s <;> (try simp only at h ⊢) <;> try exact h.elim
  case sl nl clip sz es =>
    refine ⟨h.1, h.2.1, h.2.2.1, ?_⟩
    replace h := h.2.2.2
    cases hf : isFrz C o <;> rw [hf] at h <;> simp only [cond_true, cond_false] at h ⊢
    · exact ⟨h.1, hk _ _ h.2⟩
    · exact hk _ _ h
  case rsl id g lo hi =>
    generalize σ[id]? = ob at h ⊢
    cases ob with
    | none => exact h.elim
    | some ob =>
      cases ob <;> (try simp only at h ⊢) <;> try exact h.elim
      cases hin : isInp C o <;> rw [hin] at h <;> simp only [cond_true, cond_false] at h ⊢
      case true => exact ⟨h.1, h.2.1, h.2.2.1, h.2.2.2.1, h.2.2.2.2.1, hk _ _ h.2.2.2.2.2⟩
      refine ⟨h.1, h.2.1, h.2.2.1, h.2.2.2.1, h.2.2.2.2.1, ?_⟩
      replace h := h.2.2.2.2.2
      cases hf : isFrz C o <;> rw [hf] at h <;> simp only [cond_true, cond_false] at h ⊢ <;> exact hk _ _ h

theorem all_up (hM : ∀ t, lk M t = lk fr t ∨ lk M t = .undef) {l : List Operand} (h : ∀ x ∈ l, isU (opv M x) = false) : l.map (opv M) = l.map (opv fr) :=
  List.map_congr_left fun x hx => opv_up hM (h x hx)

/-- An operation that changes something, at a frame of which more is known. -/
theorem ve_up (hM : ∀ t, lk M t = lk fr t ∨ lk M t = .undef) (hnl : ∀ d, o.dst = some d → noLref d M = true → noLref d fr = true) (hU : (o.op.operands.toList.all fun x => !isU (opv M x)) = true) {K : Fr → St → Prop} (h : ve C M σ o K) :
    ve C fr σ o fun fr' σ' => ∃ pfx, fr' = pfx ++ fr ∧ K (pfx ++ M) σ' ∧ ∀ p ∈ pfx, o.dst = some p.1 ∨ ∃ cs, lk fr p.1 = .cell cs := by
  have hU' : ∀ x ∈ o.op.operands.toList, isU (opv M x) = false := fun x hx => by simpa using List.all_eq_true.1 hU x hx
  have leaf : ∀ v σ', K (putd M o v) σ' → ∃ pfx, putd fr o v = pfx ++ fr ∧ K (pfx ++ M) σ' ∧ ∀ p ∈ pfx, o.dst = some p.1 ∨ ∃ cs, lk fr p.1 = .cell cs := fun v σ' hk =>
    ⟨putd [] o v, putd_app _ _ _, by rw [← putd_app]; exact hk, fun p hp => .inl (putd_mem hp)⟩
  cases ho : o.op <;> unfold ve at h ⊢ <;> rw [ho] at h hU' ⊢ <;> (try simp only at h ⊢) <;> try exact h.elim
  case alloc t =>
    refine ⟨h.1, ?_⟩
    replace h := h.2
    cases hd : o.dst with
    | none => rw [hd] at h; exact h.elim
    | some d =>
      rw [hd] at h
      simp only at h ⊢
      cases hm : memB C.esc d <;> rw [hm] at h <;> simp only [cond_true, cond_false] at h ⊢
      · exact ⟨hnl d hd h.1, [_], rfl, h.2, fun p hp => .inl (by simp at hp; rw [hp])⟩
      · exact ⟨[_], rfl, h, fun p hp => .inl (by simp at hp; rw [hp])⟩
  case box t x =>
    have e := opv_up hM (hU' x (by simp [Op.operands]))
    rw [e] at h
    refine ⟨h.1, ?_⟩
    replace h := h.2
    cases hd : o.dst with
    | none => rw [hd] at h; exact h.elim
    | some d =>
      rw [hd] at h
      simp only at h ⊢
      cases hm : memB C.esc d <;> rw [hm] at h <;> simp only [cond_true, cond_false] at h ⊢
      · cases hw : memB C.wrt d <;> rw [hw] at h <;> simp only [cond_true, cond_false] at h ⊢
        · exact ⟨h.1, [_], rfl, h.2, fun p hp => .inl (by simp at hp; rw [hp])⟩
        · exact ⟨hnl d hd h.1, [_], rfl, h.2, fun p hp => .inl (by simp at hp; rw [hp])⟩
      · exact ⟨[_], rfl, h, fun p hp => .inl (by simp at hp; rw [hp])⟩
  case store t p x =>
    have e := opv_up hM (hU' x (by simp [Op.operands]))
    have ep := opv_up hM (hU' p (by simp [Op.operands]))
    rw [e] at h
    refine ⟨h.1, h.2.1, h.2.2.1, ?_⟩
    replace h := h.2.2.2
    unfold vstore at h ⊢
    rw [ep] at h
    cases hX : opv fr p <;> rw [hX] at h <;> (try simp only at h ⊢) <;> try exact h.elim
    case cell cs =>
      cases p <;> (try simp only at h ⊢) <;> try exact h.elim
      rename_i s
      refine ⟨h.1, putd [] o (.tup []) ++ [(s, .cell (setCells cs 0 (opv fr x).cells))], by rw [putd_app]; simp, by have := h.2; rw [putd_app] at this; simpa using this, fun q hq => ?_⟩
      rcases List.mem_append.1 hq with hq | hq
      · exact .inl (putd_mem hq)
      · simp at hq
        rw [hq]
        exact .inr ⟨cs, hX⟩
    case lref s off =>
      have hs : ∀ cs, lk M s = .cell cs → lk fr s = .cell cs := fun cs e => by
        rcases hM s with e' | e'
        · rw [← e', e]
        · rw [e'] at e; cases e
      cases hc : lk M s <;> rw [hc] at h <;> (try simp only at h) <;> try exact h.elim
      rename_i cs
      rw [hs cs hc]
      refine ⟨h.1, putd [] o (.tup []) ++ [(s, .cell (setCells cs off (opv fr x).cells))], by rw [putd_app]; simp, by have := h.2; rw [putd_app] at this; simpa using this, fun q hq => ?_⟩
      rcases List.mem_append.1 hq with hq | hq
      · exact .inl (putd_mem hq)
      · simp at hq
        rw [hq]
        exact .inr ⟨cs, hs cs hc⟩
    case ptr id off =>
      generalize σ[id]? = ob at h ⊢
      cases ob with
      | none => exact h.elim
      | some ob =>
        cases ob <;> (try simp only at h ⊢) <;> try exact h.elim
        exact ⟨h.1, leaf _ _ h.2⟩
    case eptr id g i off =>
      generalize σ[id]? = ob at h ⊢
      cases ob with
      | none => exact h.elim
      | some ob =>
        cases ob <;> (try simp only at h ⊢) <;> try exact h.elim
        exact ⟨h.1, h.2.1, h.2.2.1, leaf _ _ h.2.2.2⟩
  case assign x =>
    rw [opv_up hM (hU' x (by simp [Op.operands]))] at h
    exact ⟨h.1, leaf _ _ h.2⟩
  case buildSlice t n parts =>
    rw [vbuildSlice_congr (List.map_congr_left fun p hp => opv_up hM (hU' p.2 (by simp [Op.operands]; exact ⟨p.1, by simpa using hp⟩)))] at h
    exact vbuildSlice_mono (fun v => vrow_mono fun v σ' hk => leaf v σ' hk) h
  case convert s d x =>
    rw [opv_up hM (hU' x (by simp [Op.operands]))] at h
    exact vshare_mono (fun v σ' hk => leaf v σ' hk) h
  case makeMap t r => exact ⟨h.1, leaf _ _ h.2⟩
  case range t x =>
    rw [opv_up hM (hU' x (by simp [Op.operands]))] at h
    exact vrange_mono (fun v σ' hk => leaf v σ' hk) h
  case next x s =>
    rw [opv_up hM (hU' x (by simp [Op.operands]))] at h
    exact vnext_mono (fun v σ' hk => leaf v σ' hk) h
  case makeSlice t l c =>
    rw [opv_up hM (hU' l (by simp [Op.operands])), opv_up hM (hU' c (by simp [Op.operands]))] at h
    exact vmake_mono (fun v σ' hk => leaf v σ' hk) h
  case insert t x k v =>
    rw [opv_up hM (hU' x (by simp [Op.operands])), opv_up hM (hU' k (by simp [Op.operands])), opv_up hM (hU' v (by simp [Op.operands]))] at h
    refine ⟨h.1, ?_⟩
    replace h := h.2
    cases hd : (C.T t).d <;> rw [hd] at h <;> (try simp only at h ⊢) <;> try exact h.elim
    cases hx : opv fr x <;> rw [hx] at h <;> (try simp only at h ⊢) <;> try exact h.elim
    rename_i id
    refine ⟨h.1, h.2.1, h.2.2.1, ?_⟩
    replace h := h.2.2.2
    generalize σ[id]? = ob at h ⊢
    cases ob with
    | none => exact h.elim
    | some ob =>
      cases ob <;> (try simp only at h ⊢) <;> try exact h.elim
      exact ⟨h.1, leaf _ _ h.2⟩
  case mapUpdate t x k v =>
    rw [opv_up hM (hU' x (by simp [Op.operands])), opv_up hM (hU' k (by simp [Op.operands])), opv_up hM (hU' v (by simp [Op.operands]))] at h
    refine ⟨h.1, ?_⟩
    replace h := h.2
    cases hd : (C.T t).d <;> rw [hd] at h <;> (try simp only at h ⊢) <;> try exact h.elim
    cases hx : opv fr x <;> rw [hx] at h <;> (try simp only at h ⊢) <;> try exact h.elim
    rename_i id
    refine ⟨h.1, h.2.1, h.2.2.1, ?_⟩
    replace h := h.2.2.2
    generalize σ[id]? = ob at h ⊢
    cases ob with
    | none => exact h.elim
    | some ob =>
      cases ob <;> (try simp only at h ⊢) <;> try exact h.elim
      exact ⟨h.1, leaf _ _ h.2⟩
  case call c =>
    obtain ⟨callee, args, ats⟩ := c
    cases callee with
    | invoke r n => exact h.elim
    | builtin b =>
      cases b <;> (try simp only at h ⊢) <;> try exact h.elim
      · have hargs : ∀ x ∈ args.toList, isU (opv M x) = false := fun x hx => hU' x (by simp [Op.operands, Call.operands]; simpa using hx)
        split at h
        · rename_i s x st xt ha ht
          rw [ha] at hargs
          rw [opv_up hM (hargs s (by simp)), opv_up hM (hargs x (by simp))] at h
          exact vappend_up (fun v σ' hk => leaf v σ' hk) h
        · exact h.elim
      · have hargs : ∀ x ∈ args.toList, isU (opv M x) = false := fun x hx => hU' x (by simp [Op.operands, Call.operands]; simpa using hx)
        split at h
        · rename_i x t ha ht
          rw [ha] at hargs
          rw [opv_up hM (hargs x (by simp))] at h
          refine ⟨h.1, ?_⟩
          replace h := h.2
          split at h
          · refine ⟨h.1, ?_⟩
            replace h := h.2
            split at h
            · exact ⟨h.1, h.2.1, h.2.2.1, h.2.2.2.1, leaf _ _ h.2.2.2.2⟩
            · exact h.elim
          · exact h.elim
        · exact h.elim
    | value f =>
      have hargs : ∀ x ∈ args.toList, isU (opv M x) = false := fun x hx => hU' x (by simp [Op.operands, Call.operands]; exact .inr (by simpa using hx))
      have hf := hU' f (by simp [Op.operands, Call.operands])
      (try simp only at h ⊢)
      rw [opv_up hM hf, all_up hM hargs] at h
      split at h
      · exact ⟨h.1, h.2.mono fun r σ' hk => ⟨hk.1, leaf _ _ hk.2⟩⟩
      · exact ⟨h.1, h.2.mono fun r σ' hk => ⟨hk.1, leaf _ _ hk.2⟩⟩
      · exact h.elim

end
end Go.VL

/- Regions that draw their order, third part: whatever order is drawn. Conditions: the table of types tells the program's own rows (TabOK). -/
namespace Go.VL
variable {ro : Option Nat}

def Lst (listed : Array Bool) (i : Nat) : Prop := listed.getD i false = true

theorem lst_set {listed : Array Bool} {i j : Nat} (hi : i < listed.size) : Lst (listed.setIfInBounds i true) j ↔ j = i ∨ Lst listed j := by
  unfold Lst
  by_cases e : i = j
  · subst e
    simp [hi]
  · have : (listed.setIfInBounds i true).getD j false = listed.getD j false := by
      simp [Array.getD_eq_getD_getElem?, Array.getElem?_setIfInBounds_ne e]
    rw [this]
    exact ⟨.inr, fun h => h.resolve_left fun e' => e e'.symm⟩

theorem visOf_congr {ops : List Oper} {done done' : List (Nat × V)} : ∀ {js : List Nat}, (∀ j ∈ js, lkd done' j = lkd done j) → visOf ops done' js = visOf ops done js
  | [], _ => rfl
  | j :: js, h => by
    simp only [visOf]
    rw [h j (by simp), visOf_congr fun j hj => h j (by simp [hj])]

theorem qok_congr {C : Cfg} {ops : List Oper} {done done' : List (Nat × V)} {S : Fr} {σ : St} {o : Oper} {v : V} (h : ∀ j ∈ depsOf o, lkd done' j = lkd done j) (hg : ∀ j want, o.guard = some (j, want) → j ∈ depsOf o) (hk : qok C ops done S σ o v) : qok C ops done' S σ o v := by
  unfold qok at hk ⊢
  rw [visOf_congr h]
  cases hgd : o.guard with
  | none => rw [hgd] at hk; exact hk
  | some p =>
    obtain ⟨j, want⟩ := p
    rw [hgd] at hk
    simp only at hk ⊢
    rw [h j (hg j want hgd)]
    exact hk

theorem again_spec {C : Cfg} {ops : List Oper} {an : Nat} {done : List (Nat × V)} {S : Fr} {σ : St} : ∀ {l : List (Nat × V)}, again C ops an done S σ l → ∀ p ∈ l, bitB an p.1 = true ∨ ∃ o, ops[p.1]? = some o ∧ qok C ops done S σ o p.2
  | q :: r, h, p, hp => by
    obtain ⟨h1, h2⟩ := h
    rcases List.mem_cons.1 hp with e | hp
    · subst e
      cases hb : bitB an p.1 with
      | true => exact .inl rfl
      | false =>
        rw [hb] at h1
        simp only [cond_false] at h1
        cases ho : ops[p.1]? with
        | none => rw [ho] at h1; exact h1.elim
        | some o => rw [ho] at h1; exact .inr ⟨o, rfl, h1⟩
    · exact again_spec h2 p hp

theorem effA_cases {op : Op} (he : effA op = true) : effect op = true ∨ (∃ x, op = .assign x) ∨ (∃ t n p, op = .buildSlice t n p) ∨ ∃ s d x, op = .convert s d x := by
  cases op <;> first | exact .inl he | exact .inr (.inl ⟨_, rfl⟩) | exact .inr (.inr (.inl ⟨_, _, _, rfl⟩)) | exact .inr (.inr (.inr ⟨_, _, _, rfl⟩))

theorem noLref_app (d : Nat) (fr fr' : Fr) : noLref d (fr ++ fr') = (noLref d fr && noLref d fr') := by simp [noLref, List.all_append]

section
variable {C : Cfg} {A : Nat → Prop} {m0 : Mp} {σ0 : St} {w0 : World} {N : Nat} {ops : Array Oper} {tl plan : List Nat} {Qv : Fr → St → Prop} {Q : Exit → Act → World → Prop} {listed : Array Bool} {a : Act} {w : World}
  {pre rest : List Nat} {done : List (Nat × V)} {S : Fr} {σ : St}

/-- What is shown of a region once. -/
structure Plan (ops : Array Oper) (tl plan : List Nat) (N : Nat) : Prop where
  inN : okOps N ops.toList = true
  pl : planB ops.toList (ancs ops.toList) tl plan [] none = true
  nd : plan.Nodup
  all : ∀ i, i < ops.size → i ∈ plan
  qn : (qdsts ops.toList tl).Nodup
  td : ∀ j d, memB tl j = true → gslot ops.toList j = some d → d ∉ qdsts ops.toList tl

theorem Plan.of {ops : Array Oper} {tl plan : List Nat} {N : Nat} (hN : okOps N ops.toList = true) (h : planOK ops.toList tl plan = true) : Plan ops tl plan N := by
  simp only [planOK, Bool.and_eq_true, List.all_eq_true, Bool.not_eq_true'] at h
  obtain ⟨⟨⟨⟨h1, h2⟩, h3⟩, h4⟩, h5⟩ := h
  refine ⟨hN, h5, nodupB_iff _ h2, fun i hi => (memB_iff _ _).1 (h1 i (by simpa using hi)), nodupB_iff _ h3, fun j d hj hg hm => ?_⟩
  have := h4 d (List.mem_filterMap.2 ⟨j, (memB_iff _ _).1 hj, hg⟩)
  rw [(memB_iff _ _).2 hm] at this
  cases this

theorem Plan.inj (P : Plan ops tl plan N) {j j' d : Nat} (h : gslot ops.toList j = some d) (hj : memB tl j = false) (h' : gslot ops.toList j' = some d) (hj' : memB tl j' = false) : j = j' := by
  obtain ⟨o, h1, h2⟩ := gslot_some h
  obtain ⟨o', h3, h4⟩ := gslot_some h'
  exact qdstsGo_inj (k := 0) P.qn h1 h2 (by simpa using hj) h3 h4 (by simpa using hj')

theorem Plan.mem (_P : Plan ops tl plan N) {j d : Nat} (h : gslot ops.toList j = some d) (hj : memB tl j = false) : d ∈ qdsts ops.toList tl := by
  obtain ⟨o, h1, h2⟩ := gslot_some h
  exact qdstsGo_mem (k := 0) h1 h2 (by simpa using hj)

def frOf (ops : Array Oper) (listed : Array Bool) (done : List (Nat × V)) (S : Fr) : Fr := doneFr ops.toList (done.filter fun p => listed.getD p.1 false) ++ S

/-- What is the case behind some operations. -/
structure DInv0 (C : Cfg) (A : Nat → Prop) (m0 : Mp) (σ0 : St) (w0 : World) (N : Nat) (ops : Array Oper) (tl plan : List Nat) (Qv : Fr → St → Prop) (listed : Array Bool) (a : Act) (w : World) (pre rest : List Nat) (done : List (Nat × V)) (S : Fr) (σ : St) : Prop where
  split : plan = pre ++ rest
  run : vrun C ops.toList tl rest done S σ Qv
  nd : (done.map (·.1)).Nodup
  dom : ∀ j v, lkd done j = some v → j ∈ pre ∧ memB tl j = false
  dom' : ∀ j, j ∈ pre → memB tl j = false → ∃ v, lkd done j = some v
  lT : ∀ j, j ∈ pre → memB tl j = true → Lst listed j
  lp : ∀ j, Lst listed j → j ∈ pre
  ok : ∀ j v, lkd done j = some v → ¬ Lst listed j → ∃ o, ops.toList[j]? = some o ∧ qok C ops.toList done S σ o v
  nc : ∀ j v, lkd done j = some v → Lst listed j → ∀ cs, v ≠ .cell cs
  bl : ∀ t, t ∈ qdsts ops.toList tl → lk S t = .undef
  dc : ∀ i o, Lst listed i → ops.toList[i]? = some o → ∀ j ∈ depsOf o, Lst listed j
  frame : FRel A m0 σ0 w0 N (frOf ops listed done S) σ a w

theorem fr1 (P : Plan ops tl plan N) (nd : (done.map (·.1)).Nodup) (dom : ∀ j v, lkd done j = some v → j ∈ pre ∧ memB tl j = false) {j d : Nat} {v : V} (h : lkd done j = some v) (hl : Lst listed j) (hg : gslot ops.toList j = some d) : lk (frOf ops listed done S) d = v := by
  refine lk_of_mem (mem_doneFr hg (List.mem_filter.2 ⟨lkd_mem h, hl⟩)) fun v' hv' => ?_
  obtain ⟨j', h1, h2⟩ := doneFr_mem hv'
  have h3 := mem_lkd nd (List.mem_filter.1 h2).1
  have := P.inj hg (dom j v h).2 h1 (dom j' v' h3).2
  subst this
  rw [h] at h3
  cases h3
  rfl

theorem fr2 (nd : (done.map (·.1)).Nodup) {t : Nat} (h : ∀ j v, lkd done j = some v → gslot ops.toList j = some t → ¬ Lst listed j) : lk (frOf ops listed done S) t = lk S t := by
  rcases lk_app (doneFr ops.toList (done.filter fun p => listed.getD p.1 false)) S t with h1 | ⟨v, h1, _⟩
  · exact h1
  · obtain ⟨j, h2, h3⟩ := doneFr_mem h1
    obtain ⟨h4, h5⟩ := List.mem_filter.1 h3
    exact absurd h5 (h j v (mem_lkd nd h4) h2)

theorem vis_up (P : Plan ops tl plan N) (D : DInv0 C A m0 σ0 w0 N ops tl plan Qv listed a w pre rest done S σ) {o : Oper} (hd : ∀ j ∈ depsOf o, Lst listed j) (t : Nat) :
    lk (visOf ops.toList done (depsOf o) ++ S) t = lk (frOf ops listed done S) t ∨ lk (visOf ops.toList done (depsOf o) ++ S) t = .undef := by
  rcases lk_app (visOf ops.toList done (depsOf o)) S t with h | ⟨v, h1, h2⟩
  · by_cases hex : ∃ j v, lkd done j = some v ∧ gslot ops.toList j = some t ∧ Lst listed j
    · obtain ⟨j, v, h3, h4, _⟩ := hex
      exact .inr (by rw [h]; exact D.bl t (P.mem h4 (D.dom j v h3).2))
    · exact .inl (by rw [h, fr2 D.nd fun j v h3 h4 h5 => hex ⟨j, v, h3, h4, h5⟩])
  · obtain ⟨j, h3, h4, h5⟩ := vis_mem h1
    exact .inl (by rw [h2, fr1 P D.nd D.dom h5 (hd j h3) h4])

theorem DInv0.placed (P : Plan ops tl plan N) (D : DInv0 C A m0 σ0 w0 N ops tl plan Qv listed a w pre rest done S σ) {i : Nat} (hi : i ∈ pre) : ∃ p o, Placed ops.toList tl p i o ∧ ∀ j ∈ p, j ∈ pre := by
  obtain ⟨p, q, rfl⟩ := List.append_of_mem hi
  obtain ⟨o, ho⟩ := Go.VL.placed (pre := p) (i := i) (rest := q ++ rest) P.pl (by rw [D.split]; simp)
  exact ⟨p, o, ho, fun j hj => by simp [hj]⟩

theorem Placed.dstN (P : Plan ops tl plan N) {p : List Nat} {i : Nat} {o : Oper} (h : Placed ops.toList tl p i o) : ∀ d, o.dst = some d → d < N := by
  intro d hd
  have := List.all_eq_true.1 P.inN o (List.mem_of_getElem? h.at_)
  rw [hd] at this
  exact Nat.le_of_ble_eq_true this

/-- An operation that changes nothing comes up. -/
theorem step_q (tok : TabOK C) (P : Plan ops tl plan N) (D : DInv0 C A m0 σ0 w0 N ops tl plan Qv listed a w pre rest done S σ) (hsz : listed.size = ops.size) {i : Nat} (hi : i ∈ pre) (hni : ¬ Lst listed i) (hdp : ∀ o, ops.toList[i]? = some o → ∀ j ∈ depsOf o, Lst listed j)
    {K : Act → World → Prop} (hK : ∀ a' w', DInv0 C A m0 σ0 w0 N ops tl plan Qv (listed.setIfInBounds i true) a' w' pre rest done S σ → K a' w') : wpOpIn (WF ro) 0 C.P ops Q i K a w := by
  have hq : memB tl i = false := by
    cases hb : memB tl i with
    | false => rfl
    | true => exact absurd (D.lT i hi hb) hni
  obtain ⟨p, o, hpl, hpp⟩ := D.placed P hi
  obtain ⟨v, hv⟩ := D.dom' i hi hq
  obtain ⟨o', ho', hok⟩ := D.ok i v hv hni
  rw [hpl.at_] at ho'
  cases ho'
  have hil : i < listed.size := by rw [hsz]; have := lt_of_some hpl.at_; simpa using this
  have hdl := hdp o hpl.at_
  obtain ⟨⟨d, hd⟩, hkind, hguard⟩ := hpl.isQ hq
  have hdN := hpl.dstN P d hd
  have hgi : gslot ops.toList i = some d := by simp [gslot, hpl.at_, hd]
  have hM := vis_up P D hdl
  have next : ∀ a' w', (∀ cs, v ≠ .cell cs) → FRel A m0 σ0 w0 N ((d, v) :: frOf ops listed done S) σ a' w' → K a' w' := by
    intro a' w' hnc F'
    refine hK _ _ ⟨D.split, D.run, D.nd, D.dom, D.dom', fun j hj hm => (lst_set hil).2 (.inr (D.lT j hj hm)), fun j hj => ?_, fun j v' h1 h2 => D.ok j v' h1 fun h => h2 ((lst_set hil).2 (.inr h)), fun j v' h1 h2 => ?_, D.bl, fun j oj hj hoj k hk => ?_, F'.weaken fun t => .inl ?_⟩
    · rcases (lst_set hil).1 hj with rfl | h
      · exact hi
      · exact D.lp j h
    · rcases (lst_set hil).1 h2 with rfl | h
      · rw [hv] at h1; cases h1; exact hnc
      · exact D.nc j v' h1 h
    · rcases (lst_set hil).1 hj with rfl | h
      · exact (lst_set hil).2 (.inr (hdp oj hoj k hk))
      · exact (lst_set hil).2 (.inr (D.dc j oj h hoj k hk))
    · rw [lk_cons]
      by_cases e : d = t
      · subst e
        rw [if_pos rfl]
        exact fr1 P D.nd D.dom hv ((lst_set hil).2 (.inl rfl)) hgi
      · rw [if_neg e]
        by_cases hex : ∃ j v, lkd done j = some v ∧ gslot ops.toList j = some t ∧ Lst listed j
        · obtain ⟨j, v', h3, h4, h5⟩ := hex
          rw [fr1 P D.nd D.dom h3 ((lst_set hil).2 (.inr h5)) h4, fr1 P D.nd D.dom h3 h5 h4]
        · rw [fr2 D.nd fun j v' h3 h4 h5 => ?_, fr2 D.nd fun j v' h3 h4 h5 => hex ⟨j, v', h3, h4, h5⟩]
          rcases (lst_set hil).1 h5 with rfl | h
          · rw [hgi] at h4; cases h4; exact e rfl
          · exact hex ⟨j, v', h3, h4, h⟩
  obtain ⟨m, pb, F⟩ := D.frame
  have run : vq1 C (visOf ops.toList done (depsOf o) ++ S) σ o v → o.wpIn (WF ro) 0 C.P a w K Q := fun h => q_step tok F hM hd hdN hkind h fun a' w' hnc F' => next a' w' hnc F'
  have skip : v = .tup [] → K (a.put o.dst Go.undef) w := by
    rintro rfl
    rw [hd]
    exact next _ _ (fun cs e => by cases e) ⟨m, pb, F.put hdN (ResR.of vr_undef)⟩
  have hoi : ops[i]? = some o := by have := hpl.at_; simpa using this
  unfold wpOpIn
  simp only [hoi]
  unfold qok at hok
  cases hg : o.guard with
  | none =>
    rw [hg] at hok
    have : Region.wanted o (yielded ops a.tmps) = true := by simp [Region.wanted, hg]
    rw [this, if_pos rfl]
    exact run hok
  | some pr =>
    obtain ⟨j, want⟩ := pr
    rw [hg] at hok
    simp only at hok
    obtain ⟨hjd, hjq⟩ := hguard j want hg
    have hjl := hdl j hjd
    obtain ⟨pj, oj, hplj, _⟩ := D.placed P (D.lp j hjl)
    obtain ⟨⟨dj, hdj⟩, _⟩ := hplj.isQ hjq
    have hgj : gslot ops.toList j = some dj := by simp [gslot, hplj.at_, hdj]
    cases hvj : lkd done j with
    | none => rw [hvj] at hok; exact hok.elim
    | some vj =>
      rw [hvj] at hok
      have hlk := fr1 (S := S) P D.nd D.dom hvj hjl hgj
      cases vj <;> (try simp only at hok) <;> try exact hok.elim
      case bool b =>
        have hy := yielded_bool F hgj hlk
        cases hb : b == want with
        | true =>
          rw [hb] at hok
          have : Region.wanted o (yielded ops a.tmps) = true := by
            simp only [Region.wanted, hg, hy]
            simpa using hb
          rw [this, if_pos rfl]
          exact run hok
        | false =>
          rw [hb] at hok
          have : Region.wanted o (yielded ops a.tmps) = false := by
            simp only [Region.wanted, hg, hy]
            simpa using hb
          rw [this]
          simp only [Bool.false_eq_true, if_false]
          exact ⟨fun _ _ => trivial, skip hok⟩
      case tup l =>
        cases l <;> (try simp only at hok) <;> try exact hok.elim
        have hy := yielded_tup F hgj hlk
        have : Region.wanted o (yielded ops a.tmps) = false := by
          simp [Region.wanted, hg, hy]
        rw [this]
        simp only [Bool.false_eq_true, if_false]
        exact ⟨fun _ _ => trivial, skip hok⟩

/-- Operations that change nothing are told of, up to the next one that does. -/
theorem advance (P : Plan ops tl plan N) : ∀ (rest pre : List Nat) (done : List (Nat × V)), DInv0 C A m0 σ0 w0 N ops tl plan Qv listed a w pre rest done S σ →
    ∃ pre' rest' done', DInv0 C A m0 σ0 w0 N ops tl plan Qv listed a w pre' rest' done' S σ ∧ (rest' = [] ∨ ∃ τ r, rest' = τ :: r ∧ memB tl τ = true)
  | [], pre, done, D => ⟨pre, [], done, D, .inl rfl⟩
  | i :: r, pre, done, D => by
    cases hb : memB tl i with
    | true => exact ⟨pre, i :: r, done, D, .inr ⟨i, r, rfl, hb⟩⟩
    | false =>
      have hrun := D.run
      simp only [vrun] at hrun
      have hnd := P.nd
      rw [D.split] at hnd
      have hip : i ∉ pre := fun h => (List.nodup_append.1 hnd).2.2 i h i (by simp) rfl
      obtain ⟨o, hpl⟩ := Go.VL.placed P.pl D.split
      rw [hpl.at_] at hrun
      simp only [hb, cond_false] at hrun
      obtain ⟨v, hok, hrun⟩ := hrun
      obtain ⟨_, _, hguard⟩ := hpl.isQ hb
      have hcons : ∀ j, lkd ((i, v) :: done) j = if i = j then some v else lkd done j := fun j => by
        simp only [lkd]
        by_cases e : i = j
        · subst e; simp
        · have : Nat.beq i j = false := by
            cases hb : Nat.beq i j with
            | false => rfl
            | true => exact absurd (Nat.eq_of_beq_eq_true hb) e
          rw [this, if_neg e]; rfl
      have hni : ¬ Lst listed i := fun h => hip (D.lp i h)
      refine advance P r (pre ++ [i]) ((i, v) :: done) ⟨by rw [D.split]; simp, hrun, ?_, fun j v' h => ?_, fun j hj hm => ?_, fun j hj hm => ?_, fun j hj => by simp [D.lp j hj], fun j v' h hl => ?_, fun j v' h hl => ?_, D.bl, D.dc, ?_⟩
      · simp only [List.map_cons, List.nodup_cons]
        refine ⟨fun hm => ?_, D.nd⟩
        obtain ⟨q, hq, e⟩ := List.mem_map.1 hm
        have := mem_lkd D.nd hq
        rw [e] at this
        exact hip (D.dom i _ this).1
      · rw [hcons] at h
        by_cases e : i = j
        · subst e; exact ⟨by simp, hb⟩
        · rw [if_neg e] at h
          obtain ⟨h1, h2⟩ := D.dom j v' h
          exact ⟨by simp [h1], h2⟩
      · rw [hcons]
        by_cases e : i = j
        · exact ⟨v, by rw [if_pos e]⟩
        · rw [if_neg e]
          refine D.dom' j ?_ hm
          rcases List.mem_append.1 hj with h | h
          · exact h
          · exact absurd (by simpa using h) (Ne.symm e)
      · rcases List.mem_append.1 hj with h | h
        · exact D.lT j h hm
        · have : j = i := by simpa using h
          rw [this, hb] at hm; cases hm
      · rw [hcons] at h
        by_cases e : i = j
        · subst e
          rw [if_pos rfl] at h
          cases h
          refine ⟨o, hpl.at_, qok_congr (fun k hk => ?_) (fun k want hg => (hguard k want hg).1) hok⟩
          rw [hcons, if_neg fun e : i = k => hip (by rw [e]; exact hpl.deps k hk)]
        · rw [if_neg e] at h
          obtain ⟨o', ho', hok'⟩ := D.ok j v' h hl
          obtain ⟨p, o2, hpl2, hp2⟩ := D.placed P (D.dom j v' h).1
          rw [hpl2.at_] at ho'
          cases ho'
          refine ⟨_, hpl2.at_, qok_congr (fun k hk => ?_) (fun k want hg => ((hpl2.isQ (D.dom j v' h).2).2.2 k want hg).1) hok'⟩
          rw [hcons, if_neg fun e : i = k => hip (by rw [e]; exact hp2 k (hpl2.deps k hk))]
      · rw [hcons] at h
        by_cases e : i = j
        · exact absurd (e ▸ hl) hni
        · rw [if_neg e] at h
          exact D.nc j v' h hl
      · have : listed.getD i false = false := by simpa [Lst] using hni
        have he : frOf ops listed ((i, v) :: done) S = frOf ops listed done S := by
          unfold frOf
          rw [List.filter_cons_of_neg (by rw [this]; simp)]
        rw [he]
        exact D.frame

/-- An operation that changes something comes up. -/
theorem step_t (tok : TabOK C) (P : Plan ops tl plan N) {τ : Nat} {r : List Nat} (D : DInv0 C A m0 σ0 w0 N ops tl plan Qv listed a w pre (τ :: r) done S σ) (hsz : listed.size = ops.size) (hτ : memB tl τ = true) (hdp : ∀ o, ops.toList[τ]? = some o → ∀ j ∈ depsOf o, Lst listed j)
    {K : Act → World → Prop} (hK : ∀ a' w' done' S' σ', DInv0 C A m0 σ0 w0 N ops tl plan Qv (listed.setIfInBounds τ true) a' w' (pre ++ [τ]) r done' S' σ' → K a' w') : wpOpIn (WF ro) 0 C.P ops Q τ K a w := by
  obtain ⟨o, hpl⟩ := Go.VL.placed P.pl D.split
  have hil : τ < listed.size := by rw [hsz]; have := lt_of_some hpl.at_; simpa using this
  have hdl := hdp o hpl.at_
  obtain ⟨heff, hgn⟩ := hpl.isT hτ
  have hM := vis_up P D hdl
  have hrun := D.run
  simp only [vrun, hpl.at_, hτ, cond_true] at hrun
  obtain ⟨hnl, hU, hve⟩ := hrun
  obtain ⟨m, pb, F⟩ := D.frame
  have hup := ve_up hM (fun d hd hn => by
    rw [noLref_app, Bool.and_eq_true] at hn
    unfold frOf
    rw [noLref_app, Bool.and_eq_true]
    refine ⟨?_, hn.2⟩
    unfold noLref
    refine List.all_eq_true.2 fun q hq => ?_
    obtain ⟨j, _, h2⟩ := doneFr_mem hq
    unfold noLrefL at hnl
    rw [hd] at hnl
    exact List.all_eq_true.1 hnl (j, q.2) (List.mem_filter.1 h2).1) hU hve
  have hoi : ops[τ]? = some o := by have := hpl.at_; simpa using this
  unfold wpOpIn
  simp only [hoi]
  have : Region.wanted o (yielded ops a.tmps) = true := by simp [Region.wanted, hgn]
  rw [this, if_pos rfl]
  refine ve_sound tok F (hpl.dstN P) (effA_cases heff) hup fun fr' σ' a' w' F' h' => ?_
  obtain ⟨pfx, rfl, ⟨hag, hrun'⟩, hpfx⟩ := h'
  have hτp : τ ∉ pre := fun h => by
    have hnd := P.nd
    rw [D.split] at hnd
    exact (List.nodup_append.1 hnd).2.2 τ h τ (by simp) rfl
  refine hK a' w' done _ σ' ⟨by rw [D.split]; simp, hrun', D.nd, fun j v h => ?_, fun j hj hm => ?_, fun j hj hm => ?_, fun j hj => ?_, fun j v h hl => ?_, fun j v h hl => ?_, fun t ht => ?_, fun i oi hi hoj k hk => ?_, F'.weaken fun t => ?_⟩
  · obtain ⟨h1, h2⟩ := D.dom j v h
    exact ⟨by simp [h1], h2⟩
  · rcases List.mem_append.1 hj with h | h
    · exact D.dom' j h hm
    · have : j = τ := by simpa using h
      rw [this, hτ] at hm; cases hm
  · rcases List.mem_append.1 hj with h | h
    · exact (lst_set hil).2 (.inr (D.lT j h hm))
    · exact (lst_set hil).2 (.inl (by simpa using h))
  · rcases (lst_set hil).1 hj with rfl | h
    · simp
    · simp [D.lp j h]
  · have hnl' : ¬ Lst listed j := fun h => hl ((lst_set hil).2 (.inr h))
    rcases again_spec hag (j, v) (lkd_mem h) with h1 | h1
    · exact absurd (reach_listed (fun i oi hi hoi => D.dc i oi hi hoi) (ancs_reach h1) hdp) hnl'
    · exact h1
  · rcases (lst_set hil).1 hl with rfl | h'
    · have := (D.dom j v h).2
      rw [hτ] at this; cases this
    · exact D.nc j v h h'
  · rcases lk_blanks (l := qdsts ops.toList tl) (fr := pfx ++ (visOf ops.toList done (depsOf o) ++ S)) (t := t) with ⟨_, h⟩ | ⟨h, _⟩
    · exact h
    · exact absurd ht h
  · rcases (lst_set hil).1 hi with rfl | h
    · exact (lst_set hil).2 (.inr (hdp oi hoj k hk))
    · exact (lst_set hil).2 (.inr (D.dc i oi h hoj k hk))
  · by_cases hex : ∃ j v, lkd done j = some v ∧ gslot ops.toList j = some t ∧ Lst listed j
    · obtain ⟨j, v, h3, h4, h5⟩ := hex
      left
      rw [fr1 P D.nd D.dom h3 ((lst_set hil).2 (.inr h5)) h4, lk_app_none fun q hq e => ?_, fr1 P D.nd D.dom h3 h5 h4]
      have hq2 := (D.dom j v h3).2
      rcases hpfx q hq with h6 | ⟨cs, h6⟩
      · rw [e] at h6
        exact P.td τ t hτ (by simp [gslot, hpl.at_, h6]) (P.mem h4 hq2)
      · rw [e, fr1 P D.nd D.dom h3 h5 h4] at h6
        exact D.nc j v h3 h5 cs h6
    · rw [fr2 D.nd fun j v h3 h4 h5 => ?_]
      · rcases lk_blanks (l := qdsts ops.toList tl) (fr := pfx ++ (visOf ops.toList done (depsOf o) ++ S)) (t := t) with ⟨_, h⟩ | ⟨hnq, h⟩
        · exact .inr h
        · left
          rw [h]
          refine lk_app_congr pfx ?_
          rw [fr2 D.nd fun j v h3 h4 h5 => hex ⟨j, v, h3, h4, h5⟩]
          rcases lk_app (visOf ops.toList done (depsOf o)) S t with h | ⟨v, h1, _⟩
          · exact h
          · obtain ⟨j, _, h4, h5⟩ := vis_mem h1
            exact absurd (P.mem h4 (D.dom j v h5).2) hnq
      · rcases (lst_set hil).1 h5 with rfl | h
        · have := (D.dom j v h3).2
          rw [hτ] at this; cases this
        · exact hex ⟨j, v, h3, h4, h⟩

/-- Nothing may come up any more: all has. -/
theorem draws_end (P : Plan ops tl plan N) (D : DInv0 C A m0 σ0 w0 N ops tl plan Qv listed a w pre rest done S σ) (hsz : listed.size = ops.size) (hr : Region.ready .any ops listed = []) (hQ : ∀ fr σ a w, FRel A m0 σ0 w0 N fr σ a w → Qv fr σ → Q .normal a w) (hh : rest = [] ∨ ∃ τ r, rest = τ :: r ∧ memB tl τ = true) : Q .normal a w := by
  have hall : ∀ (q p : List Nat), plan = p ++ q → (∀ j ∈ p, Lst listed j) → ∀ j ∈ q, Lst listed j := by
    intro q
    induction q with
    | nil => intro p _ _ j hj; cases hj
    | cons i q ih =>
      intro p hq ih' j hj
      have hi : Lst listed i := by
        obtain ⟨o, hpl⟩ := Go.VL.placed (pre := p) (i := i) (rest := q) P.pl hq
        have hoi : ops[i]? = some o := by have := hpl.at_; simpa using this
        refine Classical.byContradiction fun hn => ?_
        have hjr : i ∈ Region.ready .any ops listed := by
          refine mem_ready.2 ⟨?_, o, hoi, fun e he hb => ?_⟩
          · have hlt : i < listed.size := by rw [hsz]; exact (Array.getElem?_eq_some_iff.1 hoi).1
            unfold Lst at hn
            simp [Array.getD_eq_getD_getElem?, Array.getElem?_eq_getElem hlt] at hn ⊢
            exact hn
          · exact ih' e.on (hpl.deps e.on (List.mem_map.2 ⟨e, List.mem_filter.2 ⟨Array.mem_toList_iff.2 he, hb⟩, rfl⟩))
        rw [hr] at hjr
        cases hjr
      rcases List.mem_cons.1 hj with e | h
      · rw [e]; exact hi
      · refine ih (p ++ [i]) (by rw [hq]; simp) (fun k hk => ?_) j h
        rcases List.mem_append.1 hk with h' | h'
        · exact ih' k h'
        · have e : k = i := by simpa using h'
          rw [e]; exact hi
  have hall' := hall plan [] (by simp) (fun j hj => by cases hj)
  have hrest : rest = [] := by
    rcases hh with h | ⟨τ, r, rfl, _⟩
    · exact h
    · have hnd := P.nd
      have hs := D.split
      have h1 : τ ∈ pre := D.lp τ (hall' τ (by rw [hs]; simp))
      rw [hs] at hnd
      exact absurd rfl ((List.nodup_append.1 hnd).2.2 τ h1 τ (by simp))
  subst hrest
  have hrun := D.run
  simp only [vrun] at hrun
  refine hQ _ _ _ _ (D.frame.weaken fun t => .inl ?_) hrun
  have : (done.filter fun p => listed.getD p.1 false) = done := List.filter_eq_self.2 fun p hp => by
    have h1 := mem_lkd D.nd (v := p.2) (j := p.1) hp
    have h2 := (D.dom _ _ h1).1
    exact hall' p.1 (by rw [D.split]; simp [h2])
  unfold frOf
  rw [this]

theorem explore (tok : TabOK C) (P : Plan ops tl plan N) (hQ : ∀ fr σ a w, FRel A m0 σ0 w0 N fr σ a w → Qv fr σ → Q .normal a w) : ∀ (fuel : Nat) (listed : Array Bool) (a : Act) (w : World) (pre rest : List Nat) (done : List (Nat × V)) (S : Fr) (σ : St),
    DInv0 C A m0 σ0 w0 N ops tl plan Qv listed a w pre rest done S σ → (rest = [] ∨ ∃ τ r, rest = τ :: r ∧ memB tl τ = true) → listed.size = ops.size → listed.toList.count false ≤ fuel → wpAnyIn (WF ro) 0 C.P .any ops Q fuel listed a w
  | 0, listed, a, w, pre, rest, done, S, σ, D, hh, hsz, hc => by
    have hr : Region.ready .any ops listed = [] := by
      refine List.eq_nil_iff_forall_not_mem.2 fun j hj => ?_
      obtain ⟨h1, o, ho, _⟩ := mem_ready.1 hj
      have hlt : j < listed.size := by rw [hsz]; exact (Array.getElem?_eq_some_iff.1 ho).1
      have : listed.toList.count false = 0 := by omega
      rw [List.count_eq_zero] at this
      simp [Array.getD_eq_getD_getElem?, Array.getElem?_eq_getElem hlt] at h1
      exact this (by rw [← h1]; simp)
    exact ⟨hr, draws_end P D hsz hr hQ hh⟩
  | fuel + 1, listed, a, w, pre, rest, done, S, σ, D, hh, hsz, hc => by
    refine ⟨fun hr => draws_end P D hsz hr hQ hh, fun i hi => ?_⟩
    obtain ⟨h1, o, ho, hdeps⟩ := mem_ready.1 hi
    have hlt : i < listed.size := by rw [hsz]; exact (Array.getElem?_eq_some_iff.1 ho).1
    have hgi : listed[i] = false := by simpa [Array.getD_eq_getD_getElem?, Array.getElem?_eq_getElem hlt] using h1
    have hni : ¬ Lst listed i := by simp [Lst, Array.getD_eq_getD_getElem?, Array.getElem?_eq_getElem hlt, hgi]
    have hol : ops.toList[i]? = some o := by simpa using ho
    have hdp : ∀ o', ops.toList[i]? = some o' → ∀ j ∈ depsOf o', Lst listed j := by
      intro o' ho' j hj
      rw [hol] at ho'
      cases ho'
      obtain ⟨e, he, rfl⟩ := List.mem_map.1 hj
      obtain ⟨he1, he2⟩ := List.mem_filter.1 he
      exact hdeps e (Array.mem_toList_iff.1 he1) he2
    have hsz' : (listed.setIfInBounds i true).size = ops.size := by simpa using hsz
    have hc' : (listed.setIfInBounds i true).toList.count false ≤ fuel := by
      have : (listed.setIfInBounds i true).toList = listed.toList.set i true := by simp
      rw [this, List.count_set (by simpa using hlt)]
      have h2 : listed.toList[i]'(by simpa using hlt) = false := by simpa using hgi
      rw [h2]
      show listed.toList.count false - 1 + 0 ≤ fuel
      omega
    have hip : i ∈ plan := P.all i (by rw [← hsz]; exact hlt)
    have hip' : i ∈ pre ∨ i ∈ rest := by
      have := D.split
      rw [this] at hip
      exact List.mem_append.1 hip
    by_cases hpre : i ∈ pre
    · exact step_q tok P D hsz hpre hni hdp fun a' w' D' => explore tok P hQ fuel _ a' w' pre rest done S σ D' hh hsz' hc'
    · have hrest := hip'.resolve_left hpre
      rcases hh with rfl | ⟨τ, r, rfl, hτ⟩
      · cases hrest
      · by_cases e : i = τ
        · subst e
          refine step_t tok P D hsz hτ hdp fun a' w' done' S' σ' D' => ?_
          obtain ⟨pre2, rest2, done2, D2, hh2⟩ := advance P r (pre ++ [i]) done' D'
          exact explore tok P hQ fuel _ a' w' pre2 rest2 done2 S' σ' D2 hh2 hsz' hc'
        · have hir : i ∈ r := (List.mem_cons.1 hrest).resolve_left e
          obtain ⟨p1, p2, rfl⟩ := List.append_of_mem hir
          obtain ⟨o', hpl⟩ := Go.VL.placed (pre := pre ++ τ :: p1) (i := i) (rest := p2) P.pl (by rw [D.split]; simp)
          obtain ⟨t, ht, htm⟩ := lastOf_app tl pre τ p1 none hτ
          have hl := reach_listed (fun i oi hi hoi => D.dc i oi hi hoi) (hpl.last t ht) hdp
          have htp := D.lp t hl
          have hnd := P.nd
          rw [D.split] at hnd
          refine absurd rfl ((List.nodup_append.1 hnd).2.2 t htp t ?_)
          rcases htm with rfl | h
          · simp
          · simp [h]

/-- A region that draws its order: all orders that its edges let. -/
theorem draw_any (tok : TabOK C) {m : Mp} {pb : Nat → Option Nat} {fr : Fr} (F : Frm A m0 σ0 w0 N fr σ a w m pb) (hN : okOps N ops.toList = true) (hp : planOK ops.toList tl plan = true) (h : vrun C ops.toList tl plan [] (blanks (qdsts ops.toList tl) ++ fr) σ Qv)
    (hQ : ∀ fr σ a w, FRel A m0 σ0 w0 N fr σ a w → Qv fr σ → Q .normal a w) : wpAnyIn (WF ro) 0 C.P .any ops Q ops.size (Array.replicate ops.size false) a { w with drawn := w.drawn + 1 } := by
  have P := Plan.of hN hp
  have hno : ∀ j, ¬ Lst (Array.replicate ops.size false) j := fun j h => by
    unfold Lst at h
    rw [Array.getD_eq_getD_getElem?, Array.getElem?_replicate] at h
    split at h <;> simp at h
  have F1 := (F.drawn (w.drawn + 1)).weaken (fr' := blanks (qdsts ops.toList tl) ++ fr) fun t => by
    rcases lk_blanks (l := qdsts ops.toList tl) (fr := fr) (t := t) with ⟨_, h⟩ | ⟨_, h⟩
    · exact .inr h
    · exact .inl h
  have D : DInv0 C A m0 σ0 w0 N ops tl plan Qv (Array.replicate ops.size false) a { w with drawn := w.drawn + 1 } [] plan [] (blanks (qdsts ops.toList tl) ++ fr) σ := by
    refine ⟨rfl, h, List.nodup_nil, fun j v h => (by simp [lkd] at h), fun j hj => (by cases hj), fun j hj => (by cases hj), fun j hj => absurd hj (hno j), fun j v h => (by simp [lkd] at h), fun j v h => (by simp [lkd] at h), fun t ht => ?_, fun i o hi => absurd hi (hno i), ⟨m, pb, F1⟩⟩
    rcases lk_blanks (l := qdsts ops.toList tl) (fr := fr) (t := t) with ⟨_, h⟩ | ⟨h, _⟩
    · exact h
    · exact absurd ht h
  obtain ⟨pre, rest, done, D', hh⟩ := advance P plan [] [] D
  exact explore tok P hQ ops.size _ a _ pre rest done _ σ D' hh (by simp) (by simp)

end
end Go.VL

/- Regions that draw their order: a path at a time, so that some changes that wait for no order among them are told for each order that they may come in. Conditions: none (plain theorems). -/
namespace Go.VL
variable {ro : Option Nat}

/-- A list that may be drawn. -/
def PathR (ops : Array Oper) : List Nat → Array Bool → Prop
  | [], listed => Region.ready .any ops listed = []
  | i :: r, listed => i ∈ Region.ready .any ops listed ∧ PathR ops r (listed.setIfInBounds i true)

theorem ready_lt {ops : Array Oper} {listed : Array Bool} {i : Nat} (h : i ∈ Region.ready .any ops listed) : ∃ hl : i < listed.size, listed[i] = false := by
  obtain ⟨h1, _⟩ := mem_ready.1 h
  rcases Nat.lt_or_ge i listed.size with h' | h'
  · exact ⟨h', by simpa [Array.getD_eq_getD_getElem?, Array.getElem?_eq_getElem h'] using h1⟩
  · rw [Array.getD_eq_getD_getElem?, Array.getElem?_eq_none h'] at h1
    cases h1

theorem go_path {ops : Array Oper} : ∀ (fuel t : Nat) (listed : Array Bool), listed.toList.count false ≤ fuel → PathR ops (Region.linearise.go .any ops fuel t listed []) listed
  | 0, t, listed, hc => by
    simp only [Region.linearise.go, List.reverse_nil, PathR]
    cases hr : Region.ready .any ops listed with
    | nil => rfl
    | cons i r =>
      obtain ⟨hl, h⟩ := ready_lt (ops := ops) (listed := listed) (i := i) (by rw [hr]; simp)
      have : false ∈ listed.toList := by rw [← h]; simp
      have := List.count_pos_iff.2 this
      omega
  | fuel + 1, t, listed, hc => by
    simp only [Region.linearise.go]
    change PathR ops (match (Region.ready .any ops listed)[t % (Region.ready .any ops listed).length]? with
      | some i => Region.linearise.go .any ops fuel (t / (Region.ready .any ops listed).length) (listed.setIfInBounds i true) [i]
      | none => [].reverse) listed
    cases hi : (Region.ready .any ops listed)[t % (Region.ready .any ops listed).length]? with
    | none =>
      simp only [List.reverse_nil, PathR]
      cases hr : Region.ready .any ops listed with
      | nil => rfl
      | cons x xs =>
        rw [hr] at hi
        have hlt : t % (x :: xs).length < (x :: xs).length := Nat.mod_lt _ (by simp)
        simp at hi
        simp at hlt
        omega
    | some i =>
      simp only []
      rw [linearise_go_acc, List.reverse_singleton, List.singleton_append]
      have hm := List.mem_of_getElem? hi
      refine ⟨hm, go_path fuel _ _ ?_⟩
      obtain ⟨hl, h⟩ := ready_lt hm
      have : (listed.setIfInBounds i true).toList = listed.toList.set i true := by simp
      rw [this, List.count_set (by simpa using hl)]
      have h2 : listed.toList[i]'(by simpa using hl) = false := by simpa using h
      rw [h2]
      show listed.toList.count false - 1 + 0 ≤ fuel
      omega

theorem path_wp {n : Nat} {P : Program} {F : Fence} {ops : Array Oper} {Q : Exit → Act → World → Prop} : ∀ (l : List Nat) (fuel : Nat) (listed : Array Bool) (a : Act) (w : World), PathR ops l listed → wpAnyIn F n P .any ops Q fuel listed a w → wpOpsIn F n P ops Q l a w
  | [], 0, listed, a, w, _, h => by simpa [wpOpsIn] using h.2
  | [], fuel + 1, listed, a, w, hp, h => by simpa [wpOpsIn] using h.1 hp
  | i :: r, 0, listed, a, w, hp, h => by
    have := hp.1
    rw [h.1] at this
    cases this
  | i :: r, fuel + 1, listed, a, w, hp, h => by
    rw [wpOpsIn_cons]
    exact wpOpIn_mono (fun a w => path_wp r fuel _ a w hp.2) (h.2 i hp.1)

/-! With some edges more -/
def More (o : Oper) (es : Array Edge) : Oper := { o with after := o.after ++ es }

theorem addE_get (es : List (Nat × Nat)) : ∀ (ops : List Oper) (k i : Nat), (addE es ops k)[i]? = (ops[i]?).map fun o => More o (newAfter es (k + i))
  | [], k, i => by simp [addE]
  | o :: os, k, 0 => by simp [addE, More]
  | o :: os, k, i + 1 => by
    simp only [addE, List.getElem?_cons_succ]
    rw [addE_get es os (k + 1) i, show k + 1 + i = k + (i + 1) by omega]

theorem newAfter_mem {es : List (Nat × Nat)} {k : Nat} {e : Edge} (h : e ∈ newAfter es k) : (k, e.on) ∈ es ∧ Region.binds .any e = true := by
  unfold newAfter at h
  rw [List.mem_toArray, List.mem_map] at h
  obtain ⟨p, hp, rfl⟩ := h
  obtain ⟨h1, h2⟩ := List.mem_filter.1 hp
  have := Nat.eq_of_beq_eq_true h2
  subst this
  exact ⟨h1, rfl⟩

theorem more_ready {es : List (Nat × Nat)} {ops : List Oper} {listed : Array Bool} {i : Nat} (h : i ∈ Region.ready .any (addE es ops 0).toArray listed) : i ∈ Region.ready .any ops.toArray listed := by
  obtain ⟨h1, o, ho, h2⟩ := mem_ready.1 h
  rw [List.getElem?_toArray, addE_get] at ho
  cases hq : ops[i]? with
  | none => rw [hq] at ho; cases ho
  | some o' =>
    rw [hq] at ho
    cases ho
    exact mem_ready.2 ⟨h1, o', by simpa using hq, fun e he => h2 e (by simp [More, he])⟩

theorem path_more {es : List (Nat × Nat)} {ops : List Oper} : ∀ (l : List Nat) (listed : Array Bool), PathR ops.toArray l listed → (∀ i p, (i, p) ∈ es → ∀ l1 l2, l = l1 ++ i :: l2 → p ∈ l1 ∨ listed.getD p false = true) → PathR (addE es ops 0).toArray l listed
  | [], listed, h, _ => by
    unfold PathR at h ⊢
    cases hr : Region.ready .any (addE es ops 0).toArray listed with
    | nil => rfl
    | cons i r =>
      have := more_ready (es := es) (ops := ops) (listed := listed) (i := i) (by rw [hr]; simp)
      rw [h] at this
      cases this
  | i :: r, listed, h, he => by
    obtain ⟨h1, h2⟩ := h
    refine ⟨?_, path_more r _ h2 fun j p hj l1 l2 hl => ?_⟩
    · obtain ⟨k1, o, ho, k2⟩ := mem_ready.1 h1
      refine mem_ready.2 ⟨k1, More o (newAfter es i), by rw [List.getElem?_toArray, addE_get]; simp at ho; rw [ho]; simp, fun e hm hb => ?_⟩
      rcases Array.mem_append.1 hm with hm | hm
      · exact k2 e hm hb
      · obtain ⟨m1, _⟩ := newAfter_mem hm
        exact (he i e.on m1 [] r rfl).resolve_left (by simp)
    · obtain ⟨hlt, _⟩ := ready_lt h1
      rcases he j p hj (i :: l1) l2 (by rw [hl]; rfl) with hm | hm
      · rcases List.mem_cons.1 hm with rfl | hm
        · exact .inr (by simp [Array.getD_eq_getD_getElem?, hlt])
        · exact .inl hm
      · refine .inr ?_
        by_cases e : i = p
        · subst e
          simp [Array.getD_eq_getD_getElem?, hlt]
        · rw [Array.getD_eq_getD_getElem?] at hm ⊢
          rw [Array.getElem?_setIfInBounds_ne e]
          exact hm

theorem path_false {ops : Array Oper} : ∀ (l : List Nat) (listed : Array Bool), PathR ops l listed → ∀ i ∈ l, listed.getD i true = false
  | j :: r, listed, h, i, hi => by
    obtain ⟨hl, h1⟩ := ready_lt h.1
    by_cases e : j = i
    · subst e
      simp [Array.getD_eq_getD_getElem?, hl, h1]
    · have := path_false r _ h.2 i ((List.mem_cons.1 hi).resolve_left (Ne.symm e))
      rw [Array.getD_eq_getD_getElem?, Array.getElem?_setIfInBounds_ne e] at this
      rw [Array.getD_eq_getD_getElem?]
      exact this
theorem path_nodup {ops : Array Oper} : ∀ (l : List Nat) (listed : Array Bool), PathR ops l listed → l.Nodup
  | [], _, _ => List.nodup_nil
  | j :: r, listed, h => by
    refine List.nodup_cons.2 ⟨fun hm => ?_, path_nodup r _ h.2⟩
    obtain ⟨hl, h1⟩ := ready_lt h.1
    have := path_false r _ h.2 j hm
    simp [Array.getD_eq_getD_getElem?, hl] at this

theorem edgesOf_mem {i p : Nat} : ∀ {τ : List Nat}, (i, p) ∈ edgesOf τ → ∃ u v, τ = u ++ p :: i :: v
  | [], h => by cases h
  | [_], h => by cases h
  | a :: b :: r, h => by
    simp only [edgesOf, List.mem_cons, Prod.mk.injEq] at h
    rcases h with ⟨rfl, rfl⟩ | h
    · exact ⟨[], r, rfl⟩
    · obtain ⟨u, v, hu⟩ := edgesOf_mem h
      exact ⟨a :: u, v, by rw [hu]; rfl⟩

theorem split_one {i : Nat} : ∀ {a b c d : List Nat}, (a ++ i :: b).Nodup → a ++ i :: b = c ++ i :: d → a = c
  | [], b, [], d, _, _ => rfl
  | [], b, x :: c, d, hn, h => by
    simp only [List.nil_append, List.cons_append, List.cons.injEq] at h hn
    rw [h.2] at hn
    simp at hn
  | x :: a, b, [], d, hn, h => by
    simp only [List.nil_append, List.cons_append, List.cons.injEq] at h hn
    rw [h.1] at hn
    simp at hn
  | x :: a, b, y :: c, d, hn, h => by
    simp only [List.cons_append, List.cons.injEq] at h
    have hn' : (a ++ i :: b).Nodup := (List.nodup_cons.1 hn).2
    rw [h.1, split_one hn' h.2]

/-- The order in which some come on a path. -/
def tauOf (S l : List Nat) : List Nat := l.filter (memB S) ++ S.filter fun i => !memB l i

theorem tauOf_nodup {S l : List Nat} (hS : S.Nodup) (hl : l.Nodup) : (tauOf S l).Nodup := by
  refine List.nodup_append.2 ⟨hl.filter _, hS.filter _, fun a ha b hb e => ?_⟩
  subst e
  have h1 := (List.mem_filter.1 ha).1
  have h2 := (List.mem_filter.1 hb).2
  rw [(memB_iff _ _).2 h1] at h2
  cases h2

theorem tauOf_perm {S l : List Nat} (hS : S.Nodup) (hl : l.Nodup) : (tauOf S l).Perm S := by
  refine (List.perm_ext_iff_of_nodup (tauOf_nodup hS hl) hS).2 fun a => ?_
  unfold tauOf
  rw [List.mem_append, List.mem_filter, List.mem_filter]
  constructor
  · rintro (⟨_, h⟩ | ⟨h, _⟩)
    · exact (memB_iff _ _).1 h
    · exact h
  · intro h
    cases hb : memB l a with
    | true => exact .inl ⟨(memB_iff _ _).1 hb, (memB_iff _ _).2 h⟩
    | false => exact .inr ⟨h, by simp [hb]⟩

theorem tauOf_edges {S l : List Nat} (hS : S.Nodup) (hl : l.Nodup) {i p : Nat} (h : (i, p) ∈ edgesOf (tauOf S l)) {l1 l2 : List Nat} (e : l = l1 ++ i :: l2) : p ∈ l1 := by
  obtain ⟨u, v, hu⟩ := edgesOf_mem h
  have hn := tauOf_nodup hS hl
  have hiS : memB S i = true := by
    have : i ∈ tauOf S l := by rw [hu]; simp
    exact (memB_iff _ _).2 ((tauOf_perm hS hl).mem_iff.1 this)
  have h2 : tauOf S l = l1.filter (memB S) ++ i :: (l2.filter (memB S) ++ S.filter fun i => !memB l i) := by
    unfold tauOf
    conv => lhs; rw [show l.filter (memB S) = (l1 ++ i :: l2).filter (memB S) by rw [← e]]
    rw [List.filter_append, List.filter_cons_of_pos hiS]
    simp
  have h3 : u ++ p :: i :: v = (u ++ [p]) ++ i :: v := by simp
  rw [h2] at hn
  have h4 := split_one hn (h2.symm.trans (hu.trans h3))
  have : p ∈ l1.filter (memB S) := by rw [h4]; simp
  exact (List.mem_filter.1 this).1

/-! The same operations -/
theorem more_wp {F : Fence} {n : Nat} {P : Program} {Q : Exit → Act → World → Prop} {es : List (Nat × Nat)} {ops : List Oper} : ∀ (l : List Nat) (a : Act) (w : World), wpOpsIn F n P (addE es ops 0).toArray Q l a w → wpOpsIn F n P ops.toArray Q l a w
  | [], a, w, h => h
  | i :: r, a, w, h => by
    have hy : ∀ tmps, yielded (addE es ops 0).toArray tmps = yielded ops.toArray tmps := by
      intro tmps
      funext j
      unfold yielded
      rw [List.getElem?_toArray, List.getElem?_toArray, addE_get]
      cases ops[j]? <;> rfl
    rw [wpOpsIn_cons] at h ⊢
    unfold wpOpIn at h ⊢
    rw [List.getElem?_toArray, addE_get] at h
    rw [List.getElem?_toArray]
    cases ho : ops[i]? with
    | none =>
      rw [ho] at h
      exact more_wp r a w h
    | some o =>
      rw [ho] at h
      simp only [Option.map_some] at h ⊢
      have hw : Region.wanted (More o (newAfter es (0 + i))) (yielded (addE es ops 0).toArray a.tmps) = Region.wanted o (yielded ops.toArray a.tmps) := by rw [hy]; rfl
      rw [hw] at h
      split
      · rename_i hww
        rw [if_pos hww] at h
        have h' : o.wpIn F n P a w (wpOpsIn F n P (addE es ops 0).toArray Q r) Q := h
        exact Oper.wpIn_mono (more_wp r) h'
      · rename_i hww
        rw [if_neg hww] at h
        exact ⟨h.1, more_wp r _ _ h.2⟩

section
variable {C : Cfg} {A : Nat → Prop} {m0 : Mp} {σ0 : St} {w0 : World} {N : Nat} {ops : Array Oper} {a : Act} {w : World} {σ : St} {Q : Exit → Act → World → Prop} {Qv : Fr → St → Prop}

theorem addE_size (es : List (Nat × Nat)) : ∀ (ops : List Oper) (k : Nat), (addE es ops k).length = ops.length
  | [], _ => rfl
  | o :: os, k => by simp [addE, addE_size es os (k + 1)]
theorem addE_ok (es : List (Nat × Nat)) (N : Nat) : ∀ (ops : List Oper) (k : Nat), okOps N (addE es ops k) = okOps N ops
  | [], _ => rfl
  | o :: os, k => by
    have := addE_ok es N os (k + 1)
    unfold okOps at this ⊢
    simp only [addE, List.all_cons, this]

/-- A region that draws its order. -/
theorem draw_sound (tok : TabOK C) {m : Mp} {pb : Nat → Option Nat} {fr : Fr} (F : Frm A m0 σ0 w0 N fr σ a w m pb) (hN : okOps N ops.toList = true)
    (h : ∃ S : List Nat, S.Nodup ∧ ∀ τ : List Nat, τ.Perm S → ∃ tl plan, planOK (chainO τ ops.toList) tl plan = true ∧ vrun C (chainO τ ops.toList) tl plan [] (blanks (qdsts (chainO τ ops.toList) tl) ++ fr) σ Qv)
    (hQ : ∀ fr σ a w, FRel A m0 σ0 w0 N fr σ a w → Qv fr σ → Q .normal a w) {id : Nat} : (Code.region id ops true).wpIn (WF ro) 0 C.P Q a w := by
  obtain ⟨S, hS, h⟩ := h
  refine wpIn_region_draw fun t => ?_
  simp only [Region.schedule, tok.mix, Bool.true_or, if_true, Region.linearise]
  have hp : PathR ops (Region.linearise.go .any ops ops.size t (Array.replicate ops.size false) []) (Array.replicate ops.size false) := go_path _ _ _ (by simp)
  generalize Region.linearise.go .any ops ops.size t (Array.replicate ops.size false) [] = l at hp
  have hl := path_nodup _ _ hp
  obtain ⟨tl, plan, h1, h2⟩ := h (tauOf S l) (tauOf_perm hS hl)
  have key : ∀ τ, τ = tauOf S l → PathR (chainO τ ops.toList).toArray l (Array.replicate ops.size false) ∧ (wpOpsIn (WF ro) 0 C.P (chainO τ ops.toList).toArray Q l a { w with drawn := w.drawn + 1 } → wpOpsIn (WF ro) 0 C.P ops Q l a { w with drawn := w.drawn + 1 }) ∧
      okOps N (chainO τ ops.toList) = true ∧ (chainO τ ops.toList).length = ops.size := by
    intro τ hτ
    cases τ with
    | nil => exact ⟨hp, fun h => h, hN, by simp [chainO]⟩
    | cons x r =>
      refine ⟨path_more (ops := ops.toList) l _ hp fun i p hm l1 l2 e => .inl (tauOf_edges hS hl (hτ ▸ hm) e), fun h => more_wp (ops := ops.toList) l _ _ h, ?_, ?_⟩
      · show okOps N (addE _ _ 0) = true
        rw [addE_ok]; exact hN
      · show (addE _ _ 0).length = _
        rw [addE_size]; simp
  obtain ⟨k1, k2, k3, k4⟩ := key _ rfl
  refine k2 (path_wp l ops.size _ _ _ k1 ?_)
  have := draw_any (ops := (chainO (tauOf S l) ops.toList).toArray) (ro := ro) (Q := Q) tok F k3 h1 h2 hQ
  have hsz : (chainO (tauOf S l) ops.toList).toArray.size = ops.size := by simpa using k4
  rw [hsz] at this
  exact this

end
end Go.VL

/- Ranges over functions: a frame's marks, a loop's record, a round's frame. Conditions: none. -/
namespace Go.VL

section
variable {A : Nat → Prop} {m0 : Mp} {σ0 : St} {w0 : World} {N : Nat} {fr : Fr} {σ : St} {a : Act} {w : World} {m : Mp} {pb : Nat → Option Nat}

/-- A block of the frame's own that is no variable's is written. -/
theorem Frm.setPin (F : Frm A m0 σ0 w0 N fr σ a w m pb) {t0 D : Nat} (ht0 : N ≤ t0) (hp : pb t0 = some D) (ob : Obj) {ds : List Deferred} (hds : DefOK N pb (w.putObj D ob) ds) : Frm A m0 σ0 w0 N fr σ { a with defers := ds } (w.putObj D ob) m pb := by
  have hbA : pA A pb D := .inr ⟨t0, hp⟩
  have hbm : ∀ (i b' c : Nat), m[i]? = some (some (b', c)) → b' ≠ D := fun i b' c hi e => (F.rel.lt i b' c hi).2 (e ▸ hbA)
  have M : Mov (pA A pb) m w (pA A pb) m (w.putObj D ob) := Mov.wider (by simp [World.putObj]) (fun b' hb' hn => setBlock_heap w D b' _ fun e => hn (.inl (e ▸ hbA)))
    (fun b' _ hA => .inl hA) (fun i b' c _ hm => .inr ⟨i, c, hm⟩)
  have O := ObjsLe.refl m σ
  have hE : Ext m0 σ0 w0 m σ (w.putObj D ob) := by
    refine ⟨by simpa [World.putObj] using F.ext.sz, F.ext.os, F.ext.tape, F.ext.output, fun b' hb' hn => ?_, F.ext.new, F.ext.objs⟩
    have : b' ≠ D := fun e => by have := F.pnew t0 D hp; omega
    exact (setBlock_heap w D b' _ this).trans (F.ext.blk b' hb' hn)
  refine ⟨F.tm, hds, ⟨F.rel.len, F.rel.inj, fun i b' c hi => ⟨by simpa [World.putObj] using (F.rel.lt i b' c hi).1, (F.rel.lt i b' c hi).2⟩, fun b' hb' => by simpa [World.putObj] using F.rel.alt b' hb', fun i o bm ho hm => ?_, F.rel.glo.mov M⟩, fun t ht => ?_, F.far, F.pinj, F.pnew, hE⟩
  · exact (F.rel.objs i o bm ho hm).mov M O F.rel.len fun b' c e => setBlock_heap w D b' _ (hbm i b' c (by rw [hm, e]))
  · exact (F.slot t ht).mov M O F.rel.len fun b hb => setBlock_heap w D b _ fun e => by
      have := F.pinj t t0 b hb (e ▸ hp)
      omega

/-- A mark is laid. -/
theorem Frm.mark (F : Frm A m0 σ0 w0 N fr σ a w m pb) : ∃ pb', Frm A m0 σ0 w0 N fr σ { a with defers := { target := .collected w.heap.size, args := #[] } :: a.defers } (w.alloc (.deferred (some []))) m pb' := by
  let w' : World := w.alloc (.deferred (some []))
  have g : Grow w w' := Grow.push w _
  let pb' : Nat → Option Nat := fun t => if t = N + w.heap.size then some w.heap.size else pb t
  have hlt := F.rel.lt
  have up : ∀ {b}, pA A pb' b → pA A pb b ∨ b = w.heap.size := by
    rintro b (h | ⟨t, h⟩)
    · exact .inl (.inl h)
    · by_cases e : t = N + w.heap.size
      · simp [pb', e] at h; exact .inr h.symm
      · simp [pb', e] at h; exact .inl (.inr ⟨t, h⟩)
  have M : Mov (pA A pb) m w (pA A pb') m w' := Mov.wider g.sz (fun b hb _ => g.heap b hb)
    (fun b hb hA => by
      rcases up hA with h | h
      · exact .inl h
      · omega) (fun i b c _ hm => .inr ⟨i, c, hm⟩)
  have O := ObjsLe.refl m σ
  have hfresh : ∀ t, pb t ≠ some w.heap.size := fun t ht => by have := F.rel.alt _ (.inr ⟨t, ht⟩); omega
  have hno : pb (N + w.heap.size) = none := by
    cases hq : pb (N + w.heap.size) with
    | none => rfl
    | some b =>
      have := F.df.1 _ b (Nat.le_add_right _ _) hq
      have hb : b = w.heap.size := by omega
      subst hb
      exact absurd hq (hfresh _)
  have hlow : ∀ t, t < N → pb' t = pb t := fun t ht => by simp [pb', show t ≠ N + w.heap.size by omega]
  refine ⟨pb', F.tm, ⟨fun t b ht hb => ?_, ?_, fun d hd => ?_⟩, ⟨F.rel.len, F.rel.inj, fun i b c hi => ⟨Nat.lt_of_lt_of_le (hlt i b c hi).1 g.sz, fun hA => ?_⟩, fun b hb => ?_, fun i o bm ho hm => ?_, F.rel.glo.mov M⟩, fun t ht => ?_, F.far, fun s t b hs ht => ?_, fun t b ht => ?_, F.ext.trans g.ext⟩
  · by_cases e : t = N + w.heap.size
    · simp [pb', e] at hb; omega
    · simp [pb', e] at hb; exact F.df.1 t b ht hb
  · refine List.nodup_cons.2 ⟨fun h => ?_, F.df.2.1⟩
    obtain ⟨D, t, h1, _, h3, _⟩ := F.df.2.2 _ h
    cases h1
    exact hfresh t h3
  · rcases List.mem_cons.1 hd with e | hd
    · exact ⟨w.heap.size, N + w.heap.size, e, Nat.le_add_right _ _, by simp [pb'], World.alloc_heap_new w _⟩
    · obtain ⟨D, t, h1, h2, h3, h4⟩ := F.df.2.2 d hd
      have hne : t ≠ N + w.heap.size := fun e => by rw [e, hno] at h3; cases h3
      exact ⟨D, t, h1, h2, by simp [pb', hne, h3], (g.heap D (F.rel.alt D (.inr ⟨t, h3⟩))).trans h4⟩
  · rcases up hA with h | h
    · exact (hlt i b c hi).2 h
    · have := (hlt i b c hi).1; omega
  · rcases up hb with h | h
    · exact Nat.lt_of_lt_of_le (F.rel.alt b h) g.sz
    · subst h; rw [World.size_alloc]; omega
  · exact (F.rel.objs i o bm ho hm).mov M O F.rel.len fun b c e => g.heap b (hlt i b c (by rw [hm, e])).1
  · have hs := F.slot t ht
    show SlotR _ m σ w' pb' fr t (a.tmps.getD t Go.undef) (lk fr t)
    have hs' : SlotR (pA A pb) m σ w pb' fr t (a.tmps.getD t Go.undef) (lk fr t) := by
      generalize hv : lk fr t = v0 at hs
      cases v0 with
      | lref s off =>
        intro cs' hcs
        obtain ⟨b, h1, h2⟩ := hs cs' hcs
        have hsN : s < N := by
          rcases Nat.lt_or_ge s N with h | h
          · exact h
          · rw [F.far s h] at hcs; cases hcs
        exact ⟨b, (hlow s hsN).trans h1, h2⟩
      | cell cs0 =>
        obtain ⟨b, us0, T0, h1, h2⟩ := hs
        exact ⟨b, us0, T0, (hlow t ht).trans h1, h2⟩
      | _ => exact hs
    exact hs'.mov M O F.rel.len fun b hb => g.heap b (F.rel.alt b (.inr ⟨t, by rw [← hlow t ht]; exact hb⟩))
  · by_cases e1 : s = N + w.heap.size <;> by_cases e2 : t = N + w.heap.size <;> simp [pb', e1, e2] at hs ht ⊢
    · subst hs; exact absurd ht (hfresh t)
    · subst ht; exact absurd hs (hfresh s)
    · exact F.pinj s t b hs ht
  · by_cases e : t = N + w.heap.size
    · simp [pb', e] at ht; subst ht; exact F.ext.sz
    · simp [pb', e] at ht; exact F.pnew t b ht

/-- A frame on its way out: its marks are taken. -/
theorem Frm.leaves {P : Program} {fn : Func} {R : Ending → World → Prop} : ∀ (ds : List Deferred) (w : World), Frm A m0 σ0 w0 N fr σ { a with defers := ds } w m pb →
    (∀ w', Frm A m0 σ0 w0 N fr σ { a with defers := [] } w' m pb → ∃ v, (results fn a.tmps).run P w' = .ok v w' ∧ R (.returned v) w') → LeavesInM Fence.wide 0 P fn a.tmps R ds .returning w
  | [], w, F, h => h w F
  | d :: ds, w, F, h => by
    obtain ⟨h1, h2, h3⟩ := F.df
    obtain ⟨D, t, rfl, ht, hp, hh⟩ := h3 d (List.mem_cons_self ..)
    refine ⟨by simp, .inl ⟨D, _, rfl, run_takeDeferred hh, ?_⟩⟩
    refine Frm.leaves ds _ ?_ h
    have hn := List.nodup_cons.1 h2
    refine F.setPin ht hp _ ⟨h1, hn.2, fun d' hd' => ?_⟩
    obtain ⟨D', t', e1, e2, e3, e4⟩ := h3 d' (List.mem_cons_of_mem _ hd')
    exact ⟨D', t', e1, e2, e3, (World.putObj_heap_other fun e => by subst e1 e; exact hn.1 hd').trans e4⟩

/-- A loop's record is written. -/
theorem Rel.setBlk (R : Rel A m σ w) {i l : Nat} {X Y : Obj} {kp : Fr} (ho : σ[i]? = some (.blk l X kp)) (hY : tmpsOf Y = tmpsOf X) :
    Rel A m (σ.set i (.blk l Y kp)) (w.putObj l Y) ∧ Ext m σ w m (σ.set i (.blk l Y kp)) (w.putObj l Y) := by
  have hi : i < m.length := by rw [R.len]; exact lt_of_some ho
  obtain ⟨h1, h2, h3, h4⟩ := R.objs i _ _ ho (List.getElem?_eq_getElem hi)
  have hm : m[i]? = some (some (l, 0)) := by rw [List.getElem?_eq_getElem hi, h1]
  exact R.setObj ho hm rfl fun w' _ M O hnew => ⟨rfl, hnew, by rw [hY]; exact fun t u hu => (h3 t u hu).mov M O R.len, by rw [hY]; exact h4⟩

theorem Rel.blk (R : Rel A m σ w) {i l : Nat} {X : Obj} {kp : Fr} (ho : σ[i]? = some (.blk l X kp)) : w.heap[l]? = some X ∧ FrR A m σ w kp (tmpsOf X) := by
  have hi : i < m.length := by rw [R.len]; exact lt_of_some ho
  exact (R.objs i _ _ ho (List.getElem?_eq_getElem hi)).2

/-- The values that a round begins with. -/
theorem Frm.binds : ∀ (ps : List Nat) (vs : List V) (us : List Value) (fr : Fr) (tmps : Array Value), Frm A m0 σ0 w0 N fr σ { a with tmps } w m pb → (∀ p ∈ ps, p < N) → VRs (pA A pb) m σ w vs us → vs.length = ps.length →
    Frm A m0 σ0 w0 N (bindV ps vs fr) σ { a with tmps := (ps.zip us).foldl (fun t pv => t.setIfInBounds pv.1 pv.2) tmps } w m pb
  | [], vs, us, fr, tmps, F, _, _, _ => by cases vs <;> exact F
  | p :: ps, [], us, fr, tmps, F, _, _, h => by simp at h
  | p :: ps, v :: vs, us, fr, tmps, F, hN, hv, h => by
    cases us with
    | nil => have := hv.1; simp at this
    | cons u us =>
      have F' := F.put (hN p (by simp)) (ResR.of (hv.2 0 v u rfl rfl))
      exact Frm.binds ps vs us _ _ F' (fun q hq => hN q (by simp [hq])) ⟨by have := hv.1; simpa using this, fun i v u h1 h2 => hv.2 (i + 1) v u (by simpa using h1) (by simpa using h2)⟩ (by simpa using h)

/-- A round's frame, ahead of its first values. -/
theorem frm_round (R : Rel A m σ w) {kp : Fr} {tmps : Array Value} (h : FrR A m σ w kp tmps) (hk : (kp.all fun p => p.2.isVal) = true) : Frm A m σ w tmps.size kp σ { tmps, defers := [] } w m (fun _ => none) := by
  have e : pA A (fun _ => none) = A := by
    funext b
    exact propext ⟨fun h => h.elim id fun ⟨_, h⟩ => (by cases h), .inl⟩
  have hv : ∀ t, (lk kp t).isVal = true := by
    intro t
    clear h
    induction kp with
    | nil => rfl
    | cons p kp ih =>
      obtain ⟨j, v⟩ := p
      simp only [List.all_cons, Bool.and_eq_true] at hk
      rw [lk_cons]
      split
      · exact hk.1
      · exact ih hk.2
  refine ⟨rfl, DefOK.nil, by rw [e]; exact R, fun t ht => ?_, h.2, fun s t b h => (by cases h), fun t b h => (by cases h), Ext.refl m σ w⟩
  rw [e, SlotR_val (hv t)]
  refine h.1 t _ ?_
  rw [Array.getD_eq_getD_getElem?, Array.getElem?_eq_getElem ht]
  rfl

end
end Go.VL

/- Code and functions. Conditions: the table of types tells the program's own rows (TabOK). -/
namespace Go.VL
variable {ro : Option Nat}

section code
variable {C : Cfg} {A : Nat → Prop} {m0 : Mp} {σ0 : St} {w0 : World} {N : Nat}

/-- What 'vwp_sound' says of one code. -/
def SoundAt (C : Cfg) (c : Code) : Prop := ∀ (ro : Option Nat) (A : Nat → Prop) (m0 : Mp) (σ0 : St) (w0 : World) (N : Nat) (_ : Rel A m0 σ0 w0) (_ : ro = none ∨ noRange c = true) (fr : Fr) (σ : St) (a : Act) (w : World) (Qv : Exit → Fr → St → Prop) (Q : Exit → Act → World → Prop), okCode N c = true → FRel A m0 σ0 w0 N fr σ a w → vwp C σ0 c fr σ Qv →
    (∀ e fr σ a w, FRel A m0 σ0 w0 N fr σ a w → Qv e fr σ → Q e a w) → c.wpIn (WF ro) 0 C.P Q a w

theorem FRel.frm {A : Nat → Prop} {m0 : Mp} {σ0 : St} {w0 : World} {N : Nat} {fr : Fr} {σ : St} {a : Act} {w : World} (F : FRel A m0 σ0 w0 N fr σ a w) : ∃ m, Rel A m σ w ∧ Ext m0 σ0 w0 m σ w := by
  obtain ⟨m, pb, F⟩ := F
  have h2 := F.rel.drop (A' := A) (n := σ.length) (fun b hb => .inl hb) fun i o hi ho => by
    have hlt : i < m.length := by rw [F.rel.len]; exact hi
    exact (F.rel.objs i o _ ho (List.getElem?_eq_getElem hlt)).sc
  rw [← F.rel.len, List.take_length, F.rel.len, List.take_length] at h2
  exact ⟨m, h2, F.ext⟩

/-- A round. -/
theorem round_sound (tok : TabOK C) {assign body : Code} (ihA : SoundAt C assign) (ihB : SoundAt C body) {fn : FuncId} {ps : Array Tmp} {tmps : Array Value} {D l i : Nat} {kp : Fr} (hps : (ps.toList.all fun p => Nat.blt p tmps.size) = true) (hA : okCode tmps.size assign = true) (hB : okCode tmps.size body = true)
    (nA : noRange assign = true) (nB : noRange body = true) (hk : (kp.all fun p => p.2.isVal) = true) {rec : LoopState → Option Code → Loop} (hrec : rec = fun st pe => { state := st, pending := pe, fn, tmps, params := ps, assign, body, defers := D })
    {args : List V} {σ1 : St} {K : V → St → Prop} (hσ : σ1[i]? = some (.blk l (.loop (rec .ready none)) kp)) (hl : args.length = ps.size)
    (h : vwp C σ1 assign (bindV ps.toList args kp) σ1 (fun e fr1 σ2 => e = .normal ∧ σ2[i]? = some (.blk l (.loop (rec .ready none)) kp) ∧
      vwp C σ1 body fr1 (σ2.set i (.blk l (.loop (rec .busy none)) kp)) (vround σ1 i l kp (.loop (rec .ready none)) (.loop (rec .busy none)) (fun c => .loop (rec .done (some c))) K))) : VYield C.P l args σ1 K := by
  intro A m w us R hv
  obtain ⟨hh, hf⟩ := R.blk hσ
  have ht : tmpsOf (.loop (rec .ready none)) = tmps := by rw [hrec]; rfl
  rw [ht] at hf
  have hus : us.toArray.size = ps.size := by simp [hv.1, hl]
  have hy := run_yield (P := C.P) (args := us.toArray) hh (by rw [hrec]; exact hus)
  rw [hrec] at hy
  refine ⟨fn, _, assign, body, hy, ?_⟩
  have F0 := frm_round R hf hk
  have e : pA A (fun _ => none) = A := by
    funext b
    exact propext ⟨fun h => h.elim id fun ⟨_, h⟩ => (by cases h), .inl⟩
  have F1 := Frm.binds (a := { tmps, defers := [] }) ps.toList args us kp tmps F0 (fun p hp => Nat.le_of_ble_eq_true (List.all_eq_true.1 hps p hp)) (by rw [e]; exact hv) (by simpa using hl)
  have hz : (ps.zip us.toArray).foldl (fun t (x : Tmp × Value) => t.setIfInBounds x.1 x.2) tmps = (ps.toList.zip us).foldl (fun t pv => t.setIfInBounds pv.1 pv.2) tmps := by
    rw [← Array.foldl_toList, Array.toList_zip]
  have hset : ∀ (X Y : Obj) (fr2 : Fr) (σ2 : St) (a2 : Act) (w2 : World), tmpsOf Y = tmpsOf X → σ2[i]? = some (.blk l X kp) → FRel A m σ1 w tmps.size fr2 σ2 a2 w2 → w2.heap[l]? = some X ∧ FRel A m σ1 w tmps.size fr2 (σ2.set i (.blk l Y kp)) a2 (w2.putObj l Y) := by
    rintro X Y fr2 σ2 a2 w2 hXY ho ⟨m2, pb2, F2⟩
    obtain ⟨R2, E2⟩ := F2.rel.setBlk ho hXY
    exact ⟨(F2.rel.blk ho).1, m2, pb2, F2.step E2 R2⟩
  have hT : ∀ s p, tmpsOf (.loop (rec s p)) = tmps := fun s p => by rw [hrec]; rfl
  refine roundIn_of_wpIn (F := Fence.wide) trivial ?_
  rw [show ((ps.zip us.toArray).foldl (fun t (x : Tmp × Value) => t.setIfInBounds x.1 x.2) tmps) = (ps.toList.zip us).foldl (fun t pv => t.setIfInBounds pv.1 pv.2) tmps from hz]
  refine ihA (some l) A m σ1 w tmps.size R (.inr nA) _ _ _ _ _ _ hA ⟨m, _, F1⟩ h ?_
  · intro e fr1 σ2 a1 w1 F2 hq
    obtain ⟨rfl, ho, hb⟩ := hq
    obtain ⟨hl1, F3⟩ := hset _ (.loop (rec .busy none)) fr1 σ2 a1 w1 (by rw [hT, hT]) ho F2
    refine ⟨_, ?_, ihB (some l) A m σ1 w tmps.size R (.inr nB) _ _ _ _ _ _ hB F3 hb ?_⟩
    · have := run_beginRound (P := C.P) hl1 (by rw [hrec])
      rw [hrec] at this ⊢
      exact this
    · intro e fr2 σ3 a2 w2 F4 hq
      have fin : ∀ (jump : Option Code) (Y : Obj) (bo : Bool) (fr3 : Fr) (σ4 : St), Y = .loop (rec (if jump.isNone then .ready else .done) jump) → bo = jump.isNone → Ghost σ1 fr2 σ3 fr3 σ4 → σ4[i]? = some (.blk l (.loop (rec .busy none)) kp) → K (.bool bo) (σ4.set i (.blk l Y kp)) →
          ∃ v w', (Instr.endRound l jump).run C.P w2 = .ok v w' ∧ ∃ r u m' σ', Ending.returned v = .returned u ∧ VR A m' σ' w' r u ∧ Rel A m' σ' w' ∧ Ext m σ1 w m' σ' w' ∧ K r σ' := by
        intro jump Y bo fr3 σ4 hY hbo g ho' hK
        obtain ⟨hl2, F5⟩ := hset _ Y fr3 σ4 a2 w2 (by rw [hY, hT, hT]) ho' (ghost_sound R g F4)
        obtain ⟨m', R', E'⟩ := F5.frm
        refine ⟨.bool bo, w2.putObj l Y, ?_, .bool bo, .bool bo, m', _, rfl, .imm _ _ (.bool bo), R', E', hK⟩
        have := run_endRound (P := C.P) jump hl2
        rw [hY, hbo]
        rw [hrec] at this ⊢
        exact this
      cases e with
      | normal =>
        obtain ⟨fr3, σ4, g, ho', hK⟩ := hq
        exact fin none _ true fr3 σ4 rfl rfl g ho' hK
      | ret =>
        obtain ⟨fr3, σ4, g, ho', hK⟩ := hq
        exact fin (some .ret) _ false fr3 σ4 rfl rfl g ho' hK
      | exit id =>
        obtain ⟨fr3, σ4, g, ho', hK⟩ := hq
        exact fin (some (.exit id)) _ false fr3 σ4 rfl rfl g ho' hK
      | _ => exact hq.elim

theorem lk_isVal : ∀ {kp : Fr}, (kp.all fun p => p.2.isVal) = true → ∀ t, (lk kp t).isVal = true
  | [], _, _ => rfl
  | (j, v) :: kp, h, t => by
    simp only [List.all_cons, Bool.and_eq_true] at h
    rw [lk_cons]
    split
    · exact h.1
    · exact lk_isVal h.2 t

theorem vr_yield {A : Nat → Prop} {m : Mp} {σ : St} {w : World} (l : Nat) : VR A m σ w (.fn (.yield l) [] []) (.func (.yield l) #[] #[]) :=
  .fn _ _ _ _ _ rfl rfl (fun i v u h1 _ => by simp at h1) fun i v u h1 _ => by simp at h1

/-- A range over a function. -/
theorem range_sound (tok : TabOK C) {g : Operand} {ps : Array Tmp} {assign body : Code} (ihA : SoundAt C assign) (ihB : SoundAt C body) (R0 : Rel A m0 σ0 w0) {fr : Fr} {σ : St} {a : Act} {w : World} {Qv : Exit → Fr → St → Prop} {Q : Exit → Act → World → Prop}
    (hok : okCode N (.rangeFunc g ps assign body) = true) (F : FRel A m0 σ0 w0 N fr σ a w) (h : vwp C σ0 (.rangeFunc g ps assign body) fr σ Qv)
    (hQ : ∀ e fr σ a w, FRel A m0 σ0 w0 N fr σ a w → Qv e fr σ → Q e a w) : (Code.rangeFunc g ps assign body).wpIn (WF none) 0 C.P Q a w := by
  obtain ⟨m, pb, F⟩ := F
  simp only [okCode, Bool.and_eq_true] at hok
  obtain ⟨hps, hA, hB⟩ := hok
  unfold vwp at h
  obtain ⟨nA, nB, kp, hkp, hk, h⟩ := h
  generalize hX : opv fr g = X at h
  cases X <;> (try simp only at h) <;> try exact h.elim
  rename_i fn0 first cap
  cases fn0 <;> (try simp only at h) <;> try exact h.elim
  rename_i gf
  refine wpIn_rangeFunc fun fn _ => ?_
  obtain ⟨rec, hrec⟩ : ∃ rec : LoopState → Option Code → Loop, rec = fun st pe => { state := st, pending := pe, fn, tmps := a.tmps, params := ps, assign, body, defers := w.heap.size } := ⟨_, rfl⟩
  have hT : ∀ s p, tmpsOf (.loop (rec s p)) = a.tmps := fun s p => by rw [hrec]; rfl
  obtain ⟨pb', F1⟩ := F.mark
  have hsz : (w.alloc (.deferred (some []))).heap.size = w.heap.size + 1 := World.size_alloc ..
  have htm : a.tmps.size = N := F.tm
  obtain ⟨R2, E2⟩ := F1.rel.newObj (.blk (w.heap.size + 1) (.loop (rec .ready none)) kp) 0 (.loop (rec .ready none)) fun w' hw' M O hnew => by
    rw [hsz] at hnew O M ⊢
    refine ⟨rfl, hnew, ?_, ?_⟩
    · rw [hT]
      intro t u hu
      have ht : t < N := by rw [← htm]; exact (Array.getElem?_eq_some_iff.1 hu).1
      rcases hkp t with e | e
      · have hs := F1.slot t ht
        rw [← e, SlotR_val (lk_isVal hk t)] at hs
        have hg : ({ a with defers := { target := .collected w.heap.size, args := #[] } :: a.defers } : Act).tmps.getD t Go.undef = u := by
          simp only [Array.getD_eq_getD_getElem?, hu, Option.getD_some]
        rw [hg] at hs
        exact hs.mov M O F1.rel.len
      · rw [e]; exact .imm _ _ (.undef _)
    · rw [hT]
      intro t ht
      rcases hkp t with e | e
      · rw [e]; exact F.far t (by omega)
      · exact e
  have F2 := F1.step E2 R2
  rw [hsz] at F2 R2
  have hml : m.length = σ.length := F.rel.len
  obtain ⟨us, ts, hu, hv1, hv2⟩ := (hX ▸ F2.opnd g (by rw [hX]; rfl) : VR _ _ _ _ (.fn (.func gf) first cap) _).fn_inv
  obtain ⟨⟨fn1, c1, c2, c3⟩, hc⟩ := h (w.heap.size + 1) (.loop (rec .ready none)) (.loop (rec .busy none)) (fun c => .loop (rec .done (some c))) fun args σ1 K hσ hl hva hvw =>
    round_sound tok ihA ihB (by rw [htm]; exact hps) (by rw [htm]; exact hA) (by rw [htm]; exact hB) nA nB hk hrec hσ hl hvw
  have hcall := hc _ _ _ _ R2 ((hv1.append (vs' := [.fn (.yield (w.heap.size + 1)) [] []]) (us' := [.func (.yield (w.heap.size + 1)) #[] #[]]) ⟨rfl, fun i v u h1 h2 => by
    cases i with
    | zero => simp at h1 h2; rw [← h1, ← h2]; exact vr_yield _
    | succ i => simp at h1⟩).append hv2)
  have he : (us.toList ++ [Value.func (.yield (w.heap.size + 1)) #[] #[]] ++ ts.toList).toArray = us ++ #[.func (.yield (w.heap.size + 1)) #[] #[]] ++ ts := Array.ext' (by simp)
  rw [he] at hcall
  have h4 : fn1.body.isNone = false := by cases hb : fn1.body <;> simp_all
  have h5 : ∀ (us : Array Value) w, (callFunc gf us).run C.P w = .ok (.enter gf us) w := by
    intro us w
    simp only [callFunc, Sem.run_bind, program, Sem.run, Result.andThen_ok, c1, c3, h4, Bool.false_eq_true, if_false]
    rfl
  have hu' : a.eval g = .func (.func gf) us ts := hu
  refine ⟨w.heap.size + 1, [{ target := .collected w.heap.size, args := #[] }], (w.alloc (.deferred (some []))).alloc (.loop (rec .ready none)), { target := .fn (.func gf) ts, args := us ++ #[.func (.yield (w.heap.size + 1)) #[] #[]] }, (w.alloc (.deferred (some []))).alloc (.loop (rec .ready none)), gf,
    us ++ #[.func (.yield (w.heap.size + 1)) #[] #[]] ++ ts, (w.alloc (.deferred (some []))).alloc (.loop (rec .ready none)), ?_, ?_, fun _ _ => trivial, ?_, fun e => by simp [Fence.wide] at e, ?_⟩
  · rw [hrec]; exact run_enterLoop_outer _ _ _ _ _
  · simp only [resolve, hu']
    simp [Deferred.ofValue, Act.eval]
  · simp [invoke, h5]
  · refine CallsIn.mono (callsIn_wide.2 hcall : CallsIn Fence.wide _ _ _ _ _ _) ?_
    rintro e w3 ⟨r, u, m3, σ3, rfl, _, R3, E3, hend⟩
    have F3 := F2.step E3 R3
    have fin : ∀ (jump : Option Code) (st : LoopState), st ≠ .busy → σ3[σ.length]? = some (.blk (w.heap.size + 1) (.loop (rec st jump)) kp) → ∃ w4, (Instr.endLoop (w.heap.size + 1)).run C.P w3 = .ok jump w4 ∧
        FRel A m0 σ0 w0 N fr (σ3.set σ.length .dead) { a with defers := { target := .collected w.heap.size, args := #[] } :: a.defers } w4 := by
      intro jump st hst ho
      obtain ⟨R4, E4⟩ := F3.rel.setBlk (Y := .loop (rec .exhausted jump)) ho (by rw [hT, hT])
      have hl3 := (F3.rel.blk ho).1
      have F5 : FRel A m0 σ0 w0 N fr (σ3.set σ.length (.blk (w.heap.size + 1) (.loop (rec .exhausted jump)) kp)) { a with defers := { target := .collected w.heap.size, args := #[] } :: a.defers } (w3.putObj (w.heap.size + 1) (.loop (rec .exhausted jump))) := ⟨_, _, F3.step E4 R4⟩
      have F6 := ghost_sound R0 (.dieO fr _ σ.length) F5
      rw [List.set_set] at F6
      refine ⟨_, ?_, F6⟩
      have := run_endLoop (P := C.P) hl3 (by rw [hrec]; exact hst)
      rw [hrec] at this ⊢
      exact this
    rcases hend with ⟨ho, hq⟩ | ⟨ho, hq⟩ | ⟨id, ho, hq⟩
    · obtain ⟨w4, h1, h2⟩ := fin none .ready (by simp) ho
      exact ⟨none, w4, h1, hQ _ _ _ _ _ h2 hq⟩
    · obtain ⟨w4, h1, h2⟩ := fin (some .ret) .done (by simp) ho
      exact ⟨some .ret, w4, h1, wpIn_ret (hQ _ _ _ _ _ h2 hq)⟩
    · obtain ⟨w4, h1, h2⟩ := fin (some (.exit id)) .done (by simp) ho
      exact ⟨some (.exit id), w4, h1, wpIn_exit (hQ _ _ _ _ _ h2 hq)⟩

theorem vwp_sound (tok : TabOK C) : ∀ (c : Code) (ro : Option Nat) (A : Nat → Prop) (m0 : Mp) (σ0 : St) (w0 : World) (N : Nat) (R0 : Rel A m0 σ0 w0) (hro : ro = none ∨ noRange c = true) (fr : Fr) (σ : St) (a : Act) (w : World) (Qv : Exit → Fr → St → Prop) (Q : Exit → Act → World → Prop), okCode N c = true → FRel A m0 σ0 w0 N fr σ a w → vwp C σ0 c fr σ Qv →
    (∀ e fr σ a w, FRel A m0 σ0 w0 N fr σ a w → Qv e fr σ → Q e a w) → c.wpIn (WF ro) 0 C.P Q a w := by
  intro c
  induction c with
  | skip => exact fun ro A m0 σ0 w0 N R0 _ fr σ a w Qv Q _ F h hQ => wpIn_skip (hQ _ _ _ _ _ F h)
  | exit id => exact fun ro A m0 σ0 w0 N R0 _ fr σ a w Qv Q _ F h hQ => wpIn_exit (hQ _ _ _ _ _ F h)
  | ret => exact fun ro A m0 σ0 w0 N R0 _ fr σ a w Qv Q _ F h hQ => wpIn_ret (hQ _ _ _ _ _ F h)
  | region id ops draw =>
    intro ro A m0 σ0 w0 N R0 hro fr σ a w Qv Q hok F h hQ
    unfold vwp at h
    cases draw with
    | false =>
      simp only [cond_false] at h
      refine wpIn_region ?_
      rw [List.range_eq_range']
      exact vops_sound tok hok (fun fr σ a w F h => hQ _ _ _ _ _ F h) ops.toList 0 rfl fr σ a w F h
    | true =>
      simp only [cond_true] at h
      obtain ⟨m, pb, F⟩ := F
      exact draw_sound tok F hok h fun fr σ a w F h => by
        obtain ⟨fr'', σ'', g, h⟩ := h
        exact hQ _ _ _ _ _ (ghost_sound R0 g F) h
  | seq x y ihx ihy =>
    intro ro A m0 σ0 w0 N R0 hro fr σ a w Qv Q hok F h hQ
    simp only [okCode, Bool.and_eq_true] at hok
    unfold vwp at h
    refine wpIn_seq (ihx ro A m0 σ0 w0 N R0 (hro.imp_right fun h => by simp only [noRange, Bool.and_eq_true] at h; exact h.1) fr σ a w _ _ hok.1 F h fun e fr σ a w F h => ?_)
    cases e with
    | normal => exact ihy ro A m0 σ0 w0 N R0 (hro.imp_right fun h => by simp only [noRange, Bool.and_eq_true] at h; exact h.2) fr σ a w Qv Q hok.2 F h hQ
    | _ => exact hQ _ _ _ _ _ F h
  | cond x t e iht ihe =>
    intro ro A m0 σ0 w0 N R0 hro fr σ a w Qv Q hok F h hQ
    simp only [okCode, Bool.and_eq_true] at hok
    unfold vwp at h
    generalize hX : opv fr x = X at h
    cases X <;> (try simp only at h) <;> try exact h.elim
    rename_i b
    obtain ⟨m, pb, F'⟩ := F
    have hx := (hX ▸ F'.opnd x (by rw [hX]; rfl) : VR _ m σ w (.bool b) _).bool_inv
    cases b with
    | true => exact wpIn_cond_true hx (iht ro A m0 σ0 w0 N R0 (hro.imp_right fun h => by simp only [noRange, Bool.and_eq_true] at h; exact h.1) fr σ a w Qv Q hok.1 ⟨m, pb, F'⟩ h hQ)
    | false => exact wpIn_cond_false hx (ihe ro A m0 σ0 w0 N R0 (hro.imp_right fun h => by simp only [noRange, Bool.and_eq_true] at h; exact h.2) fr σ a w Qv Q hok.2 ⟨m, pb, F'⟩ h hQ)
  | block id c ih =>
    intro ro A m0 σ0 w0 N R0 hro fr σ a w Qv Q hok F h hQ
    unfold vwp at h
    refine wpIn_block (ih ro A m0 σ0 w0 N R0 hro fr σ a w _ _ hok F h fun e fr σ a w F h => ?_)
    cases e with
    | exit id' =>
      simp only at h
      simp only [Exit.inBlock]
      cases hb : Nat.beq id' id with
      | true =>
        rw [hb] at h
        rw [if_pos (Nat.eq_of_beq_eq_true hb)]
        exact hQ _ _ _ _ _ F h
      | false =>
        rw [hb] at h
        rw [if_neg (fun e => by rw [e, Nat.beq_refl] at hb; cases hb)]
        exact hQ _ _ _ _ _ F h
    | _ => exact hQ _ _ _ _ _ F h
  | loop c ih =>
    intro ro A m0 σ0 w0 N R0 hro fr σ a w Qv Q hok F h hQ
    unfold vwp at h
    obtain ⟨I, ⟨n0, fr1, σ1, g, hI⟩, round⟩ := h
    intro b k cs hrd hb hr
    have key : ∀ n fr σ a w, FRel A m0 σ0 w0 N fr σ a w → I n fr σ →
        ∃ e a' w', Q e a' w' ∧ ArrivesIn (Machine.fenced C.P (WF ro)) C.P (lone (b.atR a (.code c :: .inLoop c :: k)) cs w) b k cs e a' w' := by
      intro n
      induction n using Nat.strongRecOn with
      | _ n ihn =>
        intro fr σ a w F hI
        have hwp := ih ro A m0 σ0 w0 N R0 hro fr σ a w _ (fun e a' w' => match e with
          | .normal => ∃ k fr1 σ1, FRel A m0 σ0 w0 N fr1 σ1 a' w' ∧ I k fr1 σ1 ∧ k < n
          | e => Q e a' w') hok F (round n fr σ hI) fun e fr' σ' a' w' F' h' => by
            cases e with
            | normal =>
              obtain ⟨k, fr1, σ1, g, h1, h2⟩ := h'
              exact ⟨k, fr1, σ1, ghost_sound R0 g F', h1, h2⟩
            | _ =>
              obtain ⟨fr1, σ1, g, h1⟩ := h'
              exact hQ _ _ _ _ _ (ghost_sound R0 g F') h1
        obtain ⟨e, a₁, w₁, hq, harr⟩ := hwp b (.inLoop c :: k) cs hrd hb hr
        cases e with
        | normal =>
          obtain ⟨k', fr1, σ1, F1, hI1, hlt⟩ := hq
          obtain ⟨e₂, a₂, w₂, hq₂, harr₂⟩ := ihn k' hlt fr1 σ1 a₁ w₁ F1 hI1
          exact ⟨e₂, a₂, w₂, hq₂, .of_steps (StepsIn.trans harr (.one (fenced_calm hb hr rfl) stepR_inLoop)) harr₂⟩
        | exit id => exact ⟨_, a₁, w₁, hq, .pass (x := .inLoop c) rfl (fun _ _ => .inl (by simp)) harr⟩
        | goto l => exact ⟨_, a₁, w₁, hq, .pass (x := .inLoop c) rfl (fun _ _ => .inl (by simp)) harr⟩
        | ret => exact ⟨_, a₁, w₁, hq, .pass (x := .inLoop c) rfl (fun _ _ => .inl (by simp)) harr⟩
        | panic ch => exact ⟨_, a₁, w₁, hq, .pass (x := .inLoop c) rfl (fun _ _ => .inl (by simp)) harr⟩
        | outgrown => exact ⟨_, a₁, w₁, hq, .pass (x := .inLoop c) rfl (fun _ _ => .inl (by simp)) harr⟩
    obtain ⟨e, a', w', hq, harr⟩ := key n0 fr1 σ1 a w (ghost_sound R0 g F) hI
    exact ⟨e, a', w', hq, .of_steps (.one (fenced_calm hb hr rfl) stepR_loop) harr⟩
  | rangeFunc g ps assign body ihA ihB =>
    intro ro A m0 σ0 w0 N R0 hro fr σ a w Qv Q hok F h hQ
    rcases hro with rfl | hro
    · exact range_sound tok ihA ihB R0 hok F h hQ
    · simp [noRange] at hro
  | _ => intro ro A m0 σ0 w0 N R0 hro fr σ a w Qv Q _ _ h; exact h.elim

end code

section fin
variable {C : Cfg} {A : Nat → Prop} {m0 : Mp} {σ0 : St} {w0 : World} {N : Nat} {fr : Fr} {σ : St} {a : Act} {w : World} {m : Mp} {pb : Nat → Option Nat}

def resM (tmps : Array Value) : ResultVar → Sem Value
  | .tmp t => pure (tmps.getD t Go.undef)
  | .cell x t => do loadVar t (← asAddr (tmps.getD x Go.undef))

theorem results_eq (fn : Func) (tmps : Array Value) : results fn tmps = (do let vs ← fn.results.mapM (resM tmps); pure (if h : vs.size = 1 then vs[0] else .tuple vs)) := by
  unfold results
  congr 1

theorem vres1_sound (tok : TabOK C) (F : Frm A m0 σ0 w0 N fr σ a w m pb) {r : ResultVar} {K : V → Prop} (h : vres1 C fr σ r K) :
    ∃ v u, K v ∧ VR (pA A pb) m σ w v u ∧ (resM a.tmps r).run C.P w = .ok u w := by
  cases r with
  | tmp t => exact ⟨_, _, h.2, F.opnd (.tmp t) h.1, by simp [resM, Act.eval]⟩
  | cell x t =>
    unfold vres1 at h
    obtain ⟨cs, hcs, ad, us, hu, hc, hv⟩ := vcells_sound F (x := .tmp x) h
    obtain ⟨v, u, hk, hr, hrun⟩ := vload_sound tok hc hv hcs
    refine ⟨v, u, hk, hr, ?_⟩
    simp only [Act.eval] at hu
    simp only [resM, hu, asAddr, Sem.run_bind, Sem.run_pure, Result.andThen_ok]
    exact hrun

theorem vresL_sound (tok : TabOK C) (F : Frm A m0 σ0 w0 N fr σ a w m pb) : ∀ (rs : List ResultVar) (K : List V → Prop), vresL C fr σ rs K →
    ∃ vs us, K vs ∧ VRs (pA A pb) m σ w vs us ∧ (rs.mapM (resM a.tmps)).run C.P w = .ok us w
  | [], K, h => ⟨[], [], h, ⟨rfl, fun i v u h1 _ => by simp at h1⟩, by simp⟩
  | r :: rs, K, h => by
    obtain ⟨v, u, h1, h2, h3⟩ := vres1_sound tok F h
    obtain ⟨vs, us, h4, h5, h6⟩ := vresL_sound tok F rs _ h1
    refine ⟨v :: vs, u :: us, h4, ⟨by simp [h5.1], fun i v' u' k1 k2 => ?_⟩, ?_⟩
    · cases i with
      | zero => simp at k1 k2; rw [← k1, ← k2]; exact h2
      | succ i => exact h5.2 i v' u' (by simpa using k1) (by simpa using k2)
    · rw [List.mapM_cons]
      simp only [Sem.run_bind, h3, Result.andThen_ok, h6, Sem.run_pure]

theorem results_run (tok : TabOK C) (F : Frm A m0 σ0 w0 N fr σ a w m pb) {fn : Func} {K : V → Prop} (h : vresL C fr σ fn.results.toList fun vs => K (packV vs)) :
    ∃ v u, K v ∧ VR (pA A pb) m σ w v u ∧ (results fn a.tmps).run C.P w = .ok u w := by
  obtain ⟨vs, us, hk, hv, hrun⟩ := vresL_sound tok F _ _ h
  have hm : (fn.results.mapM (resM a.tmps)).run C.P w = .ok us.toArray w := by
    rw [Array.mapM_eq_mapM_toList]
    simp only [Sem.run_map, hrun]
    rfl
  have hp : VR (pA A pb) m σ w (packV vs) (if h : us.toArray.size = 1 then us.toArray[0] else .tuple us.toArray) := by
    have hl := hv.1
    match vs, us, hv, hl with
    | [v], [u], hv, _ => exact hv.2 0 v u rfl rfl
    | [], [], hv, _ => exact .tup [] #[] rfl fun i v u h1 _ => by simp at h1
    | v :: v' :: vs, u :: u' :: us, hv, _ =>
      have : ¬ ((u :: u' :: us).toArray.size = 1) := by simp
      rw [dif_neg this]
      exact .tup _ _ (by simpa using hv.1) fun i v u h1 h2 => hv.2 i v u h1 (by simpa using h2)
  refine ⟨_, _, hk, hp, ?_⟩
  rw [results_eq, Sem.run_bind, hm]
  rfl

/-- A row's object is forgotten: what was a slice of it is a list from then on. -/
theorem frz_row {A' : Nat → Prop} {m' : Mp} (R : Rel A m σ w) {id g lo hi sz : Nat} {nl : Bool} {es : List V} {u : Value} (hσ : σ[id]? = some (.arr nl g sz es)) (h : VR A m σ w (.rsl id g lo hi) u) (M : Mov A m w A' m' w)
    (hb : ∀ b c, m[id]? = some (some (b, c)) → ¬ Bad A' m' b) : VI w (Bad A' m') (.sl nl false sz ((es.take hi).drop lo)) u := by
  obtain ⟨bm, hm, h1, h2, h3⟩ := h.rsl_inv hσ rfl
  have hl : ((es.take hi).drop lo).length = hi - lo := by simp; omega
  have hnil : bm = none → es = [] := fun e => by
    rcases R.objs id _ _ hσ hm with ⟨rfl, _⟩ | ⟨_, b', cap', us, T, e', _⟩
    · rfl
    · rw [e] at e'; cases e'
  have empty : ∀ (ad : Addr) (cap : Nat), VI w (Bad A' m') (.sl false false sz []) (.slice (some ad) 0 cap) := fun ad cap =>
    .sl false sz [] ad cap (fun _ => Go.undef) (fun h => by simp at h) (fun h => by simp at h) (Nat.zero_le _) (by simp) (by simp) (fun j hj => by simp at hj) (fun j hj => by simp at hj) (fun i e he => by simp at he)
  rcases h3 with ⟨e, rfl, rfl⟩ | ⟨e, rfl, ad, rfl⟩ | ⟨rfl, b, cap, ad, rfl, rfl, k1, k2, k3⟩
  · have := hnil e
    subst this
    simp only [List.take_nil, List.drop_nil]
    exact .sl0 _ _
  · have := hnil e
    subst this
    simp only [List.take_nil, List.drop_nil]
    exact empty ad 0
  · have hbs := (R.lt id b cap hm).1
    rcases Nat.eq_zero_or_pos (hi - lo) with h0 | h0
    · have hn : (es.take hi).drop lo = [] := List.eq_nil_of_length_eq_zero (by rw [hl, h0])
      rw [hn, h0]
      exact empty ad _
    · obtain ⟨_, us, T, hh, q1, q2, q3, hrow⟩ := row_obj R hσ hm
      have ha := k3 (by omega)
      subst ha
      have hrow' := (hrow.cut lo hi).mov M
      have hin : hi * sz ≤ es.length * sz := Nat.mul_le_mul_right _ h2
      have hll := hrow'.1
      refine hl ▸ .sl false sz _ ⟨b, lo * sz, none⟩ (cap - lo) (fun j => (((us.toList.take (es.length * sz)).take (hi * sz)).drop (lo * sz)).getD j Go.undef) (fun _ => hb b cap hm) (fun _ => hbs) (by rw [hl]; omega) (by simp) hrow'.2.1 (fun j hj => ?_) (fun j hj => ?_) fun i e he r v hv => ?_
      · have hj' : j < (((us.toList.take (es.length * sz)).take (hi * sz)).drop (lo * sz)).length := by rw [hll]; exact hj
        refine cells_at hh (lo * sz) j _ ?_
        have := List.getElem?_eq_getElem hj'
        rw [List.getD_eq_getElem?_getD, this]
        rw [List.getElem?_drop, List.getElem?_take] at this
        split at this
        · rw [List.getElem?_take] at this
          split at this
          · rw [List.getElem?_drop]; exact this
          · cases this
        · cases this
      · have hj' : j < (((us.toList.take (es.length * sz)).take (hi * sz)).drop (lo * sz)).length := by rw [hll]; exact hj
        rw [List.getD_eq_getElem?_getD, List.getElem?_eq_getElem hj']
        exact hrow'.2.2.1 _ (List.getElem_mem _)
      · obtain ⟨u, hu, hi'⟩ := hrow'.2.2.2 i e he r v hv
        rw [List.getD_eq_getElem?_getD, hu]
        exact hi'

section fz
variable {A' : Nat → Prop} {n : Nat}

theorem not_bad_take (R : Rel A m σ w) (hA : ∀ b, A' b → A b) {id b c : Nat} (hid : n ≤ id) (h : m[id]? = some (some (b, c))) : ¬ Bad A' (m.take n) b := by
  rintro (hb | ⟨i, d, hi⟩)
  · exact (R.lt id b c h).2 (hA b hb)
  · obtain ⟨h1, h2⟩ := of_take hi
    have := R.inj i id b d c h2 h
    omega

theorem blt_false {a b : Nat} (h : Nat.blt a b = false) : b ≤ a := by
  rcases Nat.lt_or_ge a b with h' | h'
  · have : Nat.blt a b = true := Nat.ble_eq_true_of_le h'
    rw [h] at this; cases this
  · exact h'
theorem blt_true {a b : Nat} (h : Nat.blt a b = true) : a < b := Nat.le_of_ble_eq_true h

theorem fz0_VR (R : Rel A m σ w) (hA : ∀ b, A' b → A b) {v : V} {u : Value} (h : VR A m σ w v u) (hs : Sc n (fz0 n σ v)) : VR A' (m.take n) (σ.take n) w (fz0 n σ v) u := by
  have M : Mov A m w A' (m.take n) w := Mov.take fun b hb => .inl (hA b hb)
  have same : fz0 n σ v = v → VR A' (m.take n) (σ.take n) w (fz0 n σ v) u := fun e => by
    rw [e] at hs ⊢
    exact h.take (fun b hb => .inl (hA b hb)) hs
  cases v <;> try exact same rfl
  case ptr id off =>
    cases hb : Nat.blt id n with
    | true => exact same (by simp [fz0, hb])
    | false =>
      have hid := blt_false hb
      simp only [fz0, hb, cond_false]
      split
      · rename_i cs hσ
        cases hall : cs.all imm1 with
        | false => exact .imm _ _ (.undef _)
        | true =>
          simp only [cond_true]
          obtain ⟨b, c, hm, rfl⟩ := h.ptr_inv hσ
          obtain ⟨b', c', us, T, e, hh, hv⟩ := R.objs id _ _ hσ hm
          cases e
          have hsz := hv.toList
          refine .imm _ _ (.ip _ _ (fun j => (us.toList.drop off).getD j Go.undef) (fun _ => not_bad_take R hA hid hm) (fun _ => (R.lt id b c hm).1) (fun j hj => ?_) fun r v hr => ?_)
          · have hj' : j < (us.toList.drop off).length := by simp at hj ⊢; omega
            refine cells_at hh off j _ ?_
            rw [List.getD_eq_getElem?_getD, List.getElem?_eq_getElem hj']
            rfl
          · have hr' : r < (us.toList.drop off).length := by have := lt_of_some hr; simp at this ⊢; omega
            rw [List.getD_eq_getElem?_getD, List.getElem?_eq_getElem hr']
            have hvr := (hv.drop off).2 r v _ hr (List.getElem?_eq_getElem hr')
            exact (imm1_VI (List.all_eq_true.1 hall v (List.mem_of_mem_drop (List.mem_of_getElem? hr))) hvr).mov M
      · exact .imm _ _ (.undef _)
  case eptr id g i off =>
    cases hb : Nat.blt id n with
    | true => exact same (by simp [fz0, hb])
    | false => simp only [fz0, hb, cond_false]; exact .imm _ _ (.undef _)
  case mp id =>
    cases hb : Nat.blt id n with
    | true => exact same (by simp [fz0, hb])
    | false =>
      have hid := blt_false hb
      simp only [fz0, hb, cond_false]
      split
      · rename_i l hσ
        cases hall : l.all (fun kv => immV kv.1 && immV kv.2) with
        | false => exact .imm _ _ (.undef _)
        | true =>
          simp only [cond_true]
          obtain ⟨b, c, hm, rfl⟩ := h.mp_inv hσ
          obtain ⟨b', c', ents, e, hh, hl, hv⟩ := R.objs id _ _ hσ hm
          cases e
          have hi : ∀ (i : Nat) kv, l[i]? = some kv → immV kv.1 = true ∧ immV kv.2 = true := fun i kv hq => by
            have := List.all_eq_true.1 hall kv (List.mem_of_getElem? hq)
            simpa using this
          exact .imm _ _ (.im l b ents (not_bad_take R hA hid hm) (R.lt id b c hm).1 hh hl (fun i kv e h1 h2 => (immV_VI (hi i kv h1).1 (hv i kv e h1 h2).1).mov M)
            (fun i kv e h1 h2 => (immV_VI (hi i kv h1).2 (hv i kv e h1 h2).2.1).mov M) fun i kv e h1 h2 => (hv i kv e h1 h2).2.2)
      · exact .imm _ _ (.undef _)
  case rsl id g lo hi =>
    cases hb : Nat.blt id n with
    | true => exact same (by simp [fz0, hb])
    | false =>
      have hid := blt_false hb
      simp only [fz0, hb, cond_false]
      split
      · rename_i nl g0 sz es hσ
        cases hg : Nat.beq g g0 with
        | false => exact .imm _ _ (.undef _)
        | true =>
          have := Nat.eq_of_beq_eq_true hg
          subst this
          exact .imm _ _ (frz_row R hσ h M fun b c hm => not_bad_take R hA hid hm)
      · exact .imm _ _ (.undef _)

theorem map_VRs {f : V → V} {A1 : Nat → Prop} {m1 : Mp} {σ1 : St} {vs : List V} {us : List Value} (h : VRs A m σ w vs us) (hf : ∀ v u, v ∈ vs → VR A m σ w v u → VR A1 m1 σ1 w (f v) u) : VRs A1 m1 σ1 w (vs.map f) us := by
  refine ⟨by simp [h.1], fun i v u h1 h2 => ?_⟩
  rw [List.getElem?_map] at h1
  cases hq : vs[i]? with
  | none => rw [hq] at h1; cases h1
  | some q =>
    rw [hq] at h1
    simp at h1
    subst h1
    exact hf q u (List.mem_of_getElem? hq) (h.2 i q u hq h2)

theorem VRs.mkAgg {vs : List V} {us : Array Value} (h : VRs A m σ w vs us.toList) : VR A m σ w (.agg vs) (.agg us) := .agg _ _ (by simpa using h.1) fun i v u h1 h2 => h.2 i v u h1 (by simpa using h2)
theorem VRs.mkTup {vs : List V} {us : Array Value} (h : VRs A m σ w vs us.toList) : VR A m σ w (.tup vs) (.tuple us) := .tup _ _ (by simpa using h.1) fun i v u h1 h2 => h.2 i v u h1 (by simpa using h2)

theorem fz1_VR (R : Rel A m σ w) (hA : ∀ b, A' b → A b) {v : V} {u : Value} (h : VR A m σ w v u) (hs : Sc n (fz1 n σ v)) : VR A' (m.take n) (σ.take n) w (fz1 n σ v) u := by
  cases v with
  | fn f xs ys =>
    obtain ⟨us, ts, rfl, h1, h2⟩ := h.fn_inv
    simp only [fz1] at hs ⊢
    cases hs with
    | fn _ _ _ hs hs' =>
      have k1 := map_VRs h1 (f := fz0 n σ) fun v u hv hr => fz0_VR R hA hr (hs _ (List.mem_map_of_mem hv))
      have k2 := map_VRs h2 (f := fz0 n σ) fun v u hv hr => fz0_VR R hA hr (hs' _ (List.mem_map_of_mem hv))
      exact .fn _ _ _ _ _ (by simpa using k1.1) (by simpa using k2.1) (fun i v u h1 h2 => k1.2 i v u h1 (by simpa using h2)) fun i v u h1 h2 => k2.2 i v u h1 (by simpa using h2)
  | _ => exact fz0_VR R hA h hs

theorem fzV_VR (R : Rel A m σ w) (hA : ∀ b, A' b → A b) {v : V} {u : Value} (h : VR A m σ w v u) (hs : Sc n (fzV n σ v)) : VR A' (m.take n) (σ.take n) w (fzV n σ v) u := by
  cases v with
  | agg cs =>
    obtain ⟨us, rfl, h1⟩ := h.agg_inv
    simp only [fzV] at hs ⊢
    cases hs with
    | agg _ hs => exact (map_VRs h1 fun v u hv hr => fz1_VR R hA hr (hs _ (List.mem_map_of_mem hv))).mkAgg
  | tup cs =>
    obtain ⟨us, rfl, h1⟩ := h.tup_inv
    simp only [fzV] at hs ⊢
    cases hs with
    | tup _ hs =>
      refine (map_VRs h1 fun v u hv hr => ?_).mkTup
      have hsv := hs _ (List.mem_map_of_mem hv)
      cases v with
      | agg ds =>
        obtain ⟨ts, rfl, h2⟩ := hr.agg_inv
        simp only at hsv ⊢
        cases hsv with
        | agg _ hsv => exact (map_VRs h2 fun v u hv hr => fz1_VR R hA hr (hsv _ (List.mem_map_of_mem hv))).mkAgg
      | _ => exact fz1_VR R hA hr hsv
  | ifc t v =>
    cases h with
    | imm _ _ h =>
      cases h with
      | ifc _ _ u h =>
        simp only [fzV] at hs ⊢
        cases hs with
        | ifc _ _ hs => exact .ifc t _ u (fz1_VR R hA (.imm _ _ h) hs)
    | ifc _ _ u h =>
      simp only [fzV] at hs ⊢
      cases hs with
      | ifc _ _ hs => exact .ifc t _ u (fz1_VR R hA h hs)
  | _ => exact fz1_VR R hA h hs

end fz

/-- What is asked at a function's end. -/
def vfin (σ : St) (r : V) (σ' : St) (K : V → St → Prop) : Prop :=
  (scV σ.length (fzV σ.length σ' r) = true) ∧ (∀ (i : Nat) o, i < σ.length → σ'[i]? = some o → σ[i]? = some o ∨ refO σ.length o = true) ∧ K (fzV σ.length σ' r) (σ'.take σ.length)

end fin
end Go.VL

/- Functions. Conditions: the table of types tells the program's own rows (TabOK). -/
namespace Go.VL

theorem scV_sc {n : Nat} {v : V} (h : scV n v = true) : Sc n v := by
  cases v with
  | agg cs => exact .agg cs fun v hv => ref1_sc (List.all_eq_true.1 h v hv)
  | ifc t v => exact .ifc t v (ref1_sc h)
  | tup cs =>
    refine .tup cs fun v hv => ?_
    have hk := List.all_eq_true.1 h v hv
    cases v with
    | agg ds => exact .agg ds fun v hv => ref1_sc (List.all_eq_true.1 hk v hv)
    | ifc t v => exact .ifc t v (ref1_sc hk)
    | _ => exact ref1_sc hk
  | _ => exact ref1_sc h

/-- The frame that a function is entered with. -/
def fr0 : Nat → List V → Fr
  | _, [] => []
  | k, v :: vs => (k, v) :: fr0 (k + 1) vs

theorem lk_fr0 : ∀ (vs : List V) (k t : Nat), lk (fr0 k vs) t = if k ≤ t then (vs[t - k]?).getD .undef else .undef
  | [], k, t => by simp [fr0, lk]
  | v :: vs, k, t => by
    rw [fr0, lk_cons, lk_fr0 vs (k + 1) t]
    by_cases e : k = t
    · subst e
      simp
    · rw [if_neg e]
      by_cases h : k ≤ t
      · rw [if_pos h, if_pos (by omega)]
        obtain ⟨i, hi⟩ : ∃ i, t - k = i + 1 := ⟨t - k - 1, by omega⟩
        rw [hi, show t - (k + 1) = i by omega]
        simp
      · rw [if_neg h, if_neg (by omega)]

def vend (C : Cfg) (rs : List ResultVar) (σ : St) (K : V → St → Prop) : Exit → Fr → St → Prop
  | .normal, fr', σ' => vresL C fr' σ' rs fun vs => vfin σ (packV vs) σ' K
  | .ret, fr', σ' => vresL C fr' σ' rs fun vs => vfin σ (packV vs) σ' K
  | _, _, _ => False

theorem pA_none (A : Nat → Prop) : pA A (fun _ => none) = A := by
  funext b
  exact propext ⟨fun h => h.elim id fun ⟨_, h⟩ => (by cases h), .inl⟩

theorem vcalls_intro {C : Cfg} (tok : TabOK C) {f : FuncId} {fn : Func} {c : Code} {args : List V} {σ : St} {K : V → St → Prop} (hf : C.P.funcs[f]? = some fn) (hb : fn.body = some c) (hname : (fn.name == "runtime.NumGoroutine") = false) (hok : okCode fn.ntmps c = true)
    (hlen : Nat.ble args.length fn.ntmps = true) {rs : List ResultVar} (hrs : fn.results.toList = rs) (h : vwp C σ c (fr0 0 args) σ (vend C rs σ K)) : VCalls C.P f args σ K := by
  subst hrs
  refine ⟨⟨fn, hf, by rw [hb]; rfl, hname⟩, fun A m w us hR hv => callsIn_wide.1 (callsIn_of_wp_marks (n := 0) hf hb trivial ?_)⟩
  have hlen' : args.length ≤ fn.ntmps := Nat.le_of_ble_eq_true hlen
  have hus : us.length = args.length := hv.1
  have F : Frm A m σ w fn.ntmps (fr0 0 args) σ { tmps := us.toArray ++ Array.replicate (fn.ntmps - us.toArray.size) Go.undef, defers := [] } w m (fun _ => none) := by
    refine ⟨by simp; omega, DefOK.nil, by rw [pA_none]; exact hR, fun t ht => ?_, fun t ht => ?_, fun s t b h => (by cases h), fun t b h => (by cases h), Ext.refl m σ w⟩
    · rw [lk_fr0, pA_none]
      simp only [Nat.zero_le, if_true, Nat.sub_zero]
      cases hq : args[t]? with
      | none => exact .imm _ _ (.undef _)
      | some v =>
        have hlt := lt_of_some hq
        have hu : us[t]? = some us[t] := List.getElem?_eq_getElem (by omega)
        have hr := hv.2 t v _ hq hu
        simp only [Option.getD_some]
        rw [SlotR_val hr.isVal]
        have : (us.toArray ++ Array.replicate (fn.ntmps - us.toArray.size) Go.undef).getD t Go.undef = us[t] := by
          rw [Array.getD_eq_getD_getElem?, Array.getElem?_append_left (by simp; omega)]
          simp [hu]
        rw [this]
        exact hr
    · rw [lk_fr0]
      simp only [Nat.zero_le, if_true, Nat.sub_zero]
      rw [List.getElem?_eq_none (by omega)]
      rfl
  have key : ∀ (fr' : Fr) (σ' : St) (a' : Act) (w' : World), FRel A m σ w fn.ntmps fr' σ' a' w' → (vresL C fr' σ' fn.results.toList fun vs => vfin σ (packV vs) σ' K) →
      LeavesInM Fence.wide 0 C.P fn a'.tmps (fun e w' => ∃ r u m' σ', e = .returned u ∧ VR A m' σ' w' r u ∧ Rel A m' σ' w' ∧ Ext m σ w m' σ' w' ∧ K r σ') a'.defers .returning w' := by
    rintro fr' σ' a' w' ⟨m', pb, F'⟩ hres
    refine Frm.leaves a'.defers w' F' fun w' F' => ?_
    obtain ⟨v, u, ⟨h1, h2, h3⟩, hr, hrun⟩ := results_run tok F' (K := fun r => vfin σ r σ' K) hres
    exact ⟨u, hrun, _, u, _, _, rfl, fzV_VR F'.rel (fun b hb => .inl hb) hr (scV_sc h1), F'.rel.drop (fun b hb => .inl hb) (sc_objs hR (Nat.le_refl _) h2), F'.ext.drop (Nat.le_refl _), h3⟩
  refine vwp_sound tok c none A m σ w fn.ntmps hR (.inl rfl) _ _ _ _ _ _ hok ⟨m, _, F⟩ h fun e fr' σ' a' w' F' h' => ?_
  cases e with
  | normal => exact key fr' σ' a' w' F' h'
  | ret => exact key fr' σ' a' w' F' h'
  | _ => exact h'.elim

theorem vfin_same (σ : St) (r : V) (K : V → St → Prop) : vfin σ r σ K ↔ (scV σ.length (fzV σ.length σ r) = true ∧ K (fzV σ.length σ r) σ) := by
  unfold vfin
  rw [List.take_length]
  exact ⟨fun h => ⟨h.1, h.2.2⟩, fun h => ⟨h.1, fun i o _ ho => .inl ho, h.2⟩⟩

theorem vfin_app (σ js : St) (r : V) (K : V → St → Prop) : vfin σ r (σ ++ js) K ↔ (scV σ.length (fzV σ.length (σ ++ js) r) = true ∧ K (fzV σ.length (σ ++ js) r) σ) := by
  unfold vfin
  rw [List.take_left]
  exact ⟨fun h => ⟨h.1, h.2.2⟩, fun h => ⟨h.1, fun i o hi ho => .inl (by rwa [List.getElem?_append_left hi] at ho), h.2⟩⟩

theorem blt_self (n : Nat) : Nat.blt n n = false := by
  cases h : Nat.blt n n with
  | false => rfl
  | true => exact absurd (blt_true h) (Nat.lt_irrefl n)
theorem blt_add (n k : Nat) : Nat.blt (n + k) n = false := by
  cases h : Nat.blt (n + k) n with
  | false => rfl
  | true => have := blt_true h; omega
theorem get_at {α : Type} (l r : List α) : (l ++ r)[l.length]? = r[0]? := by rw [List.getElem?_append_right (Nat.le_refl _), Nat.sub_self]
theorem get_add {α : Type} (l r : List α) (k : Nat) : (l ++ r)[l.length + k]? = r[k]? := by rw [List.getElem?_append_right (Nat.le_add_right _ _), Nat.add_sub_cancel_left]
theorem set_at {α : Type} (l r : List α) (x : α) : (l ++ r).set l.length x = l ++ r.set 0 x := by rw [List.set_append_right _ _ (Nat.le_refl _), Nat.sub_self]
theorem set_add {α : Type} (l r : List α) (k : Nat) (x : α) : (l ++ r).set (l.length + k) x = l ++ r.set k x := by rw [List.set_append_right _ _ (Nat.le_add_right _ _), Nat.add_sub_cancel_left]
/-! Rules -/

section rules
variable {C : Cfg} {σ0 : St} {fr : Fr} {σ : St} {Q : Exit → Fr → St → Prop}

theorem w_skip : vwp C σ0 .skip fr σ Q = Q .normal fr σ := rfl
theorem w_exit (id : Nat) : vwp C σ0 (.exit id) fr σ Q = Q (.exit id) fr σ := rfl
theorem w_ret : vwp C σ0 .ret fr σ Q = Q .ret fr σ := rfl
theorem w_region (id : Nat) (ops : Array Oper) : vwp C σ0 (.region id ops false) fr σ Q = vops C ops.toList ops.toList fr σ (Q .normal) := rfl

def kSeq (C : Cfg) (σ0 : St) (b : Code) (Q : Exit → Fr → St → Prop) : Exit → Fr → St → Prop
  | .normal, fr, σ => vwp C σ0 b fr σ Q
  | e, fr, σ => Q e fr σ
def kBlock (id : Nat) (Q : Exit → Fr → St → Prop) : Exit → Fr → St → Prop
  | .exit id', fr, σ => bif Nat.beq id' id then Q .normal fr σ else Q (.exit id') fr σ
  | e, fr, σ => Q e fr σ

theorem w_seq (a b : Code) : vwp C σ0 (.seq a b) fr σ Q = vwp C σ0 a fr σ (kSeq C σ0 b Q) := by
  show vwp C σ0 a fr σ _ = _
  congr 1
  funext e fr σ
  cases e <;> rfl
theorem w_block (id : Nat) (a : Code) : vwp C σ0 (.block id a) fr σ Q = vwp C σ0 a fr σ (kBlock id Q) := by
  show vwp C σ0 a fr σ _ = _
  congr 1
  funext e fr σ
  cases e <;> rfl
def vcond (C : Cfg) (σ0 : St) (t e : Code) (fr : Fr) (σ : St) (Q : Exit → Fr → St → Prop) : V → Prop
  | .bool b => bif b then vwp C σ0 t fr σ Q else vwp C σ0 e fr σ Q
  | _ => False
theorem w_cond (x : Operand) (t e : Code) : vwp C σ0 (.cond x t e) fr σ Q = vcond C σ0 t e fr σ Q (opv fr x) := by
  show (match opv fr x with | .bool b => bif b then vwp C σ0 t fr σ Q else vwp C σ0 e fr σ Q | _ => False) = _
  unfold vcond
  cases opv fr x <;> rfl

theorem w_draw {id : Nat} {ops : Array Oper} (tl plan : List Nat) (h : planOK ops.toList tl plan = true) (hr : vrun C ops.toList tl plan [] (blanks (qdsts ops.toList tl) ++ fr) σ fun fr' σ' => ∃ fr'' σ'', Ghost σ0 fr' σ' fr'' σ'' ∧ Q .normal fr'' σ'') : vwp C σ0 (.region id ops true) fr σ Q := by
  show (bif true then _ else _)
  exact ⟨[], List.nodup_nil, fun τ hτ => by rw [hτ.eq_nil]; exact ⟨tl, plan, h, hr⟩⟩
/-- The same, where some changes come in any order. -/
theorem w_drawAny {id : Nat} {ops : Array Oper} (S : List Nat) (hS : S.Nodup) (hr : ∀ τ : List Nat, τ.Perm S → ∃ tl plan, planOK (chainO τ ops.toList) tl plan = true ∧ vrun C (chainO τ ops.toList) tl plan [] (blanks (qdsts (chainO τ ops.toList) tl) ++ fr) σ fun fr' σ' => ∃ fr'' σ'', Ghost σ0 fr' σ' fr'' σ'' ∧ Q .normal fr'' σ'') : vwp C σ0 (.region id ops true) fr σ Q := by
  show (bif true then _ else _)
  exact ⟨S, hS, hr⟩

/-- Slots that hold these values. -/
def Keeps : Fr → Fr → Prop
  | [], _ => True
  | p :: r, fr => lk fr p.1 = p.2 ∧ Keeps r fr

theorem keeps_lk : ∀ {l fr : Fr}, Keeps l fr → ∀ t, lk l t = lk fr t ∨ lk l t = .undef
  | [], _, _, t => .inr rfl
  | (d, v) :: r, fr, h, t => by
    rw [lk_cons]
    by_cases e : d = t
    · rw [if_pos e]
      exact .inl (by rw [← e]; exact h.1.symm)
    · rw [if_neg e]
      exact keeps_lk h.2 t

theorem keeps_ghost {l fr : Fr} (h : Keeps l fr) (σ : St) : Ghost σ0 fr σ l σ := .frame _ _ _ (keeps_lk h)

/-- A loop's invariant, told by what goes round. -/
def LI {α : Type} (P : α → Prop) (F : α → Fr) (S : α → St) (μ : α → Nat) : Nat → Fr → St → Prop := fun n fr σ => ∃ x, P x ∧ μ x = n ∧ fr = F x ∧ σ = S x

theorem w_loop {α : Type} {c : Code} (P : α → Prop) (F : α → Fr) (S : α → St) (μ : α → Nat) (x0 : α) (h0 : P x0) (k0 : Keeps (F x0) fr) (s0 : σ = S x0) (round : ∀ x, P x → vwp C σ0 c (F x) (S x) (lpost σ0 (LI P F S μ) (μ x) Q)) : vwp C σ0 (.loop c) fr σ Q := by
  refine ⟨LI P F S μ, ⟨_, _, _, keeps_ghost k0 σ, x0, h0, rfl, rfl, s0⟩, ?_⟩
  rintro n fr' σ' ⟨x, hx, rfl, rfl, rfl⟩
  exact round x hx

theorem l_next {α : Type} {P : α → Prop} {F : α → Fr} {S : α → St} {μ : α → Nat} {n : Nat} (y : α) (hy : P y) (hm : μ y < n) (hk : Keeps (F y) fr) (hs : σ = S y) : lpost σ0 (LI P F S μ) n Q .normal fr σ :=
  ⟨μ y, _, _, keeps_ghost hk σ, ⟨y, hy, rfl, rfl, hs⟩, hm⟩
theorem l_exit {I : Nat → Fr → St → Prop} {n id : Nat} (h : Q (.exit id) fr σ) : lpost σ0 I n Q (.exit id) fr σ := ⟨_, _, .refl _ _, h⟩
theorem l_ret {I : Nat → Fr → St → Prop} {n : Nat} (h : Q .ret fr σ) : lpost σ0 I n Q .ret fr σ := ⟨_, _, .refl _ _, h⟩
end rules
theorem beq_self_nat (n : Nat) : Nat.beq n n = true := Nat.beq_refl n

end Go.VL
