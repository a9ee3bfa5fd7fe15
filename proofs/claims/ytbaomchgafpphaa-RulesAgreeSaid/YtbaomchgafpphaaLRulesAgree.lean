/- RulesAgree: at every rule, every row of options and every number of refusals the law answers true, and leaves its arguments as they were. Conditions: none. -/
import Derived.Test.YtbaomchgafpphaaSSd
import Derived.Test.YtbaomchgafpphaaSSc
set_option linter.unusedVariables false
set_option linter.unusedSimpArgs false
/- The law RulesAgree, over values: plain facts. Conditions: none. -/
namespace Go.VL
open Go.Proofs

/-- No type twice. -/
def nodupT (l : List OV) : Prop := l.Pairwise fun a b => a.t ≠ b.t

theorem findO_none_iff {l : List OV} {t : UInt8} : findO l t = none ↔ ∀ x ∈ l, x.t ≠ t := by
  rw [findO_eq, List.find?_eq_none]
  exact ⟨fun h x hx => by simpa using h x hx, fun h x hx => by simpa using h x hx⟩
theorem nodupT_take {l : List OV} {i : Nat} (h : i < l.length) (hp : nodupT (l.take i)) (hf : findO (l.take i) l[i].t = none) : nodupT (l.take (i + 1)) := by
  unfold nodupT at hp ⊢
  rw [List.take_succ_eq_append_getElem h, List.pairwise_append]
  refine ⟨hp, by simp, fun a ha b hb => ?_⟩
  simp at hb
  subst hb
  exact findO_none_iff.1 hf a ha

theorem none_iff {l : List OV} {t : UInt8} : noneO (fun x => x.t == t) l = true ↔ ∀ x ∈ l, x.t ≠ t := by
  unfold noneO
  rw [List.all_eq_true]
  exact ⟨fun h x hx => by have := h x hx; simpa using this, fun h x hx => by have := h x hx; simpa using this⟩

/-- What is in a row behind a put. -/
theorem put_mem {l : List OV} {o y : OV} (h : nodupT l) (hy : y ∈ putO l o) : y = o ∨ (y ∈ l ∧ y.t ≠ o.t) := by
  rcases idx_cases (fun x => x.t == o.t) l with hn | ⟨i, hi, hn, hp⟩
  · rw [putO_none hn] at hy
    rcases List.mem_append.1 hy with hy | hy
    · exact .inr ⟨hy, none_iff.1 hn y hy⟩
    · exact .inl (by simpa using hy)
  · rw [putO_at hi hn hp] at hy
    obtain ⟨j, hj, rfl⟩ := List.mem_iff_getElem.1 hy
    rw [List.getElem_set]
    split
    · exact .inl rfl
    · rename_i hne
      have hj' : j < l.length := by simpa using hj
      refine .inr ⟨List.getElem_mem hj', fun he => ?_⟩
      have hpi : l[i].t = o.t := by simpa using hp
      rcases Nat.lt_or_ge i j with hlt | hge
      · exact List.pairwise_iff_getElem.1 h i j hi hj' hlt (by rw [hpi, he])
      · exact List.pairwise_iff_getElem.1 h j i hj' hi (by omega) (by rw [hpi, he])
theorem put_nodup {l : List OV} {o : OV} (h : nodupT l) : nodupT (putO l o) := by
  rcases idx_cases (fun x => x.t == o.t) l with hn | ⟨i, hi, hn, hp⟩
  · rw [putO_none hn]
    unfold nodupT
    rw [List.pairwise_append]
    refine ⟨h, by simp, fun a ha b hb => ?_⟩
    simp at hb
    subst hb
    exact none_iff.1 hn a ha
  · rw [putO_at hi hn hp]
    unfold nodupT
    rw [List.pairwise_iff_getElem]
    have hpi : l[i].t = o.t := by simpa using hp
    intro a b ha hb hab
    have ha' : a < l.length := by simpa using ha
    have hb' : b < l.length := by simpa using hb
    have hl := List.pairwise_iff_getElem.1 h a b ha' hb' hab
    rw [List.getElem_set, List.getElem_set]
    split
    · rename_i e
      subst e
      rw [if_neg (by omega), ← hpi]
      exact hl
    · split
      · rename_i e
        subst e
        rw [← hpi]
        exact hl
      · exact hl
theorem put_len (l : List OV) (o : OV) : l.length ≤ (putO l o).length ∧ (putO l o).length ≤ l.length + 1 ∧ 0 < (putO l o).length := by
  rcases idx_cases (fun x => x.t == o.t) l with hn | ⟨i, hi, hn, hp⟩
  · rw [putO_none hn]; simp
  · rw [putO_at hi hn hp]; simp; omega

/-- Puts, one behind the other. -/
def putAll (l : List OV) (ms : List OV) : List OV := ms.foldl putO l
theorem putAll_take {l ms : List OV} {i : Nat} (h : i < ms.length) : putAll l (ms.take (i + 1)) = putO (putAll l (ms.take i)) ms[i] := by
  unfold putAll
  rw [List.take_succ_eq_append_getElem h, List.foldl_append]
  rfl
theorem putAll_nodup {l : List OV} (h : nodupT l) : ∀ ms : List OV, nodupT (putAll l ms) := by
  intro ms
  induction ms generalizing l with
  | nil => exact h
  | cons m ms ih => exact ih (put_nodup h)
theorem putAll_mem {y : OV} : ∀ {l : List OV} (ms : List OV), nodupT l → y ∈ putAll l ms → y ∈ ms ∨ (y ∈ l ∧ ∀ m ∈ ms, y.t ≠ m.t)
  | l, [], _, hy => .inr ⟨hy, fun m hm => by cases hm⟩
  | l, m :: ms, h, hy => by
    rcases putAll_mem ms (put_nodup (o := m) h) hy with h1 | ⟨h1, h2⟩
    · exact .inl (by simp [h1])
    · rcases put_mem h h1 with rfl | ⟨h3, h4⟩
      · exact .inl (by simp)
      · refine .inr ⟨h3, fun x hx => ?_⟩
        rcases List.mem_cons.1 hx with rfl | hx
        · exact h4
        · exact h2 x hx
theorem putAll_len {l : List OV} : ∀ (ms : List OV), l.length ≤ (putAll l ms).length ∧ (putAll l ms).length ≤ l.length + ms.length ∧ (ms ≠ [] → 0 < (putAll l ms).length) := by
  intro ms
  induction ms generalizing l with
  | nil => exact ⟨Nat.le_refl _, by simp [putAll], fun h => absurd rfl h⟩
  | cons m ms ih =>
    obtain ⟨h1, h2, h3⟩ := put_len l m
    obtain ⟨h4, h5, _⟩ := ih (l := putO l m)
    refine ⟨Nat.le_trans h1 h4, ?_, fun _ => Nat.lt_of_lt_of_le h3 h4⟩
    simp only [List.length_cons]
    have : putAll l (m :: ms) = putAll (putO l m) ms := rfl
    rw [this]
    omega

theorem kOf_fix {r : RV} {o : OV} {k : KV} (h : kOf r o.t = some k) (hm : (r.magic == r.other) = false) (h0 : (r.other == 0) = false) (hn : notO r o = true) : isK r (fixO r o) = true ∧ notO r (fixO r o) = false ∧ (fixO r o).t = o.t := by
  have hfx : fixO r o = numO o.t k.long k.should := by unfold fixO; rw [h]
  have ht : (fixO r o).t = o.t := by rw [hfx]; rfl
  have hkl := kOf_long h
  have hlen : (fixO r o).d.length = k.long := by rw [hfx]; simp [numO, fourB_length]; omega
  refine ⟨?_, ?_, ht⟩
  · unfold isK
    rw [ht, h, hlen]
    simp
  · unfold notO at hn ⊢
    rw [ht, h]
    rw [h] at hn
    simp only at hn ⊢
    rw [hfx]
    unfold kOf at h
    cases hi : r.ip <;> rw [hi] at h <;> simp only [cond_true, cond_false] at h
    · cases h1 : o.t == 1 <;> rw [h1] at h
      · cases h2 : o.t == 2 <;> rw [h2] at h
        · cases h5 : o.t == 5 <;> rw [h5] at h
          · cases h7 : o.t == 7 <;> rw [h7] at h
            · cases h8 : o.t == 8 <;> rw [h8] at h
              · cases h
              · cases h; cases hn
            · cases h; cases hn
          · cases h
            show (numU (fourB r.other) == 0 || numU (fourB r.other) == r.magic) = false
            rw [numU_fourB, h0, Bool.false_or]
            have : ¬ r.other = r.magic := fun e => by rw [e] at hm; simp at hm
            simpa using this
        · cases h; cases hn
      · cases h; rfl
    · cases h3 : o.t == 3 <;> rw [h3] at h
      · cases h
      · cases h
        show (numU (fourB r.addr) != r.addr) = false
        rw [numU_fourB]
        simp

/-- What we answer with a Nak, put in the place of what was asked for, is agreed to. -/
theorem agree_nak {r : RV} {l : List OV} {naks : Int} (hnd : nodupT l) (hm : (r.magic == r.other) = false) (h0 : (r.other == 0) = false) (h : (ansP r l naks).1 = 3) :
    naks < 3 ∧ (ansP r l naks).2 = toL r l ∧ ansP r (putAll l (toL r l)) naks = (2, putAll l (toL r l)) := by
  have key : (refL r l (decide (3 ≤ naks))).isEmpty = true ∧ decide (3 ≤ naks) = false ∧ (toL r l).isEmpty = false := by
    unfold ansP at h
    cases h1 : (refL r l (decide (3 ≤ naks))).isEmpty
    · rw [h1] at h; simp at h
    · rw [h1] at h
      cases h2 : decide (3 ≤ naks)
      · rw [h2] at h
        cases h3 : (toL r l).isEmpty
        · exact ⟨rfl, rfl, rfl⟩
        · rw [h3] at h; simp at h
      · rw [h2] at h; simp at h
  obtain ⟨k1, k2, k3⟩ := key
  have hodd : (oddL r l).isEmpty = true := by
    unfold refL at k1
    rw [k2, Bool.false_and] at k1
    exact k1
  have hknown : ∀ o ∈ l, isK r o = true := fun o ho => by
    have := filter_nil hodd ho
    simpa using this
  refine ⟨by have := k2; simp at this; omega, ?_, ansP_of_ok (fun y hy => ?_) fun hi => ?_⟩
  · unfold ansP
    rw [k1, k2, k3]
    rfl
  · rcases putAll_mem _ hnd hy with hy | ⟨hy, hy2⟩
    · unfold toL at hy
      rcases List.mem_append.1 hy with hy | hy
      · obtain ⟨x, hx, rfl⟩ := List.mem_map.1 hy
        obtain ⟨hxl, hxp⟩ := List.mem_filter.1 hx
        simp only [Bool.and_eq_true] at hxp
        cases hk : kOf r x.t with
        | none => have := hxp.1; unfold isK at this; rw [hk] at this; cases this
        | some k =>
          obtain ⟨q1, q2, _⟩ := kOf_fix hk hm h0 hxp.2
          exact ⟨q1, q2⟩
      · cases hb : (r.ip && (l.find? (knownB true)).isNone)
        · rw [hb] at hy; cases hy
        · rw [hb] at hy
          simp at hy
          subst hy
          simp only [Bool.and_eq_true] at hb
          constructor
          · rw [isK_known, hb.1]; rfl
          · unfold notO kOf
            rw [hb.1]
            show (numU (fourB r.addr) != r.addr) = false
            rw [numU_fourB]
            simp
    · refine ⟨hknown y hy, ?_⟩
      cases hn : notO r y with
      | false => rfl
      | true =>
        have hya : y ∈ asL r l := List.mem_filter.2 ⟨hy, by rw [hknown y hy, hn]; rfl⟩
        cases hk : kOf r y.t with
        | none => have := hknown y hy; unfold isK at this; rw [hk] at this; cases this
        | some k =>
          obtain ⟨_, _, q3⟩ := kOf_fix hk hm h0 hn
          have hmem : fixO r y ∈ toL r l := List.mem_append.2 (.inl (List.mem_map_of_mem hya))
          exact absurd q3.symm (hy2 _ hmem)
  · right
    have hne : toL r l ≠ [] := fun e => by rw [e] at k3; cases k3
    have hpos := (putAll_len (l := l) (toL r l)).2.2 hne
    cases hp : putAll l (toL r l) with
    | nil => rw [hp] at hpos; cases hpos
    | cons y ys =>
      have hyk : knownB true y = true := by
        have hy : y ∈ putAll l (toL r l) := by rw [hp]; simp
        have e : isK r y = knownB true y := by rw [isK_known, hi]
        rw [← e]
        rcases putAll_mem _ hnd hy with hy | ⟨hy, _⟩
        · unfold toL at hy
          rcases List.mem_append.1 hy with hy | hy
          · obtain ⟨x, hx, rfl⟩ := List.mem_map.1 hy
            obtain ⟨hxl, hxp⟩ := List.mem_filter.1 hx
            simp only [Bool.and_eq_true] at hxp
            cases hk : kOf r x.t with
            | none => have := hxp.1; unfold isK at this; rw [hk] at this; cases this
            | some k => exact (kOf_fix hk hm h0 hxp.2).1
          · cases hb : (r.ip && (l.find? (knownB true)).isNone)
            · rw [hb] at hy; cases hy
            · rw [hb] at hy
              simp at hy
              subst hy
              rw [isK_known, hi]; rfl
        · exact hknown y hy
      simp [List.find?_cons, hyk]

/-- Drops, one behind the other. -/
def dropAll (l : List OV) (ms : List OV) : List OV := ms.foldl (fun l m => dropO l m.t) l
theorem dropAll_take {l ms : List OV} {i : Nat} (h : i < ms.length) : dropAll l (ms.take (i + 1)) = dropO (dropAll l (ms.take i)) ms[i].t := by
  unfold dropAll
  rw [List.take_succ_eq_append_getElem h, List.foldl_append]
  rfl
theorem dropAll_mem {y : OV} : ∀ {l : List OV} (ms : List OV), y ∈ dropAll l ms → y ∈ l ∧ ∀ m ∈ ms, y.t ≠ m.t
  | l, [], h => ⟨h, fun m hm => by cases hm⟩
  | l, m :: ms, h => by
    obtain ⟨h1, h2⟩ := dropAll_mem ms (l := dropO l m.t) h
    obtain ⟨h3, h4⟩ := List.mem_filter.1 h1
    refine ⟨h3, fun x hx => ?_⟩
    rcases List.mem_cons.1 hx with rfl | hx
    · simpa using h4
    · exact h2 x hx
theorem dropAll_len (l : List OV) : ∀ ms : List OV, (dropAll l ms).length ≤ l.length := by
  intro ms
  induction ms generalizing l with
  | nil => exact Nat.le_refl _
  | cons m ms ih => exact Nat.le_trans (ih (dropO l m.t)) (List.length_filter_le _ _)

/-- What we answer with a Reject is of what was asked for; left out, nothing that isn't known is rejected. -/
theorem agree_rej {r : RV} {l : List OV} {naks : Int} (h : (ansP r l naks).1 = 4) :
    (ansP r l naks).2 ≠ [] ∧ (∀ o ∈ (ansP r l naks).2, o ∈ l) ∧ ∀ next, next = dropAll l (ansP r l naks).2 → (ansP r next naks).1 = 4 → ∀ o ∈ (ansP r next naks).2, isK r o = true := by
  have key : ∀ l', (ansP r l' naks).1 = 4 → (ansP r l' naks).2 = refL r l' (decide (3 ≤ naks)) ∧ (refL r l' (decide (3 ≤ naks))).isEmpty = false := by
    intro l' h
    unfold ansP at h ⊢
    cases h1 : (refL r l' (decide (3 ≤ naks))).isEmpty
    · exact ⟨rfl, rfl⟩
    · rw [h1] at h
      cases h2 : (!decide (3 ≤ naks) && !(toL r l').isEmpty) <;> rw [h2] at h <;> simp at h
  obtain ⟨k1, k2⟩ := key l h
  have sub : ∀ l' big, ∀ o ∈ refL r l' big, o ∈ l' := by
    intro l' big o ho
    unfold refL at ho
    cases hb : (big && (oddL r l').isEmpty) <;> rw [hb] at ho <;> exact (List.mem_filter.1 ho).1
  refine ⟨fun e => (by rw [k1] at e; rw [e] at k2; cases k2), fun o ho => (by rw [k1] at ho; exact sub l _ o ho), ?_⟩
  rintro next rfl h' o ho
  obtain ⟨k3, _⟩ := key _ h'
  rw [k3] at ho
  have hon := sub _ _ o ho
  obtain ⟨h3, h4⟩ := dropAll_mem _ hon
  cases hk : isK r o with
  | true => rfl
  | false =>
    have hodd : o ∈ oddL r l := List.mem_filter.2 ⟨h3, by rw [hk]; rfl⟩
    have hne : (oddL r l).isEmpty = false := by
      cases he : (oddL r l).isEmpty with
      | false => rfl
      | true => rw [List.isEmpty_iff.1 he] at hodd; cases hodd
    have hmem : o ∈ (ansP r l naks).2 := by
      rw [k1]
      unfold refL
      rw [hne, Bool.and_false]
      exact hodd
    exact absurd rfl (h4 o hmem)

end Go.VL

/- The law RulesAgree, over values. Conditions: none. -/
namespace Go.VL
open Go.Proofs

theorem osv_takeN (l : List OV) (i : Nat) : (osv l).take i = osv (l.take i) := by simp [osv, List.map_take]
theorem small_mem {l m : List OV} (h : smallD l) (hm : ∀ o ∈ m, o ∈ l) : smallD m := fun o ho => h o (hm o ho)
theorem putAll_small {l ms : List OV} (hl : smallD l) (hm : smallD ms) : smallD (putAll l ms) := by
  induction ms generalizing l with
  | nil => exact hl
  | cons m ms ih =>
    refine ih (l := putO l m) (fun o ho => ?_) fun o ho => hm o (by simp [ho])
    rcases idx_cases (fun x => x.t == m.t) l with hn | ⟨i, hi, hn, hp⟩
    · rw [putO_none hn] at ho
      rcases List.mem_append.1 ho with ho | ho
      · exact hl o ho
      · simp at ho; subst ho; exact hm _ (by simp)
    · rw [putO_at hi hn hp] at ho
      rcases List.mem_or_eq_of_mem_set ho with ho | rfl
      · exact hl o ho
      · exact hm _ (by simp)

theorem ansP_2 {r : RV} {l : List OV} {naks : Int} (h : (ansP r l naks).1 = 2) : (ansP r l naks).2 = l := by
  unfold ansP at h ⊢
  cases h1 : (refL r l (decide (3 ≤ naks))).isEmpty
  · rw [h1] at h; simp at h
  · rw [h1] at h
    simp only [Bool.not_true, cond_false] at h ⊢
    cases h2 : (!decide (3 ≤ naks) && !(toL r l).isEmpty)
    · rfl
    · rw [h2] at h; simp at h

set_option maxHeartbeats 8000000 in
set_option maxRecDepth 20000 in
theorem c_rulesAgree (r : RV) (nl c : Bool) (l : List OV) (naks : Int) (σ : St) : VCalls Try.prog 8 [rv r, .sl nl c 2 (osv l), .int .i64 naks] σ fun x σ' => x = .bool true ∧ σ' = σ := by
  refine vcalls_intro (C := cfg Try.prog [] [] []) (cfg_ok mixed) Try.func8 rfl rfl rfl rfl rfl ?_
  simp only [go_sem, rv, rvC]
  refine vgo_call rfl rfl rfl rfl (c_shown13 σ) ?_
  simp only [go_sem]
  refine vgo_call rfl rfl rfl rfl (c_few nl c l σ) ?_
  cases hf : few l
  · simp only [go_sem]
  obtain ⟨hl, hd⟩ := few_small hf
  have hl30 := (few_spec hf).1
  simp only [go_sem, toNat32_beq]
  cases hm : r.magic == r.other
  rotate_left
  · simp only [go_sem]
  simp only [go_sem, toNat32_beq0]
  cases h0 : r.other == 0
  rotate_left
  · simp only [go_sem]
  simp only [go_sem]
  refine w_loop (fun i => i ≤ l.length ∧ nodupT (l.take i)) (fun i => [(8, .int .i64 i), (1, .sl nl c 2 (osv l)), (2, .int .i64 naks), (3, .ip (rvC r)), (7, .bool true)]) (fun _ => σ) (fun i => l.length - i) 0 ⟨Nat.zero_le _, List.Pairwise.nil⟩ ?_ rfl ?_
  · simp only [go_sem, rvC]
    rfl
  rintro i ⟨hi, hnd⟩
  rcases Nat.lt_or_ge i l.length with h | h
  · have hw : IntKind.i64.wrap ((i : Int) + 1) = ((i + 1 : Nat) : Int) := wrap_ok (by omega) (by omega)
    have hile : ((i : Nat) : Int) ≤ (l.length : Int) := by omega
    simp only [go_sem, osv_length, h, rvC]
    refine w_walk2 [12, 13] [0, 1, 2, 3, 4, 5, 6, 7, 8, 9, 10, 11, 12, 13, 14] [47, 48, 49, 50, 51, 52, 53, 54, 55, 46, 56, 57, 10] [0, 0, 3, 0, 0, 24, 56, 120, 255, 511, 1023, 1023, 0, 6143, 16383] rfl rfl rfl rfl ?_
    simp only [go_sem, osv_length, h, hile, hi, ov_getD h, osv_takeN]
    refine vdgo_call rfl rfl rfl ?_ (c_rfind nl _ (l.take i) l[i].t (by simp [lim]; omega) σ) ?_
    · cases findO (l.take i) l[i].t <;> rfl
    cases hq : findO (l.take i) l[i].t with
    | none =>
      simp only [go_sem, resO, zeroO]
      refine l_next (i + 1) ⟨h, nodupT_take h hnd hq⟩ (by omega) ?_ rfl
      simp only [go_sem, hw, rvC]
    | some y =>
      simp only [go_sem, resO, ov]
      refine l_ret ?_
      simp only [go_sem]
  · have hn : ¬ (i < l.length) := by omega
    rw [List.take_of_length_le h] at hnd
    simp only [go_sem, osv_length, hn, rvC]
    refine l_exit ?_
    simp only [go_sem]
    refine vgo_call rfl rfl rfl rfl (c_answer r nl c l naks hl hd σ) ?_
    obtain ⟨hal, had⟩ := ansP_small (r := r) (naks := naks) hl hd
    obtain ⟨nl', c', hw⟩ := ansV_form nl c (ansP r l naks)
    have hcode := ansP_code r l naks
    have hnak := agree_nak (r := r) (naks := naks) hnd hm h0
    have hrej := agree_rej (r := r) (l := l) (naks := naks)
    have hack := ansP_2 (r := r) (l := l) (naks := naks)
    simp only [hw, go_sem, toNat_beq2]
    generalize ansP r l naks = X at *
    obtain ⟨code, m⟩ := X
    simp only at *
    rcases hcode with rfl | rfl | rfl
    · have e : ((2 : UInt8) == 2) = true := rfl
      rw [hack rfl]
      simp only [go_sem, e]
      refine vgo_call rfl rfl rfl rfl (c_same' nl c nl' c' l l (Nat.le_of_lt hl) hd σ) ?_
      simp only [go_sem, same_refl]
    · have e2 : ((3 : UInt8) == 2) = false := rfl
      have e3 : ((3 : UInt8) == 3) = true := rfl
      obtain ⟨hk, rfl, hagain⟩ := hnak rfl
      have hml : (toL r l).length ≤ 31 := by
        have h1 := asL_length r l l.length
        rw [List.take_length] at h1
        unfold toL
        cases (r.ip && (l.find? (knownB true)).isNone) <;> simp <;> omega
      have hpl := (putAll_len (l := l) (toL r l)).2.1
      have hlt : decide (naks < 3) = true := by simpa using hk
      have hps := putAll_small hd had
      generalize hmm : toL r l = m at *
      simp only [go_sem, e2, toNat_beq3, e3]
      refine w_loop (fun x : Nat × Bool × Bool => x.1 ≤ m.length) (fun x => [(14, .int .i64 x.1), (12, .sl nl' c' 2 (osv m)), (13, .sl x.2.1 x.2.2 2 (osv (putAll l (m.take x.1)))), (1, .sl nl c 2 (osv l)), (2, .int .i64 naks), (3, .ip (rvC r)), (7, .bool true)]) (fun _ => σ) (fun x => m.length - x.1) (0, nl, c) (Nat.zero_le _) ?_ rfl ?_
      · simp only [go_sem, rvC, putAll, List.foldl_nil]
        rfl
      rintro ⟨j, nx, cx⟩ hj
      simp only at hj
      rcases Nat.lt_or_ge j m.length with h | h
      · have hw : IntKind.i64.wrap ((j : Int) + 1) = ((j + 1 : Nat) : Int) := wrap_ok (by omega) (by omega)
        have hpj := (putAll_len (l := l) (m.take j)).2.1
        have hpj' : (m.take j).length ≤ j := by simp; omega
        simp only [go_sem, osv_length, h, ov_getD h, rvC]
        refine vgo_call rfl rfl rfl rfl (c_rput nx cx (putAll l (m.take j)) m[j] (by unfold lim; omega) σ) ?_
        simp only [go_sem]
        refine l_next (j + 1, false, false) h (by simp only; omega) ?_ rfl
        simp only [go_sem, hw, rvC, putAll_take h]
      · have hn : ¬ (j < m.length) := by omega
        simp only [go_sem, osv_length, hn, rvC]
        rw [List.take_of_length_le h]
        refine l_exit ?_
        simp only [go_sem]
        refine vgo_call rfl rfl rfl rfl (c_answer r nx cx (putAll l m) naks (by unfold lim; omega) hps σ) ?_
        have hv : ansV nx cx (2, putAll l m) = .tup [.int .u8 2, .sl nx cx 2 (osv (putAll l m))] := rfl
        simp only [hagain, hv, go_sem, hlt]
        refine vgo_call rfl rfl rfl rfl (c_same' nx cx nx cx _ _ (by unfold lim; omega) hps σ) ?_
        simp only [go_sem, same_refl]
    · have e2 : ((4 : UInt8) == 2) = false := rfl
      have e3 : ((4 : UInt8) == 3) = false := rfl
      obtain ⟨hne, hsub, hkn⟩ := hrej rfl
      have hmp : (0 : Int) < (m.length : Int) := by
        cases m with
        | nil => exact absurd rfl hne
        | cons x m => simp
      have hml : m.length ≤ 30 ∨ True := .inr trivial
      simp only [go_sem, e2, toNat_beq3, e3]
      refine w_loop (fun x : Nat × Bool × Bool => x.1 ≤ m.length) (fun x => [(17, .int .i64 x.1), (11, .int .u8 4), (12, .sl nl' c' 2 (osv m)), (13, .sl x.2.1 x.2.2 2 (osv (dropAll l (m.take x.1)))), (1, .sl nl c 2 (osv l)), (2, .int .i64 naks), (3, .ip (rvC r)), (7, .bool true)]) (fun _ => σ) (fun x => m.length - x.1) (0, nl, c) (Nat.zero_le _) ?_ rfl ?_
      · simp only [go_sem, rvC, dropAll, List.foldl_nil]
        exact ⟨rfl, rfl⟩
      rintro ⟨j, nx, cx⟩ hj
      simp only at hj
      unfold lim at hal
      rcases Nat.lt_or_ge j m.length with h | h
      · have hw : IntKind.i64.wrap ((j : Int) + 1) = ((j + 1 : Nat) : Int) := wrap_ok (by omega) (by omega)
        have hpj := dropAll_len l (m.take j)
        have hmem := hsub m[j] (List.getElem_mem h)
        have hfs : (findO l m[j].t).isSome = true := by
          rw [findO_eq, List.find?_isSome]
          exact ⟨m[j], hmem, by simp⟩
        simp only [go_sem, osv_length, h, ov_getD h, rvC]
        refine vgo_call rfl rfl rfl (resO_val _) (c_rfind nl c l m[j].t (Nat.le_of_lt hl) σ) ?_
        cases hq : findO l m[j].t with
        | none => rw [hq] at hfs; cases hfs
        | some y =>
          simp only [go_sem, resO, ov, osv_length, h, ov_getD h]
          refine vgo_call rfl rfl rfl rfl (c_rdrop nx cx (dropAll l (m.take j)) m[j].t (by unfold lim at hl ⊢; omega) σ) ?_
          simp only [go_sem, rowO]
          refine l_next (j + 1, (dropO (dropAll l (m.take j)) m[j].t).isEmpty, false) h (by simp only; omega) ?_ rfl
          simp only [go_sem, hw, rvC, dropAll_take h]
      · have hn : ¬ (j < m.length) := by omega
        have hdl := dropAll_len l m
        have hds : smallD (dropAll l m) := fun o ho => hd o (dropAll_mem m ho).1
        simp only [go_sem, osv_length, hn, rvC]
        rw [List.take_of_length_le h]
        refine l_exit ?_
        simp only [go_sem]
        refine vgo_call rfl rfl rfl rfl (c_answer r nx cx (dropAll l m) naks (by omega) hds σ) ?_
        have hkk := hkn _ rfl
        obtain ⟨hal2, had2⟩ := ansP_small (r := r) (l := dropAll l m) (naks := naks) (by omega) hds
        obtain ⟨ny, cy, hw2⟩ := ansV_form nx cx (ansP r (dropAll l m) naks)
        simp only [hw2, go_sem]
        generalize ansP r (dropAll l m) naks = Y at *
        obtain ⟨code2, n⟩ := Y
        simp only at *
        unfold lim at hal2
        refine w_loop (fun i => i ≤ n.length) (fun i => [(22, .int .i64 i), (21, .sl ny cy 2 (osv n)), (20, .int .u8 code2.toNat), (11, .int .u8 4), (12, .sl nl' c' 2 (osv m)), (3, .ip (rvC r)), (7, .bool true)]) (fun _ => σ) (fun i => n.length - i) 0 (Nat.zero_le _) ?_ rfl ?_
        · simp only [go_sem, rvC]
          rfl
        intro k hk
        rcases Nat.lt_or_ge k n.length with h2 | h2
        · have hw : IntKind.i64.wrap ((k : Int) + 1) = ((k + 1 : Nat) : Int) := wrap_ok (by omega) (by omega)
          simp only [go_sem, osv_length, h2, toNat_beq4, rvC]
          cases hc4 : code2 == 4
          · simp only [go_sem]
            refine l_exit ?_
            simp only [go_sem, osv_length, hmp]
          · have hc : code2 = 4 := by simpa using hc4
            have hki := hkk hc n[k] (List.getElem_mem h2)
            rw [isK_known] at hki
            simp only [go_sem]
            refine w_walk2 [] [0, 1, 2, 3, 4, 5, 6, 7] [154, 155, 156, 157, 158, 159, 160, 161] [0, 1, 0, 0, 12, 28, 63, 127] rfl rfl rfl rfl ?_
            simp only [go_sem, osv_length, h2, ov_getD h2]
            refine vdgo_call rfl rfl rfl rfl (c_known r.ip n[k] _) ?_
            simp only [go_sem, hki]
            refine l_next (k + 1) h2 (by omega) ?_ rfl
            simp only [go_sem, hw, rvC]
        · have hn2 : ¬ (k < n.length) := by omega
          simp only [go_sem, osv_length, hn2]
          refine l_exit ?_
          simp only [go_sem, osv_length, hmp]

end Go.VL

/- RulesAgree: at every rule, every row of options and every number of refusals the law answers true, and leaves its arguments as they were. Conditions: none. -/
namespace Go.Proofs.Ytbaomchgafpphaa
open Go.VL Go.ChangeShapes Go.WideShapes Go.RowKit

theorem rulesAgree_calls (vs : List V) (h : argsV [shRule, shOpts, .int .i64] vs) : VCalls Try.prog 8 vs [] fun r _ => r = .bool true := by
  obtain ⟨c1, r1, rfl, h1, c2, r2, rfl, h2, c3, r3, rfl, ⟨n, rfl, _⟩, rfl⟩ := h
  obtain ⟨r, hr⟩ := rule_of h1
  obtain ⟨nl, l, rfl⟩ := opts_of h2
  show VCalls _ _ [.agg c1, _, _] _ _
  rw [hr]
  exact (c_rulesAgree r nl false l n []).mono fun _ _ h => h.1

theorem rulesAgree_lifted (os : Os) (started : os.Started) (H : Type) (enc : TypeId × Value → H) :
    ReturnsInHanded {} Try.checked os 8 .any (Rows.rulesAgreeSpec.pre6 enc Try.prog Try.f8 Rows.rulesAgreeRow.domain false) (Rows.rulesAgreeSpec.post enc Try.prog Try.f8 false true false false) := by
  refine returnsInHanded_of_change_sized (C := Try.checked) own started (by kernel_rfl) Try.func8
    (ChangeSpec.witness6 (enc := enc) (C := Try.checked) false ⟨#[], #[.agg #[.bool false, .int .u32 0, .int .u32 0, .int .u32 0, .int .u32 0], .slice none 0 0, .int .i64 0], []⟩ 8 (by kernel_rfl) (by kernel_rfl) (by kernel_rfl) (by kernel_rfl)) ?_
  intro W base args ds gs before hval0 hW hcnd hsz0 _
  have hW' := hW
  obtain ⟨p, q, hA0, hV, rfl, hfz, hnd⟩ := hW
  obtain ⟨rfl, rfl⟩ := trodVars_none hV
  have hval : ∀ (j : Nat) t v, (Try.f8.params.toList)[j]? = some t → args.toList[j]? = some v → Value.okWide Try.prog W .any base t v := fun j t v h1 h2 => hval0 j t v (by simpa using h1) (by simpa using h2)
  refine (law_calls (ss := [shRule, shOpts, .int .i64]) (by kernel_rfl) rulesAgree_calls hval hA0).mono fun e W' ⟨he, bel⟩ => ?_
  subst he
  have hb := again_of' laidOut bel (by kernel_rfl) hA0
  obtain ⟨v0, vs0, d0, ds0, p0, q0, e0a, rfl, e0b, h0, r0⟩ := trodAll_cons (show DataW.TrodAll enc Try.prog W 0 (fun _ => true) true [47, 22, 3] args.toList ds p from hA0)
  obtain ⟨v1, vs1, d1, ds1, p1, q1, e1a, rfl, e1b, h1, r1⟩ := trodAll_cons r0
  obtain ⟨v2, vs2, d2, ds2, p2, q2, e2a, rfl, e2b, h2, r2⟩ := trodAll_cons r1
  obtain ⟨_, rfl, _⟩ := trodAll_nil r2
  exact ⟨_, rfl, _, _, _, [], _, [], hW', trodAll_mk1 (shut_bool Try.underlying4 _), hb, rfl, bel.frame _, fun h => by cases h⟩

theorem rulesAgree_holds : Rows.RulesAgreeSaid :=
  OpenClaim.holds_of_wide 8 Try.f8 rfl rfl rfl rfl rfl rfl rfl ⟨rfl, rfl, rfl, rfl, rfl⟩ rfl rfl rfl rfl rfl (by kernel_rfl) Try.func8 (by kernel_rfl)
    (of_decide_eq_true (by kernel_rfl)) (by unfold Func.isWrapper; first | (rw [if_pos (by decide +kernel)]; kernel_rfl) | (rw [if_neg (by decide +kernel)]; exact ⟨rfl, rfl⟩))
    (fun os started H enc _ => rulesAgree_lifted os started H enc)
#print axioms rulesAgree_holds

end Go.Proofs.Ytbaomchgafpphaa
