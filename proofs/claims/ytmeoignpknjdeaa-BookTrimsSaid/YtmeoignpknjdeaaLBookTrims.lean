/- BookTrims: at every book the law answers true, and leaves its argument as it was. Conditions: none. -/
import Derived.Test.YtmeoignpknjdeaaSSc
set_option linter.unusedVariables false
set_option linter.unusedSimpArgs false
/- BookTrims over values. Conditions: none. -/
namespace Go.VL
open Go.Proofs

def oT : PV := ⟨6, 0, 0, 0, uB, 0, 0, 0, 0⟩
theorem oT_may : mayB oT = true := by decide +kernel
theorem apply_oT (b : BV) : applyP b oT = ({ b with il := trimRow b }, 0) := by
  unfold applyP
  rw [oT_may, if_neg (by decide), if_neg (show ¬ oT.kind = 1 by decide), if_neg (show ¬ oT.kind = 2 by decide), if_neg (show ¬ oT.kind = 3 by decide), if_neg (show ¬ oT.kind = 4 by decide), if_neg (show ¬ oT.kind = 5 by decide)]
theorem trim_idem (b : BV) : trimRow { b with il := trimRow b } = trimRow b := by
  show keepL (goneB b) (keepL (goneB b) b.il) = keepL (goneB b) b.il
  unfold keepL
  rw [List.filter_filter]
  congr 1
  funext x
  cases goneB b x <;> rfl
theorem keep_get {α : Type} {p : α → Bool} {l : List α} {i : Nat} (h : i < l.length) (hp : p l[i] = false) : ∃ hj : (keepL p (l.take i)).length < (keepL p l).length, (keepL p l)[(keepL p (l.take i)).length] = l[i] := by
  have e : keepL p l = keepL p (l.take i) ++ (l[i] :: keepL p (l.drop (i + 1))) := by
    conv => lhs; rw [← List.take_append_drop i l, drop_step h]
    unfold keepL
    rw [List.filter_append, List.filter_cons, hp]
    rfl
  have hlt : (keepL p (l.take i)).length < (keepL p l).length := by
    have := congrArg List.length e
    simp only [List.length_append, List.length_cons] at this
    omega
  refine ⟨hlt, ?_⟩
  have h1 : (keepL p l)[(keepL p (l.take i)).length]? = some l[i] := by
    conv => lhs; arg 1; rw [e]
    simp
  rw [List.getElem?_eq_getElem hlt] at h1
  exact Option.some.inj h1
theorem of_gone (b : BV) (x : IV) : decide (idxL (idS x.id) b.ol < 0) = goneB b x := by
  unfold goneB
  have := idxL_nonneg (idS x.id) b.ol
  rw [← this]
  by_cases h : idxL (idS x.id) b.ol < 0
  · have h2 : ¬ 0 ≤ idxL (idS x.id) b.ol := by omega
    simp [h, h2]
  · have h2 : 0 ≤ idxL (idS x.id) b.ol := by omega
    simp [h, h2]

set_option maxHeartbeats 4000000 in
set_option maxRecDepth 20000 in
theorem c_ltrims (b : BV) (ok : BOK b) (h1 : b.ol.length < 4611686018427387904) (h2 : b.il.length < 4611686018427387904) (σ : St) :
    VCalls Try.prog 8 [bkv b] σ fun r σ' => r = .bool true := by
  refine vcalls_intro (C := cfg Try.prog [] [10] []) (cfg_ok mixed) Try.func8 rfl rfl rfl rfl rfl ?_
  simp -implicitDefEqProofs only [go_sem, bkv, bvC]
  refine vgo_call rfl rfl rfl rfl (c_shown σ) ?_
  simp -implicitDefEqProofs only [go_sem]
  refine vgo_call rfl rfl rfl rfl (c_rright b h1 h2 σ) ?_
  cases hR : rightB b
  · simp -implicitDefEqProofs only [go_sem]
  have R := ((right_iff b).1 hR).p
  have hlen := R.len
  have hac := c_apply b oT ok R.next0 R.len R.lks (right_N R.f) (by show (0 : Int) < 4294967296; decide) σ
  rw [apply_oT] at hac
  have Rc := right_trim R
  have okc := ok_apply ok oT
  rw [apply_oT] at okc
  simp only at okc
  have had := c_apply { b with il := trimRow b } oT okc Rc.next0 Rc.len Rc.lks (right_N Rc.f) (by show (0 : Int) < 4294967296; decide) σ
  rw [apply_oT, trim_idem] at had
  have hlc := Rc.len
  simp only at had hlc
  have htr : trimRow b = keepL (goneB b) b.il := rfl
  simp -implicitDefEqProofs only [go_sem]
  refine vgo_call rfl rfl rfl rfl hac ?_
  simp -implicitDefEqProofs only [go_sem, applyV, bkv, bvC]
  refine vgo_call rfl rfl rfl rfl had ?_
  simp -implicitDefEqProofs only [go_sem, applyV, bkv, bvC]
  have hk0 : ∀ i, i ≤ b.il.length → (keepL (goneB b) (b.il.take i)).length ≤ 60 := fun i hi => by
    have := keepL_length (goneB b) b.il i
    omega
  refine w_loop (fun i => i ≤ b.il.length) (fun i => [(9, .int .i64 i), (8, .int .i64 ((keepL (goneB b) (b.il.take i)).length : Nat)), (7, .int .i64 0), (6, .cell (bvC { b with il := trimRow b })), (5, .int .i64 0), (4, .cell (bvC { b with il := trimRow b })), (3, .bool true), (2, .bool false), (1, .ip (bvC b))]) (fun _ => σ) (fun i => b.il.length - i) 0 (Nat.zero_le _) ?_ rfl ?_
  · simp -implicitDefEqProofs only [go_sem, bvC]
    exact ⟨rfl, rfl⟩
  intro i hi
  rcases Nat.lt_or_ge i b.il.length with h | h
  · have hw : IntKind.i64.wrap ((i : Int) + 1) = ((i + 1 : Nat) : Int) := wrap_ok (by omega) (by omega)
    have hkt := keepL_take (p := goneB b) h
    have hk := hk0 i hi
    simp -implicitDefEqProofs only [go_sem, bvC, ivs_length, h, ivs_getD h]
    refine w_walk2 [] [0, 1, 2, 3, 4, 5, 6, 7, 8] [35, 36, 37, 38, 39, 40, 41, 42, 43] [0, 0, 2, 0, 14, 30, 62, 127, 255] rfl rfl rfl rfl ?_
    simp -implicitDefEqProofs only [go_sem, bvC, ivs_length, h, ivs_getD h]
    refine vdgo_call rfl rfl rfl rfl (c_rof b b.il[i].id (by unfold lim; omega) σ) ?_
    cases hg : goneB b b.il[i]
    · have hgd := of_gone b b.il[i]
      rw [hg] at hgd
      rw [hg] at hkt
      obtain ⟨hj, hje⟩ := keep_get h hg
      rw [← htr] at hj
      have hje' : (trimRow b)[(keepL (goneB b) (b.il.take i)).length]'hj = b.il[i] := hje
      have hd1 : decide ((trimRow b).length ≤ (keepL (goneB b) (b.il.take i)).length) = false := by
        rw [decide_eq_false_iff_not]; omega
      have hgt := ivs_getD hj
      rw [hje'] at hgt
      have hw2 : IntKind.i64.wrap (((keepL (goneB b) (b.il.take i)).length : Int) + 1) = (((keepL (goneB b) (b.il.take i)).length + 1 : Nat) : Int) := wrap_ok (by omega) (by omega)
      simp -implicitDefEqProofs only [go_sem, hgd]
      refine w_walk2 [] [0, 1, 2, 3, 4, 5, 6, 7, 8, 9, 10, 11, 12, 13, 14, 15, 16, 17] [44, 45, 46, 47, 48, 49, 50, 51, 52, 53, 54, 55, 56, 57, 58, 59, 60, 61] [0, 0, 2, 6, 15, 31, 63, 127, 63, 511, 1023, 63, 2111, 63, 14399, 30783, 65535, 131071] rfl rfl rfl rfl ?_
      simp -implicitDefEqProofs only [go_sem, bvC, ivs_length, h, ivs_getD h, hj, hgt, hd1, mk]
      refine l_next (i + 1) h (by omega) ?_ rfl
      have hkl : (keepL (goneB b) (b.il.take i) ++ [b.il[i]]).length = (keepL (goneB b) (b.il.take i)).length + 1 := by simp
      simp -implicitDefEqProofs only [go_sem, bvC, hw, hw2, hkt, cond_false, hkl]
    · have hgd := of_gone b b.il[i]
      rw [hg] at hgd
      rw [hg] at hkt
      simp -implicitDefEqProofs only [go_sem, hgd]
      refine l_next (i + 1) h (by omega) ?_ rfl
      simp -implicitDefEqProofs only [go_sem, bvC, hw, hkt, cond_true, List.append_nil]
  · have hh : ¬ (i < b.il.length) := by omega
    simp -implicitDefEqProofs only [go_sem, bvC, ivs_length, hh]
    refine l_exit ?_
    rw [List.take_of_length_le h]
    have hrs := c_rsame { b with il := trimRow b } { b with il := trimRow b } (by unfold lim; show b.ol.length ≤ _; omega) (by unfold lim; show (trimRow b).length ≤ _; omega) (by have := R.lks; unfold lim; show b.ll.length ≤ _; omega) σ
    rw [sameB_self] at hrs
    have hrr := c_rright { b with il := trimRow b } (by show b.ol.length < _; omega) (by show (trimRow b).length < _; omega) σ
    rw [(right_iff _).2 Rc.f] at hrr
    have e9 : (((keepL (goneB b) b.il).length : Int) == ((keepL (goneB b) b.il).length : Int)) = true := by simp
    rw [htr] at hrs hrr
    simp -implicitDefEqProofs only [go_sem, bvC, ivs_length, htr, e9]
    refine vgo_call rfl rfl rfl rfl hrs ?_
    simp -implicitDefEqProofs only [go_sem, bvC, bkv]
    refine vgo_call rfl rfl rfl rfl hrs ?_
    simp -implicitDefEqProofs only [go_sem, bvC, bkv]
    refine vgo_call rfl rfl rfl rfl hrr ?_
    simp -implicitDefEqProofs only [go_sem, bvC, bkv]

end Go.VL

/- BookTrims: at every book the law answers true, and leaves its argument as it was. Conditions: none. -/
namespace Go.Proofs.Ytmeoignpknjdeaa
open Go.VL Go.ChangeShapes Go.WideShapes Go.RowKit

theorem bookTrims_calls (vs : List V) (h : argsV [shBook] vs) : VCalls Try.prog 8 vs [] fun r _ => r = .bool true := by
  obtain ⟨c1, r1, rfl, h1, rfl⟩ := h
  obtain ⟨b, e1, ok, l1, l2, l3⟩ := book_of h1
  show VCalls Try.prog _ [.agg c1] _ _
  rw [e1]
  exact c_ltrims b ok l1 l2 []

theorem bookTrims_lifted (os : Os) (started : os.Started) (H : Type) (enc : TypeId × Value → H) :
    ReturnsInHanded {} Try.checked os 8 .any (Rows.bookTrimsSpec.pre6 enc Try.prog Try.f8 Rows.bookTrimsRow.domain false) (Rows.bookTrimsSpec.post enc Try.prog Try.f8 false true false false) := by
  refine returnsInHanded_of_change_sized (C := Try.checked) own started (by kernel_rfl) Try.func8
    (ChangeSpec.witness6 (enc := enc) (C := Try.checked) false ⟨#[], #[.agg #[.int .i64 0, .slice none 0 0, .slice none 0 0, .slice none 0 0]], []⟩ 8 (by kernel_rfl) (by kernel_rfl) (by kernel_rfl) (by kernel_rfl)) ?_
  intro W base args ds gs before hval0 hW hcnd hsz0 _
  have hW' := hW
  obtain ⟨p, q, hA0, hV, rfl, hfz, hnd⟩ := hW
  obtain ⟨rfl, rfl⟩ := trodVars_none hV
  have hval : ∀ (j : Nat) t v, (Try.f8.params.toList)[j]? = some t → args.toList[j]? = some v → Value.okWide Try.prog W .any base t v := fun j t v h1 h2 => hval0 j t v (by simpa using h1) (by simpa using h2)
  refine (law_calls (fun _ => rfl) (ss := [shBook]) (by kernel_rfl) bookTrims_calls hval hA0 hsz0).mono fun e W' ⟨he, bel⟩ => ?_
  subst he
  have hb := again_of' laidOut bel (by kernel_rfl) hA0
  obtain ⟨v0, vs0, d0, ds0, p0, q0, e0a, rfl, e0b, h0, r0⟩ := trodAll_cons (show DataW.TrodAll enc Try.prog W 0 (fun _ => true) true [26] args.toList ds p from hA0)
  obtain ⟨_, rfl, _⟩ := trodAll_nil r0
  exact ⟨_, rfl, _, _, _, [], _, [], hW', trodAll_mk1 (shut_bool Try.underlying4 _), hb, rfl, bel.frame _, fun h => by cases h⟩

theorem bookTrims_holds : Rows.BookTrimsSaid :=
  OpenClaim.holds_of_wide 8 Try.f8 rfl rfl rfl rfl rfl rfl rfl ⟨rfl, rfl, rfl, rfl, rfl⟩ rfl rfl rfl rfl rfl (by kernel_rfl) Try.func8 (by kernel_rfl)
    (of_decide_eq_true (by kernel_rfl)) (by unfold Func.isWrapper; first | (rw [if_pos (by decide +kernel)]; kernel_rfl) | (rw [if_neg (by decide +kernel)]; exact ⟨rfl, rfl⟩))
    (fun os started H enc _ => bookTrims_lifted os started H enc)
#print axioms bookTrims_holds

end Go.Proofs.Ytmeoignpknjdeaa
