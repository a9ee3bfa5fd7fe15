/- BookRight: at every book and every row of acts the law answers true, and leaves its arguments as they were. Conditions: none. -/
import Derived.Test.YtmeoignpknjdeaaSSc
set_option linter.unusedVariables false
set_option linter.unusedSimpArgs false
/- BookRight over values. Conditions: none. -/
namespace Go.VL
open Go.Proofs

def pvs (l : List PV) : List V := l.map pv
theorem pvs_length (l : List PV) : (pvs l).length = l.length := by simp [pvs]
theorem pvs_getD {l : List PV} {i : Nat} (h : i < l.length) : (pvs l).getD i .undef = .agg [.int .i64 l[i].kind, .int .i64 l[i].id, .int .i64 l[i].link, .int .u32 l[i].addr, .str l[i].user, .int .u64 l[i].inn, .int .u64 l[i].out, .int .i64 l[i].cause, .int .i64 l[i].t] := by simp [pvs, h, pv, pvC]
def allP (b : BV) (l : List PV) : BV := l.foldl (fun b o => (applyP b o).1) b
theorem allP_take (b : BV) {l : List PV} {i : Nat} (h : i < l.length) : allP b (l.take (i + 1)) = (applyP (allP b (l.take i)) l[i]).1 := by
  unfold allP
  rw [List.take_succ_eq_append_getElem h, List.foldl_append]
  rfl

set_option maxHeartbeats 4000000 in
set_option maxRecDepth 20000 in
theorem c_right (b : BV) (nl c : Bool) (l : List PV) (ok : BOK b) (h1 : b.ol.length < 4611686018427387904) (h2 : b.il.length < 4611686018427387904) (ha : ∀ o ∈ l, o.addr < 4294967296) (σ : St) :
    VCalls Try.prog 4 [bkv b, .sl nl c 9 (pvs l)] σ fun r σ' => r = .bool true := by
  refine vcalls_intro (C := cfg Try.prog [] [2] []) (cfg_ok mixed) Try.func4 rfl rfl rfl rfl rfl ?_
  simp -implicitDefEqProofs only [go_sem, bkv, bvC]
  refine vgo_call rfl rfl rfl rfl (c_shown σ) ?_
  simp -implicitDefEqProofs only [go_sem]
  refine vgo_call rfl rfl rfl rfl (c_rright b h1 h2 σ) ?_
  cases hR : rightB b
  · simp -implicitDefEqProofs only [go_sem]
  have R := ((right_iff b).1 hR).p
  simp -implicitDefEqProofs only [go_sem, pvs_length]
  cases hu : decide ((60 : Int) < (l.length : Int))
  · simp -implicitDefEqProofs only [go_sem, hu]
    have hl60 : l.length ≤ 60 := by simp at hu; omega
    refine w_loop (fun i => i ≤ l.length ∧ RightP (allP b (l.take i)) ∧ BOK (allP b (l.take i))) (fun i => [(6, .int .i64 i), (5, .bool true), (4, .bool false), (1, .sl nl c 9 (pvs l)), (2, .cell (bvC (allP b (l.take i))))]) (fun _ => σ) (fun i => l.length - i) 0 ⟨Nat.zero_le _, R, ok⟩ ?_ rfl ?_
    · simp -implicitDefEqProofs only [go_sem, bvC, List.take, allP, List.foldl]
      rfl
    rintro i ⟨hi, Ri, oki⟩
    rcases Nat.lt_or_ge i l.length with h | h
    · have hw : IntKind.i64.wrap ((i : Int) + 1) = ((i + 1 : Nat) : Int) := wrap_ok (by omega) (by omega)
      simp -implicitDefEqProofs only [go_sem, bvC, pvs_length, h, pvs_getD h]
      cases hs : decide ((50 : Int) < (l[i].user.size : Int))
      · simp -implicitDefEqProofs only [go_sem, hs]
        refine w_walk2 [9, 10, 11] [0, 1, 2, 3, 4, 5, 6, 7, 8, 9, 10, 11] [34, 35, 36, 37, 38, 39, 33, 40, 41] [0, 0, 0, 6, 14, 31, 63, 127, 127, 0, 767, 2047] rfl rfl rfl rfl ?_
        simp -implicitDefEqProofs only [go_sem, bvC, pvs_length, h, pvs_getD h]
        have hap := c_apply (allP b (l.take i)) l[i] oki Ri.next0 Ri.len Ri.lks (right_N Ri.f) (ha _ (List.getElem_mem h)) σ
        have hR2 := right_apply Ri l[i]
        have hok2 := ok_apply oki l[i]
        have hrf := apply_refused (b := allP b (l.take i)) (o := l[i])
        have htk := allP_take b h
        generalize applyP (allP b (l.take i)) l[i] = ce at hap hR2 hok2 hrf htk
        obtain ⟨d, e⟩ := ce
        simp only at hR2 hok2 hrf htk
        have hRl := hR2.len
        have hdr := c_rright d (by omega) (by omega) σ
        rw [(right_iff d).2 hR2.f] at hdr
        refine vdgo_call rfl rfl rfl rfl hap ?_
        simp -implicitDefEqProofs only [go_sem, applyV, bkv, bvC]
        refine vgo_call rfl rfl rfl rfl hdr ?_
        simp -implicitDefEqProofs only [go_sem, bvC]
        cases he : e == 0
        · have := hrf (by simpa using he)
          have hsm := c_rsame (allP b (l.take i)) d (by have := Ri.len; unfold lim; omega) (by have := Ri.len; unfold lim; omega) (by have := Ri.lks; unfold lim; omega) σ
          rw [show sameB (allP b (l.take i)) d = true by rw [this]; exact sameB_self _] at hsm
          simp -implicitDefEqProofs only [go_sem, he, bne, bvC]
          refine vgo_call rfl rfl rfl rfl hsm ?_
          simp -implicitDefEqProofs only [go_sem, bvC]
          refine l_next (i + 1) ⟨h, by rw [htk]; exact hR2, by rw [htk]; exact hok2⟩ (by omega) ?_ rfl
          simp -implicitDefEqProofs only [go_sem, bvC, hw, htk]
        · simp -implicitDefEqProofs only [go_sem, he, bne]
          refine l_next (i + 1) ⟨h, by rw [htk]; exact hR2, by rw [htk]; exact hok2⟩ (by omega) ?_ rfl
          simp -implicitDefEqProofs only [go_sem, bvC, hw, htk]
      · simp -implicitDefEqProofs only [go_sem, hs]
        refine l_ret ?_
        simp -implicitDefEqProofs only [go_sem]
    · have hh : ¬ (i < l.length) := by omega
      simp -implicitDefEqProofs only [go_sem, bvC, pvs_length, hh]
      refine l_exit ?_
      simp -implicitDefEqProofs only [go_sem, bvC]
      refine vgo_call rfl rfl rfl rfl (c_bright _ Ri.f σ) ?_
      simp -implicitDefEqProofs only [go_sem]
  · simp -implicitDefEqProofs only [go_sem, hu]

end Go.VL

/- BookRight: at every book and every row of acts the law answers true, and leaves its arguments as they were. Conditions: none. -/
namespace Go.Proofs.Ytmeoignpknjdeaa
open Go.VL Go.ChangeShapes Go.WideShapes Go.RowKit

theorem bookRight_calls (vs : List V) (h : argsV [shBook, .sl shAct] vs) : VCalls Try.prog 4 vs [] fun r _ => r = .bool true := by
  obtain ⟨c1, r1, rfl, h1, c2, r2, rfl, h2, rfl⟩ := h
  obtain ⟨b, e1, ok, l1, l2, l3⟩ := book_of h1
  obtain ⟨nl, l, rfl, _, _, ha⟩ := rowQ_of (m := pv) (Q := fun o => o.addr < 4294967296) rfl (fun _ => act_of) h2
  show VCalls Try.prog _ [.agg c1, _] _ _
  rw [e1]
  exact c_right b nl false l ok l1 l2 ha []

theorem bookRight_lifted (os : Os) (started : os.Started) (H : Type) (enc : TypeId × Value → H) :
    ReturnsInHanded {} Try.checked os 4 .any (Rows.bookRightSpec.pre6 enc Try.prog Try.f4 Rows.bookRightRow.domain false) (Rows.bookRightSpec.post enc Try.prog Try.f4 false true false false) := by
  refine returnsInHanded_of_change_sized (C := Try.checked) own started (by kernel_rfl) Try.func4
    (ChangeSpec.witness6 (enc := enc) (C := Try.checked) false ⟨#[], #[.agg #[.int .i64 0, .slice none 0 0, .slice none 0 0, .slice none 0 0], .slice none 0 0], []⟩ 8 (by kernel_rfl) (by kernel_rfl) (by kernel_rfl) (by kernel_rfl)) ?_
  intro W base args ds gs before hval0 hW hcnd hsz0 _
  have hW' := hW
  obtain ⟨p, q, hA0, hV, rfl, hfz, hnd⟩ := hW
  obtain ⟨rfl, rfl⟩ := trodVars_none hV
  have hval : ∀ (j : Nat) t v, (Try.f4.params.toList)[j]? = some t → args.toList[j]? = some v → Value.okWide Try.prog W .any base t v := fun j t v h1 h2 => hval0 j t v (by simpa using h1) (by simpa using h2)
  refine (law_calls (fun _ => rfl) (ss := [shBook, .sl shAct]) (by kernel_rfl) bookRight_calls hval hA0 hsz0).mono fun e W' ⟨he, bel⟩ => ?_
  subst he
  have hb := again_of' laidOut bel (by kernel_rfl) hA0
  obtain ⟨v0, vs0, d0, ds0, p0, q0, e0a, rfl, e0b, h0, r0⟩ := trodAll_cons (show DataW.TrodAll enc Try.prog W 0 (fun _ => true) true [26, 41] args.toList ds p from hA0)
  obtain ⟨v1, vs1, d1, ds1, p1, q1, e1a, rfl, e1b, h1, r1⟩ := trodAll_cons r0
  obtain ⟨_, rfl, _⟩ := trodAll_nil r1
  exact ⟨_, rfl, _, _, _, [], _, [], hW', trodAll_mk1 (shut_bool Try.underlying4 _), hb, rfl, bel.frame _, fun h => by cases h⟩

theorem bookRight_holds : Rows.BookRightSaid :=
  OpenClaim.holds_of_wide 4 Try.f4 rfl rfl rfl rfl rfl rfl rfl ⟨rfl, rfl, rfl, rfl, rfl⟩ rfl rfl rfl rfl rfl (by kernel_rfl) Try.func4 (by kernel_rfl)
    (of_decide_eq_true (by kernel_rfl)) (by unfold Func.isWrapper; first | (rw [if_pos (by decide +kernel)]; kernel_rfl) | (rw [if_neg (by decide +kernel)]; exact ⟨rfl, rfl⟩))
    (fun os started H enc _ => bookRight_lifted os started H enc)
#print axioms bookRight_holds

end Go.Proofs.Ytmeoignpknjdeaa
