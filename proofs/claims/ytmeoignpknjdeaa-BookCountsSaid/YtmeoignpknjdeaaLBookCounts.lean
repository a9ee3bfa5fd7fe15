/- BookCounts: at every book and every act the law answers true, and leaves its arguments as they were. Conditions: none. -/
import Derived.Test.YtmeoignpknjdeaaSSc
set_option linter.unusedVariables false
set_option linter.unusedSimpArgs false
/- BookCounts over values. Conditions: none. -/
namespace Go.VL
open Go.Proofs

theorem right_N {b : BV} (R : RightF b) : ∀ l ∈ b.ll, 0 ≤ l.n ∧ l.n ≤ 255 := fun l hl => by
  obtain ⟨i, hi, rfl⟩ := List.mem_iff_getElem.1 hl
  have := R.lock i hi
  unfold lockB at this
  simp only [Bool.and_eq_true, decide_eq_true_eq] at this
  omega

set_option maxHeartbeats 4000000 in
set_option maxRecDepth 20000 in
theorem c_counts (b : BV) (o : PV) (ok : BOK b) (h1 : b.ol.length < 4611686018427387904) (h2 : b.il.length < 4611686018427387904) (ha : o.addr < 4294967296) (σ : St) :
    VCalls Try.prog 7 [bkv b, pv o] σ fun r σ' => r = .bool true := by
  refine vcalls_intro (C := cfg Try.prog [] [] []) (cfg_ok mixed) Try.func7 rfl rfl rfl rfl rfl ?_
  simp -implicitDefEqProofs only [go_sem, bkv, bvC, pv, pvC]
  refine vgo_call rfl rfl rfl rfl (c_shown σ) ?_
  simp -implicitDefEqProofs only [go_sem]
  refine vgo_call rfl rfl rfl rfl (c_rright b h1 h2 σ) ?_
  cases hR : rightB b
  · simp -implicitDefEqProofs only [go_sem]
  have R := (right_iff b).1 hR
  simp -implicitDefEqProofs only [go_sem]
  cases hu : decide ((50 : Int) < (o.user.size : Int))
  · simp -implicitDefEqProofs only [go_sem, hu]
    have hcn := fun (i : Nat) (h : i < b.ll.length) => counts R o h
    have hcl := counts_len R o
    have hN := right_N R
    have hl8 := R.lks
    refine vgo_call rfl rfl rfl rfl (c_apply b o ok R.next0 R.len R.lks (right_N R) ha σ) ?_
    unfold cntP at hcn
    generalize hce : applyP b o = ce at hcn hcl
    obtain ⟨c, e⟩ := ce
    simp -implicitDefEqProofs only [go_sem, applyV, bkv, bvC]
    refine w_loop (fun i => i ≤ b.ll.length) (fun i => [(8, .int .i64 i), (7, .int .i64 e), (6, .cell (bvC c)), (5, .bool true), (4, .bool false), (3, .ip (pvC o)), (2, .ip (bvC b))]) (fun _ => σ) (fun i => b.ll.length - i) 0 (Nat.zero_le _) ?_ rfl ?_
    · simp -implicitDefEqProofs only [go_sem, bvC, pvC]
      rfl
    intro i hi
    rcases Nat.lt_or_ge i b.ll.length with h | h
    · have hw : IntKind.i64.wrap ((i : Int) + 1) = ((i + 1 : Nat) : Int) := wrap_ok (by omega) (by omega)
      simp -implicitDefEqProofs only [go_sem, bvC, pvC, lvs_length, h, lvs_getD h]
      refine vgo_call rfl rfl rfl rfl (c_rfailed c b.ll[i].user (Nat.le_trans hcl (by decide)) σ) ?_
      have hq := hcn i h
      simp only at hq hcl
      have hNi := hN _ (List.getElem_mem h)
      rcases hq with ⟨q1, q2, q3, q4⟩ | ⟨q1, q2, q3, q4⟩ | ⟨q1, q2, q3⟩
      · have e1 : (e == 0) = true := by simp [q1]
        have e2 : (o.kind == 5) = true := by simp [q2]
        have e3 : strEq o.user b.ll[i].user = true := by rw [strEq_dec]; exact decide_eq_true q3
        rw [idx_find_none q4]
        have e4 : decide ((0 : Int) ≤ -1) = false := rfl
        simp -implicitDefEqProofs only [go_sem, e1, e2, e3, e4]
        refine l_next (i + 1) h (by omega) ?_ rfl
        simp -implicitDefEqProofs only [go_sem, bvC, pvC, hw]
      · have e1 : (e == 0) = true := by simp [q1]
        have e2 : (o.kind == 5) = false := by simp [q2]
        have e2' : (o.kind == 4) = true := by simp [q2]
        have e3 : strEq o.user b.ll[i].user = true := by rw [strEq_dec]; exact decide_eq_true q3
        obtain ⟨j, hj, r1, r2⟩ := idx_find q4
        rw [r1]
        have e4 : decide ((j : Int) < 0) = false := by simp
        have hw2 : IntKind.i64.wrap (b.ll[i].n + 1) = b.ll[i].n + 1 := by rw [IntKind.wrap_i64]; omega
        have hn : c.ll[j].n = (if 255 < b.ll[i].n + 1 then 255 else b.ll[i].n + 1) := by rw [r2]; rfl
        have ht : c.ll[j].t = o.t := by rw [r2]; rfl
        simp -implicitDefEqProofs only [go_sem, e1, e2, e2', e3, e4]
        refine w_walk2 [] [0, 1, 2, 3, 4, 5, 6, 7, 8, 9, 10, 11, 12, 13, 14, 15, 16, 17, 18, 19, 20, 21, 22, 23, 24, 25, 26, 27, 28, 29, 30, 31, 32, 33, 34, 35, 36, 37] [77, 78, 79, 80, 81, 82, 83, 84, 85, 86, 87, 88, 89, 90, 91, 92, 93, 94, 95, 96, 97, 98, 99, 100, 101, 102, 103, 104, 105, 106, 107, 108, 109, 110, 111, 112, 113, 114] [0, 1, 3, 7, 15, 7, 63, 127, 7, 511, 1023, 2047, 4095, 8191, 16383, 32767, 16383, 131071, 262143, 524287, 16383, 1064959, 3162111, 7356415, 16777215, 33554431, 67108863, 134217727, 67108863, 536870911, 1073741823, 2147483647, 67108863, 4362076159, 17179869183, 34359738367, 68719476735, 137438953471] rfl rfl rfl rfl ?_
        simp -implicitDefEqProofs only [go_sem, bvC, pvC, lvs_length, hj, lvs_getD hj, hw2, hn, ht]
        refine l_next (i + 1) h (by omega) ?_ rfl
        simp -implicitDefEqProofs only [go_sem, bvC, pvC, hw]
      · obtain ⟨j, hj, r1, r2⟩ := idx_find q3
        rw [r1]
        have e4 : decide ((j : Int) < 0) = false := by simp
        have e5 : decide ((0 : Int) ≤ (j : Int)) = true := by simp
        have hS := strEq_dec
        cases e1 : e == 0
        · simp -implicitDefEqProofs only [go_sem, e1, e4]
          refine w_walk2 [] [0, 1, 2, 3, 4, 5, 6, 7, 8, 9, 10, 11, 12, 13, 14, 15, 16, 17, 18, 19, 20, 21, 22, 23, 24, 25, 26, 27, 28, 29, 30, 31, 32, 33, 34, 35, 36, 37] [77, 78, 79, 80, 81, 82, 83, 84, 85, 86, 87, 88, 89, 90, 91, 92, 93, 94, 95, 96, 97, 98, 99, 100, 101, 102, 103, 104, 105, 106, 107, 108, 109, 110, 111, 112, 113, 114] [0, 1, 3, 7, 15, 7, 63, 127, 7, 511, 1023, 2047, 4095, 8191, 16383, 32767, 16383, 131071, 262143, 524287, 16383, 1064959, 3162111, 7356415, 16777215, 33554431, 67108863, 134217727, 67108863, 536870911, 1073741823, 2147483647, 67108863, 4362076159, 17179869183, 34359738367, 68719476735, 137438953471] rfl rfl rfl rfl ?_
          simp -implicitDefEqProofs only [go_sem, bvC, pvC, lvs_length, hj, lvs_getD hj, r2, mk, hS]
          refine l_next (i + 1) h (by omega) ?_ rfl
          simp -implicitDefEqProofs only [go_sem, bvC, pvC, hw]
        have e1' : e = 0 := by simpa using e1
        by_cases hu' : o.user = b.ll[i].user
        · have n5 : (o.kind == 5) = false := by simp; exact fun h => q1 ⟨e1', h, hu'⟩
          have n4 : (o.kind == 4) = false := by simp; exact fun h => q2 ⟨e1', h, hu'⟩
          simp -implicitDefEqProofs only [go_sem, e1, e4, n5, n4]
          refine w_walk2 [] [0, 1, 2, 3, 4, 5, 6, 7, 8, 9, 10, 11, 12, 13, 14, 15, 16, 17, 18, 19, 20, 21, 22, 23, 24, 25, 26, 27, 28, 29, 30, 31, 32, 33, 34, 35, 36, 37] [77, 78, 79, 80, 81, 82, 83, 84, 85, 86, 87, 88, 89, 90, 91, 92, 93, 94, 95, 96, 97, 98, 99, 100, 101, 102, 103, 104, 105, 106, 107, 108, 109, 110, 111, 112, 113, 114] [0, 1, 3, 7, 15, 7, 63, 127, 7, 511, 1023, 2047, 4095, 8191, 16383, 32767, 16383, 131071, 262143, 524287, 16383, 1064959, 3162111, 7356415, 16777215, 33554431, 67108863, 134217727, 67108863, 536870911, 1073741823, 2147483647, 67108863, 4362076159, 17179869183, 34359738367, 68719476735, 137438953471] rfl rfl rfl rfl ?_
          simp -implicitDefEqProofs only [go_sem, bvC, pvC, lvs_length, hj, lvs_getD hj, r2, mk, hS]
          refine l_next (i + 1) h (by omega) ?_ rfl
          simp -implicitDefEqProofs only [go_sem, bvC, pvC, hw]
        have e3 : strEq o.user b.ll[i].user = false := by rw [strEq_dec]; exact decide_eq_false hu'
        cases n5 : o.kind == 5
        · cases n4 : o.kind == 4
          · simp -implicitDefEqProofs only [go_sem, e1, e4, n5, n4]
            refine w_walk2 [] [0, 1, 2, 3, 4, 5, 6, 7, 8, 9, 10, 11, 12, 13, 14, 15, 16, 17, 18, 19, 20, 21, 22, 23, 24, 25, 26, 27, 28, 29, 30, 31, 32, 33, 34, 35, 36, 37] [77, 78, 79, 80, 81, 82, 83, 84, 85, 86, 87, 88, 89, 90, 91, 92, 93, 94, 95, 96, 97, 98, 99, 100, 101, 102, 103, 104, 105, 106, 107, 108, 109, 110, 111, 112, 113, 114] [0, 1, 3, 7, 15, 7, 63, 127, 7, 511, 1023, 2047, 4095, 8191, 16383, 32767, 16383, 131071, 262143, 524287, 16383, 1064959, 3162111, 7356415, 16777215, 33554431, 67108863, 134217727, 67108863, 536870911, 1073741823, 2147483647, 67108863, 4362076159, 17179869183, 34359738367, 68719476735, 137438953471] rfl rfl rfl rfl ?_
            simp -implicitDefEqProofs only [go_sem, bvC, pvC, lvs_length, hj, lvs_getD hj, r2, mk, hS]
            refine l_next (i + 1) h (by omega) ?_ rfl
            simp -implicitDefEqProofs only [go_sem, bvC, pvC, hw]
          · simp -implicitDefEqProofs only [go_sem, e1, e4, n5, n4, e3]
            refine w_walk2 [] [0, 1, 2, 3, 4, 5, 6, 7, 8, 9, 10, 11, 12, 13, 14, 15, 16, 17, 18, 19, 20, 21, 22, 23, 24, 25, 26, 27, 28, 29, 30, 31, 32, 33, 34, 35, 36, 37] [77, 78, 79, 80, 81, 82, 83, 84, 85, 86, 87, 88, 89, 90, 91, 92, 93, 94, 95, 96, 97, 98, 99, 100, 101, 102, 103, 104, 105, 106, 107, 108, 109, 110, 111, 112, 113, 114] [0, 1, 3, 7, 15, 7, 63, 127, 7, 511, 1023, 2047, 4095, 8191, 16383, 32767, 16383, 131071, 262143, 524287, 16383, 1064959, 3162111, 7356415, 16777215, 33554431, 67108863, 134217727, 67108863, 536870911, 1073741823, 2147483647, 67108863, 4362076159, 17179869183, 34359738367, 68719476735, 137438953471] rfl rfl rfl rfl ?_
            simp -implicitDefEqProofs only [go_sem, bvC, pvC, lvs_length, hj, lvs_getD hj, r2, mk, hS]
            refine l_next (i + 1) h (by omega) ?_ rfl
            simp -implicitDefEqProofs only [go_sem, bvC, pvC, hw]
        · have n4 : (o.kind == 4) = false := by
            have := beq_iff_eq.1 n5
            rw [this]; rfl
          simp -implicitDefEqProofs only [go_sem, e1, e4, n5, n4, e3]
          refine w_walk2 [] [0, 1, 2, 3, 4, 5, 6, 7, 8, 9, 10, 11, 12, 13, 14, 15, 16, 17, 18, 19, 20, 21, 22, 23, 24, 25, 26, 27, 28, 29, 30, 31, 32, 33, 34, 35, 36, 37] [77, 78, 79, 80, 81, 82, 83, 84, 85, 86, 87, 88, 89, 90, 91, 92, 93, 94, 95, 96, 97, 98, 99, 100, 101, 102, 103, 104, 105, 106, 107, 108, 109, 110, 111, 112, 113, 114] [0, 1, 3, 7, 15, 7, 63, 127, 7, 511, 1023, 2047, 4095, 8191, 16383, 32767, 16383, 131071, 262143, 524287, 16383, 1064959, 3162111, 7356415, 16777215, 33554431, 67108863, 134217727, 67108863, 536870911, 1073741823, 2147483647, 67108863, 4362076159, 17179869183, 34359738367, 68719476735, 137438953471] rfl rfl rfl rfl ?_
          simp -implicitDefEqProofs only [go_sem, bvC, pvC, lvs_length, hj, lvs_getD hj, r2, mk, hS]
          refine l_next (i + 1) h (by omega) ?_ rfl
          simp -implicitDefEqProofs only [go_sem, bvC, pvC, hw]
    · have hh : ¬ (i < b.ll.length) := by omega
      have hd : decide ((c.ll.length : Int) ≤ 8) = true := by simp only at hcl; simp; omega
      simp -implicitDefEqProofs only [go_sem, bvC, pvC, lvs_length, hh]
      refine l_exit ?_
      simp -implicitDefEqProofs only [go_sem, bvC, pvC, lvs_length, hd]
  · simp -implicitDefEqProofs only [go_sem, hu]

end Go.VL

/- BookCounts: at every book and every act the law answers true, and leaves its arguments as they were. Conditions: none. -/
namespace Go.Proofs.Ytmeoignpknjdeaa
open Go.VL Go.ChangeShapes Go.WideShapes Go.RowKit

theorem bookCounts_calls (vs : List V) (h : argsV [shBook, shAct] vs) : VCalls Try.prog 7 vs [] fun r _ => r = .bool true := by
  obtain ⟨c1, r1, rfl, h1, c2, r2, rfl, h2, rfl⟩ := h
  obtain ⟨b, e1, ok, l1, l2, l3⟩ := book_of h1
  obtain ⟨o, e2, ha⟩ := act_of h2
  show VCalls Try.prog _ [.agg c1, .agg c2] _ _
  rw [e1, e2]
  exact c_counts b o ok l1 l2 ha []

theorem bookCounts_lifted (os : Os) (started : os.Started) (H : Type) (enc : TypeId × Value → H) :
    ReturnsInHanded {} Try.checked os 7 .any (Rows.bookCountsSpec.pre6 enc Try.prog Try.f7 Rows.bookCountsRow.domain false) (Rows.bookCountsSpec.post enc Try.prog Try.f7 false true false false) := by
  refine returnsInHanded_of_change_sized (C := Try.checked) own started (by kernel_rfl) Try.func7
    (ChangeSpec.witness6 (enc := enc) (C := Try.checked) false ⟨#[], #[.agg #[.int .i64 0, .slice none 0 0, .slice none 0 0, .slice none 0 0], .agg #[.int .i64 0, .int .i64 0, .int .i64 0, .int .u32 0, .string ⟨#[]⟩, .int .u64 0, .int .u64 0, .int .i64 0, .int .i64 0]], []⟩ 8 (by kernel_rfl) (by kernel_rfl) (by kernel_rfl) (by kernel_rfl)) ?_
  intro W base args ds gs before hval0 hW hcnd hsz0 _
  have hW' := hW
  obtain ⟨p, q, hA0, hV, rfl, hfz, hnd⟩ := hW
  obtain ⟨rfl, rfl⟩ := trodVars_none hV
  have hval : ∀ (j : Nat) t v, (Try.f7.params.toList)[j]? = some t → args.toList[j]? = some v → Value.okWide Try.prog W .any base t v := fun j t v h1 h2 => hval0 j t v (by simpa using h1) (by simpa using h2)
  refine (law_calls (fun _ => rfl) (ss := [shBook, shAct]) (by kernel_rfl) bookCounts_calls hval hA0 hsz0).mono fun e W' ⟨he, bel⟩ => ?_
  subst he
  have hb := again_of' laidOut bel (by kernel_rfl) hA0
  obtain ⟨v0, vs0, d0, ds0, p0, q0, e0a, rfl, e0b, h0, r0⟩ := trodAll_cons (show DataW.TrodAll enc Try.prog W 0 (fun _ => true) true [26, 30] args.toList ds p from hA0)
  obtain ⟨v1, vs1, d1, ds1, p1, q1, e1a, rfl, e1b, h1, r1⟩ := trodAll_cons r0
  obtain ⟨_, rfl, _⟩ := trodAll_nil r1
  exact ⟨_, rfl, _, _, _, [], _, [], hW', trodAll_mk1 (shut_bool Try.underlying4 _), hb, rfl, bel.frame _, fun h => by cases h⟩

theorem bookCounts_holds : Rows.BookCountsSaid :=
  OpenClaim.holds_of_wide 7 Try.f7 rfl rfl rfl rfl rfl rfl rfl ⟨rfl, rfl, rfl, rfl, rfl⟩ rfl rfl rfl rfl rfl (by kernel_rfl) Try.func7 (by kernel_rfl)
    (of_decide_eq_true (by kernel_rfl)) (by unfold Func.isWrapper; first | (rw [if_pos (by decide +kernel)]; kernel_rfl) | (rw [if_neg (by decide +kernel)]; exact ⟨rfl, rfl⟩))
    (fun os started H enc _ => bookCounts_lifted os started H enc)
#print axioms bookCounts_holds

end Go.Proofs.Ytmeoignpknjdeaa
