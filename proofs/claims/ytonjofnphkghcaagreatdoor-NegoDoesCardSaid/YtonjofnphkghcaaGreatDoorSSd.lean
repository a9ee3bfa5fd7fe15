/- Contracts of this program's functions over values, joined texts. Conditions: none. -/
import Derived.Test.YtonjofnphkghcaaGreatDoorSSc
import Derived.Test.YtonjofnphkghcaaGreatDoorVVc
set_option linter.unusedVariables false
set_option linter.unusedSimpArgs false
/- Contracts of this program's functions: options read as the document says. Conditions: none. -/
namespace Go.VL
open Go.Proofs

def rcO (o : OV) : OV := { o with c := false }
def readR : Option (List OV) → V
  | some os => .tup [.sl os.isEmpty false 2 (osv (os.map rcO)), .int .i64 0]
  | none => .tup [.sl true false 0 [], .int .i64 2]
theorem same_rc : ∀ l m : List OV, same (l.map rcO) m = same l m
  | [], [] => rfl
  | [], _ :: _ => rfl
  | _ :: _, [] => rfl
  | o :: l, x :: m => by
    rw [List.map_cons]
    show (eqO (rcO o) x && same (l.map rcO) m) = (eqO o x && same l m)
    rw [same_rc l m]
    rfl

set_option maxHeartbeats 1000000 in
set_option maxRecDepth 20000 in
theorem c_rread (nl : Bool) (d : List UInt8) (hd : d.length ≤ 1000000) (σ : St) : VCalls Tryz.prog 153 [.sl nl false 1 (bv d)] σ fun r σ' => r = readR (parse nl [] d) ∧ σ' = σ := by
  refine vcalls_intro (C := cfg Tryz.prog [] [] []) (cfg_ok mixed) Tryz.func153 rfl rfl rfl rfl rfl ?_
  simp -implicitDefEqProofs only [go_sem]
  refine loop_adopt 4 2 σ.length rfl rfl ?_
  refine w_loop (fun s => s.1 ≤ d.length ∧ 2 * s.2.length ≤ s.1 ∧ parse nl s.2 (d.drop s.1) = parse nl [] d) (fun s => [(5, .int .i64 s.1), (4, .rsl σ.length s.2.length 0 s.2.length), (3, .int .i64 0), (2, .sl true false 0 []), (0, .sl nl false 1 (bv d))]) (fun s => σ ++ [.arr s.2.isEmpty s.2.length 2 (osv (s.2.map rcO))]) (fun s => d.length - s.1) ((0, []) : Nat × List OV) ⟨Nat.zero_le _, Nat.le_refl _, rfl⟩ ?_ rfl ?_
  · simp -implicitDefEqProofs only [go_sem]
    rfl
  rintro ⟨i, xs⟩ ⟨hi, hx, hp⟩
  simp only at hi hx hp
  rcases Nat.lt_or_ge i d.length with h | h
  · have hw1 : IntKind.i64.wrap ((i : Int) + 1) = ((i + 1 : Nat) : Int) := wrap_ok (by omega) (by omega)
    rcases Nat.lt_or_ge (i + 1) d.length with h1 | h1
    · have e1 : (((i + 1 : Nat) : Int) == ((d.length : Nat) : Int)) = false := by simp; omega
      have hn8 : d[i + 1].toNat < 256 := d[i + 1].toNat_lt
      have hwn : IntKind.i64.wrap (d[i + 1].toNat : Int) = (d[i + 1].toNat : Int) := wrap_ok (by omega) (by omega)
      have hw2 : IntKind.i64.wrap ((i : Int) + 2) = ((i + 2 : Nat) : Int) := wrap_ok (by omega) (by omega)
      have hw3 : IntKind.i64.wrap ((i : Int) + (d[i + 1].toNat : Int)) = ((i + d[i + 1].toNat : Nat) : Int) := wrap_ok (by omega) (by omega)
      have hdr : d.drop i = d[i] :: d[i + 1] :: d.drop (i + 2) := by rw [List.drop_eq_getElem_cons h, List.drop_eq_getElem_cons h1]
      have hpd := hp
      rw [hdr, parse] at hpd
      have hrl : (d.drop (i + 2)).length = d.length - (i + 2) := List.length_drop
      rw [hrl] at hpd
      simp -implicitDefEqProofs only [go_sem, bv_length, h, hw1, e1, h1, bv_getD h1, hwn]
      cases c2 : decide ((d[i + 1].toNat : Int) < 2)
      · have c2' : ¬ d[i + 1].toNat < 2 := by simp only [decide_eq_false_iff_not] at c2; omega
        simp -implicitDefEqProofs only [go_sem, bv_length, c2, hw3]
        cases c3 : decide (d.length < i + d[i + 1].toNat)
        · have c3' : i + d[i + 1].toNat ≤ d.length := by simp only [decide_eq_false_iff_not] at c3; omega
          rw [if_neg (by omega)] at hpd
          have hlen : (osv (xs.map rcO)).length = xs.length := by simp [osv]
          simp -implicitDefEqProofs only [go_sem, c3]
          refine w_walk2 [14, 15] [0, 1, 2, 3, 4, 5, 6, 7, 8, 9, 10, 11, 12, 13, 14, 15] [32, 33, 34, 35, 36, 37, 38, 39, 40, 41, 42, 43, 44, 45] [0, 0, 0, 6, 14, 0, 0, 64, 0, 0, 768, 2016, 4094, 8190, 16383, 32767] rfl rfl rfl rfl ?_
          simp -implicitDefEqProofs only [go_sem, bv_length, h, bv_getD h, hw2, hw3, hlen, Nat.zero_add, Nat.sub_zero]
          have he : V.agg [.int .u8 d[i].toNat, .sl nl false 1 (List.drop (i + 2) (List.take (i + d[i + 1].toNat) (bv d)))] = ov (rcO (optOf nl d[i] d[i + 1] (d.drop (i + 2)))) := by
            unfold ov rcO optOf
            simp only [V.agg.injEq, List.cons.injEq, V.sl.injEq, true_and, and_true]
            unfold bv
            rw [← List.map_take, ← List.map_drop, List.drop_take]
            congr 2
            omega
          refine ⟨by omega, c3', by unfold lim; omega, l_next (i + d[i + 1].toNat, xs ++ [optOf nl d[i] d[i + 1] (d.drop (i + 2))]) ⟨c3', ?_, ?_⟩ ?_ ?_ ?_⟩
          · simp; omega
          · show parse nl (xs ++ [optOf nl d[i] d[i + 1] (d.drop (i + 2))]) (d.drop (i + d[i + 1].toNat)) = _
            rw [← hpd, List.drop_drop]
            congr 2
            omega
          · show d.length - (i + d[i + 1].toNat) < d.length - i
            omega
          · simp -implicitDefEqProofs only [go_sem, List.length_append, List.length_cons, List.length_nil, Nat.zero_add]
          · simp -implicitDefEqProofs only [go_sem, Bool.false_and, List.map_append, List.map_cons, List.map_nil, osv, he, List.length_append, List.length_cons, List.length_nil, Nat.zero_add]
            have hem : (xs ++ [optOf nl d[i] d[i + 1] (d.drop (i + 2))]).isEmpty = false := by cases xs <;> rfl
            rw [hem]
        · have c3' : d.length < i + d[i + 1].toNat := by have := of_decide_eq_true c3; omega
          rw [if_pos (.inr (by omega))] at hpd
          simp -implicitDefEqProofs only [go_sem, c3]
          refine l_ret ?_
          rw [← hpd]
          simp -implicitDefEqProofs only [go_sem, readR]
      · have c2' : d[i + 1].toNat < 2 := by have := of_decide_eq_true c2; omega
        rw [if_pos (.inl c2')] at hpd
        simp -implicitDefEqProofs only [go_sem, c2]
        refine l_ret ?_
        rw [← hpd]
        simp -implicitDefEqProofs only [go_sem, readR]
    · have e1 : (((i + 1 : Nat) : Int) == ((d.length : Nat) : Int)) = true := by simp; omega
      have hdr : d.drop i = [d[i]] := by
        rw [List.drop_eq_getElem_cons h, List.drop_eq_nil_of_le (by omega)]
      rw [hdr, parse] at hp
      simp -implicitDefEqProofs only [go_sem, bv_length, h, hw1, e1]
      refine l_ret ?_
      rw [← hp]
      simp -implicitDefEqProofs only [go_sem, readR]
  · have hn : ¬ (i < d.length) := by omega
    have hdr : d.drop i = [] := List.drop_eq_nil_of_le h
    rw [hdr, parse] at hp
    simp -implicitDefEqProofs only [go_sem, bv_length, hn]
    refine l_exit ?_
    rw [← hp]
    have htk : (osv (xs.map rcO)).take xs.length = osv (xs.map rcO) := by rw [List.take_of_length_le]; simp [osv]
    simp -implicitDefEqProofs only [go_sem, Nat.sub_zero, readR, htk]

end Go.VL

/- Contracts of this program's functions: the document's table of states. Conditions: none. -/
namespace Go.VL
open Go.Proofs

/-- A row of numbers as a literal, or nil. -/
def rowL (l : List Int) : V := .sl l.isEmpty (!l.isEmpty) (bif l.isEmpty then 0 else 1) (zv64 l)
def nxV (x : List Int × Int × Bool) : V := .tup [rowL x.1, .int .i64 x.2.1, .bool x.2.2]
theorem c_rto (s : Int) (c : Bool) (sz : Nat) (es : List V) (σ : St) : VCalls Tryz.prog 231 [.int .i64 s, .sl false c sz es] σ fun r σ' => r = .tup [.sl false c sz es, .int .i64 s, .bool true] ∧ σ' = σ := by
  refine vcalls_intro (C := cfg Tryz.prog [] [] []) (cfg_ok mixed) Tryz.func231 rfl rfl rfl rfl rfl ?_
  simp -implicitDefEqProofs only [go_sem]
theorem c_rstay (s : Int) (σ : St) : VCalls Tryz.prog 233 [.int .i64 s] σ fun r σ' => r = .tup [.sl true false 0 [], .int .i64 s, .bool true] ∧ σ' = σ := by
  refine vcalls_intro (C := cfg Tryz.prog [] [] []) (cfg_ok mixed) Tryz.func233 rfl rfl rfl rfl rfl ?_
  simp -implicitDefEqProofs only [go_sem]
theorem c_rnever (s : Int) (σ : St) : VCalls Tryz.prog 221 [.int .i64 s] σ fun r σ' => r = .tup [.sl true false 0 [], .int .i64 s, .bool false] ∧ σ' = σ := by
  refine vcalls_intro (C := cfg Tryz.prog [] [] []) (cfg_ok mixed) Tryz.func221 rfl rfl rfl rfl rfl ?_
  simp -implicitDefEqProofs only [go_sem]

theorem nx_up : nextP 0 0 = (([] : List Int), (2 : Int), true) ∧ nextP 1 0 = (([5, 7] : List Int), (6 : Int), true) ∧ nextP 2 0 = (([] : List Int), (2 : Int), false) ∧ nextP 3 0 = (([] : List Int), (3 : Int), false) ∧ nextP 4 0 = (([] : List Int), (4 : Int), false) ∧ nextP 5 0 = (([] : List Int), (5 : Int), false) ∧ nextP 6 0 = (([] : List Int), (6 : Int), false) ∧ nextP 7 0 = (([] : List Int), (7 : Int), false) ∧ nextP 8 0 = (([] : List Int), (8 : Int), false) ∧ nextP 9 0 = (([] : List Int), (9 : Int), false) := by decide +kernel
set_option maxRecDepth 20000 in
theorem c_rup (s : Int) (h : 0 ≤ s ∧ s ≤ 9) (σ : St) : VCalls Tryz.prog 222 [.int .i64 s] σ fun r σ' => r = nxV (nextP s 0) ∧ σ' = σ := by
  refine vcalls_intro (C := cfg Tryz.prog [] [] []) (cfg_ok mixed) Tryz.func222 rfl rfl rfl rfl rfl ?_
  obtain ⟨q0, q1, q2, q3, q4, q5, q6, q7, q8, q9⟩ := nx_up
  have hs : s = 0 ∨ s = 1 ∨ s = 2 ∨ s = 3 ∨ s = 4 ∨ s = 5 ∨ s = 6 ∨ s = 7 ∨ s = 8 ∨ s = 9 := by omega
  rcases hs with rfl | rfl | rfl | rfl | rfl | rfl | rfl | rfl | rfl | rfl
  · rw [q0]
    simp -implicitDefEqProofs only [go_sem]
    refine vgo_call rfl rfl rfl rfl (c_rstay _ _) ?_
    simp -implicitDefEqProofs only [go_sem]
    rfl
  · rw [q1]
    simp -implicitDefEqProofs only [go_sem]
    refine vgo_call rfl rfl rfl rfl (c_rto _ _ _ _ _) ?_
    simp -implicitDefEqProofs only [go_sem]
    rfl
  · rw [q2]
    simp -implicitDefEqProofs only [go_sem]
    refine vgo_call rfl rfl rfl rfl (c_rnever _ _) ?_
    simp -implicitDefEqProofs only [go_sem]
    rfl
  · rw [q3]
    simp -implicitDefEqProofs only [go_sem]
    refine vgo_call rfl rfl rfl rfl (c_rnever _ _) ?_
    simp -implicitDefEqProofs only [go_sem]
    rfl
  · rw [q4]
    simp -implicitDefEqProofs only [go_sem]
    refine vgo_call rfl rfl rfl rfl (c_rnever _ _) ?_
    simp -implicitDefEqProofs only [go_sem]
    rfl
  · rw [q5]
    simp -implicitDefEqProofs only [go_sem]
    refine vgo_call rfl rfl rfl rfl (c_rnever _ _) ?_
    simp -implicitDefEqProofs only [go_sem]
    rfl
  · rw [q6]
    simp -implicitDefEqProofs only [go_sem]
    refine vgo_call rfl rfl rfl rfl (c_rnever _ _) ?_
    simp -implicitDefEqProofs only [go_sem]
    rfl
  · rw [q7]
    simp -implicitDefEqProofs only [go_sem]
    refine vgo_call rfl rfl rfl rfl (c_rnever _ _) ?_
    simp -implicitDefEqProofs only [go_sem]
    rfl
  · rw [q8]
    simp -implicitDefEqProofs only [go_sem]
    refine vgo_call rfl rfl rfl rfl (c_rnever _ _) ?_
    simp -implicitDefEqProofs only [go_sem]
    rfl
  · rw [q9]
    simp -implicitDefEqProofs only [go_sem]
    refine vgo_call rfl rfl rfl rfl (c_rnever _ _) ?_
    simp -implicitDefEqProofs only [go_sem]
    rfl

theorem nx_down : nextP 0 1 = (([] : List Int), (0 : Int), false) ∧ nextP 1 1 = (([] : List Int), (1 : Int), false) ∧ nextP 2 1 = (([] : List Int), (0 : Int), true) ∧ nextP 3 1 = (([3] : List Int), (1 : Int), true) ∧ nextP 4 1 = (([] : List Int), (0 : Int), true) ∧ nextP 5 1 = (([] : List Int), (1 : Int), true) ∧ nextP 6 1 = (([] : List Int), (1 : Int), true) ∧ nextP 7 1 = (([] : List Int), (1 : Int), true) ∧ nextP 8 1 = (([] : List Int), (1 : Int), true) ∧ nextP 9 1 = (([2] : List Int), (1 : Int), true) := by decide +kernel
set_option maxRecDepth 20000 in
theorem c_rdown (s : Int) (h : 0 ≤ s ∧ s ≤ 9) (σ : St) : VCalls Tryz.prog 223 [.int .i64 s] σ fun r σ' => r = nxV (nextP s 1) ∧ σ' = σ := by
  refine vcalls_intro (C := cfg Tryz.prog [] [] []) (cfg_ok mixed) Tryz.func223 rfl rfl rfl rfl rfl ?_
  obtain ⟨q0, q1, q2, q3, q4, q5, q6, q7, q8, q9⟩ := nx_down
  have hs : s = 0 ∨ s = 1 ∨ s = 2 ∨ s = 3 ∨ s = 4 ∨ s = 5 ∨ s = 6 ∨ s = 7 ∨ s = 8 ∨ s = 9 := by omega
  rcases hs with rfl | rfl | rfl | rfl | rfl | rfl | rfl | rfl | rfl | rfl
  · rw [q0]
    simp -implicitDefEqProofs only [go_sem]
    refine vgo_call rfl rfl rfl rfl (c_rnever _ _) ?_
    simp -implicitDefEqProofs only [go_sem]
    rfl
  · rw [q1]
    simp -implicitDefEqProofs only [go_sem]
    refine vgo_call rfl rfl rfl rfl (c_rnever _ _) ?_
    simp -implicitDefEqProofs only [go_sem]
    rfl
  · rw [q2]
    simp -implicitDefEqProofs only [go_sem]
    refine vgo_call rfl rfl rfl rfl (c_rstay _ _) ?_
    simp -implicitDefEqProofs only [go_sem]
    rfl
  · rw [q3]
    simp -implicitDefEqProofs only [go_sem]
    refine vgo_call rfl rfl rfl rfl (c_rto _ _ _ _ _) ?_
    simp -implicitDefEqProofs only [go_sem]
    rfl
  · rw [q4]
    simp -implicitDefEqProofs only [go_sem]
    refine vgo_call rfl rfl rfl rfl (c_rstay _ _) ?_
    simp -implicitDefEqProofs only [go_sem]
    rfl
  · rw [q5]
    simp -implicitDefEqProofs only [go_sem]
    refine vgo_call rfl rfl rfl rfl (c_rstay _ _) ?_
    simp -implicitDefEqProofs only [go_sem]
    rfl
  · rw [q6]
    simp -implicitDefEqProofs only [go_sem]
    refine vgo_call rfl rfl rfl rfl (c_rstay _ _) ?_
    simp -implicitDefEqProofs only [go_sem]
    rfl
  · rw [q7]
    simp -implicitDefEqProofs only [go_sem]
    refine vgo_call rfl rfl rfl rfl (c_rstay _ _) ?_
    simp -implicitDefEqProofs only [go_sem]
    rfl
  · rw [q8]
    simp -implicitDefEqProofs only [go_sem]
    refine vgo_call rfl rfl rfl rfl (c_rstay _ _) ?_
    simp -implicitDefEqProofs only [go_sem]
    rfl
  · rw [q9]
    simp -implicitDefEqProofs only [go_sem]
    refine vgo_call rfl rfl rfl rfl (c_rto _ _ _ _ _) ?_
    simp -implicitDefEqProofs only [go_sem]
    rfl

theorem nx_opened : nextP 0 2 = (([3] : List Int), (1 : Int), true) ∧ nextP 1 2 = (([] : List Int), (1 : Int), true) ∧ nextP 2 2 = (([5, 7] : List Int), (6 : Int), true) ∧ nextP 3 2 = (([] : List Int), (3 : Int), true) ∧ nextP 4 2 = (([] : List Int), (5 : Int), true) ∧ nextP 5 2 = (([] : List Int), (5 : Int), true) ∧ nextP 6 2 = (([] : List Int), (6 : Int), true) ∧ nextP 7 2 = (([] : List Int), (7 : Int), true) ∧ nextP 8 2 = (([] : List Int), (8 : Int), true) ∧ nextP 9 2 = (([] : List Int), (9 : Int), true) := by decide +kernel
set_option maxRecDepth 20000 in
theorem c_ropened (s : Int) (h : 0 ≤ s ∧ s ≤ 9) (σ : St) : VCalls Tryz.prog 224 [.int .i64 s] σ fun r σ' => r = nxV (nextP s 2) ∧ σ' = σ := by
  refine vcalls_intro (C := cfg Tryz.prog [] [] []) (cfg_ok mixed) Tryz.func224 rfl rfl rfl rfl rfl ?_
  obtain ⟨q0, q1, q2, q3, q4, q5, q6, q7, q8, q9⟩ := nx_opened
  have hs : s = 0 ∨ s = 1 ∨ s = 2 ∨ s = 3 ∨ s = 4 ∨ s = 5 ∨ s = 6 ∨ s = 7 ∨ s = 8 ∨ s = 9 := by omega
  rcases hs with rfl | rfl | rfl | rfl | rfl | rfl | rfl | rfl | rfl | rfl
  · rw [q0]
    simp -implicitDefEqProofs only [go_sem]
    refine vgo_call rfl rfl rfl rfl (c_rto _ _ _ _ _) ?_
    simp -implicitDefEqProofs only [go_sem]
    rfl
  · rw [q1]
    simp -implicitDefEqProofs only [go_sem]
    refine vgo_call rfl rfl rfl rfl (c_rstay _ _) ?_
    simp -implicitDefEqProofs only [go_sem]
    rfl
  · rw [q2]
    simp -implicitDefEqProofs only [go_sem]
    refine vgo_call rfl rfl rfl rfl (c_rto _ _ _ _ _) ?_
    simp -implicitDefEqProofs only [go_sem]
    rfl
  · rw [q3]
    simp -implicitDefEqProofs only [go_sem]
    refine vgo_call rfl rfl rfl rfl (c_rstay _ _) ?_
    simp -implicitDefEqProofs only [go_sem]
    rfl
  · rw [q4]
    simp -implicitDefEqProofs only [go_sem]
    refine vgo_call rfl rfl rfl rfl (c_rstay _ _) ?_
    simp -implicitDefEqProofs only [go_sem]
    rfl
  · rw [q5]
    simp -implicitDefEqProofs only [go_sem]
    refine vgo_call rfl rfl rfl rfl (c_rstay _ _) ?_
    simp -implicitDefEqProofs only [go_sem]
    rfl
  · rw [q6]
    simp -implicitDefEqProofs only [go_sem]
    refine vgo_call rfl rfl rfl rfl (c_rstay _ _) ?_
    simp -implicitDefEqProofs only [go_sem]
    rfl
  · rw [q7]
    simp -implicitDefEqProofs only [go_sem]
    refine vgo_call rfl rfl rfl rfl (c_rstay _ _) ?_
    simp -implicitDefEqProofs only [go_sem]
    rfl
  · rw [q8]
    simp -implicitDefEqProofs only [go_sem]
    refine vgo_call rfl rfl rfl rfl (c_rstay _ _) ?_
    simp -implicitDefEqProofs only [go_sem]
    rfl
  · rw [q9]
    simp -implicitDefEqProofs only [go_sem]
    refine vgo_call rfl rfl rfl rfl (c_rstay _ _) ?_
    simp -implicitDefEqProofs only [go_sem]
    rfl

theorem nx_closed : nextP 0 3 = (([] : List Int), (0 : Int), true) ∧ nextP 1 3 = (([4] : List Int), (0 : Int), true) ∧ nextP 2 3 = (([] : List Int), (2 : Int), true) ∧ nextP 3 3 = (([] : List Int), (2 : Int), true) ∧ nextP 4 3 = (([] : List Int), (4 : Int), true) ∧ nextP 5 3 = (([] : List Int), (4 : Int), true) ∧ nextP 6 3 = (([5, 10] : List Int), (4 : Int), true) ∧ nextP 7 3 = (([5, 10] : List Int), (4 : Int), true) ∧ nextP 8 3 = (([5, 10] : List Int), (4 : Int), true) ∧ nextP 9 3 = (([2, 5, 10] : List Int), (4 : Int), true) := by decide +kernel
set_option maxRecDepth 20000 in
theorem c_rclosed (s : Int) (h : 0 ≤ s ∧ s ≤ 9) (σ : St) : VCalls Tryz.prog 225 [.int .i64 s] σ fun r σ' => r = nxV (nextP s 3) ∧ σ' = σ := by
  refine vcalls_intro (C := cfg Tryz.prog [] [] []) (cfg_ok mixed) Tryz.func225 rfl rfl rfl rfl rfl ?_
  obtain ⟨q0, q1, q2, q3, q4, q5, q6, q7, q8, q9⟩ := nx_closed
  have hs : s = 0 ∨ s = 1 ∨ s = 2 ∨ s = 3 ∨ s = 4 ∨ s = 5 ∨ s = 6 ∨ s = 7 ∨ s = 8 ∨ s = 9 := by omega
  rcases hs with rfl | rfl | rfl | rfl | rfl | rfl | rfl | rfl | rfl | rfl
  · rw [q0]
    simp -implicitDefEqProofs only [go_sem]
    refine vgo_call rfl rfl rfl rfl (c_rstay _ _) ?_
    simp -implicitDefEqProofs only [go_sem]
    rfl
  · rw [q1]
    simp -implicitDefEqProofs only [go_sem]
    refine vgo_call rfl rfl rfl rfl (c_rto _ _ _ _ _) ?_
    simp -implicitDefEqProofs only [go_sem]
    rfl
  · rw [q2]
    simp -implicitDefEqProofs only [go_sem]
    refine vgo_call rfl rfl rfl rfl (c_rstay _ _) ?_
    simp -implicitDefEqProofs only [go_sem]
    rfl
  · rw [q3]
    simp -implicitDefEqProofs only [go_sem]
    refine vgo_call rfl rfl rfl rfl (c_rstay _ _) ?_
    simp -implicitDefEqProofs only [go_sem]
    rfl
  · rw [q4]
    simp -implicitDefEqProofs only [go_sem]
    refine vgo_call rfl rfl rfl rfl (c_rstay _ _) ?_
    simp -implicitDefEqProofs only [go_sem]
    rfl
  · rw [q5]
    simp -implicitDefEqProofs only [go_sem]
    refine vgo_call rfl rfl rfl rfl (c_rstay _ _) ?_
    simp -implicitDefEqProofs only [go_sem]
    rfl
  · rw [q6]
    simp -implicitDefEqProofs only [go_sem]
    refine vgo_call rfl rfl rfl rfl (c_rto _ _ _ _ _) ?_
    simp -implicitDefEqProofs only [go_sem]
    rfl
  · rw [q7]
    simp -implicitDefEqProofs only [go_sem]
    refine vgo_call rfl rfl rfl rfl (c_rto _ _ _ _ _) ?_
    simp -implicitDefEqProofs only [go_sem]
    rfl
  · rw [q8]
    simp -implicitDefEqProofs only [go_sem]
    refine vgo_call rfl rfl rfl rfl (c_rto _ _ _ _ _) ?_
    simp -implicitDefEqProofs only [go_sem]
    rfl
  · rw [q9]
    simp -implicitDefEqProofs only [go_sem]
    refine vgo_call rfl rfl rfl rfl (c_rto _ _ _ _ _) ?_
    simp -implicitDefEqProofs only [go_sem]
    rfl

theorem nx_timeout4 : nextP 0 4 = (([] : List Int), (0 : Int), false) ∧ nextP 1 4 = (([] : List Int), (1 : Int), false) ∧ nextP 2 4 = (([] : List Int), (2 : Int), false) ∧ nextP 3 4 = (([] : List Int), (3 : Int), false) ∧ nextP 4 4 = (([10] : List Int), (4 : Int), true) ∧ nextP 5 4 = (([10] : List Int), (5 : Int), true) ∧ nextP 6 4 = (([7] : List Int), (6 : Int), true) ∧ nextP 7 4 = (([7] : List Int), (6 : Int), true) ∧ nextP 8 4 = (([7] : List Int), (8 : Int), true) ∧ nextP 9 4 = (([] : List Int), (9 : Int), false) := by decide +kernel
set_option maxRecDepth 20000 in
theorem c_rtimeout4 (s : Int) (h : 0 ≤ s ∧ s ≤ 9) (σ : St) : VCalls Tryz.prog 226 [.int .i64 s, .bool true] σ fun r σ' => r = nxV (nextP s 4) ∧ σ' = σ := by
  refine vcalls_intro (C := cfg Tryz.prog [] [] []) (cfg_ok mixed) Tryz.func226 rfl rfl rfl rfl rfl ?_
  obtain ⟨q0, q1, q2, q3, q4, q5, q6, q7, q8, q9⟩ := nx_timeout4
  have hs : s = 0 ∨ s = 1 ∨ s = 2 ∨ s = 3 ∨ s = 4 ∨ s = 5 ∨ s = 6 ∨ s = 7 ∨ s = 8 ∨ s = 9 := by omega
  rcases hs with rfl | rfl | rfl | rfl | rfl | rfl | rfl | rfl | rfl | rfl
  · rw [q0]
    simp -implicitDefEqProofs only [go_sem]
    refine vgo_call rfl rfl rfl rfl (c_rnever _ _) ?_
    simp -implicitDefEqProofs only [go_sem]
    rfl
  · rw [q1]
    simp -implicitDefEqProofs only [go_sem]
    refine vgo_call rfl rfl rfl rfl (c_rnever _ _) ?_
    simp -implicitDefEqProofs only [go_sem]
    rfl
  · rw [q2]
    simp -implicitDefEqProofs only [go_sem]
    refine vgo_call rfl rfl rfl rfl (c_rnever _ _) ?_
    simp -implicitDefEqProofs only [go_sem]
    rfl
  · rw [q3]
    simp -implicitDefEqProofs only [go_sem]
    refine vgo_call rfl rfl rfl rfl (c_rnever _ _) ?_
    simp -implicitDefEqProofs only [go_sem]
    rfl
  · rw [q4]
    simp -implicitDefEqProofs only [go_sem]
    refine vgo_call rfl rfl rfl rfl (c_rto _ _ _ _ _) ?_
    simp -implicitDefEqProofs only [go_sem]
    rfl
  · rw [q5]
    simp -implicitDefEqProofs only [go_sem]
    refine vgo_call rfl rfl rfl rfl (c_rto _ _ _ _ _) ?_
    simp -implicitDefEqProofs only [go_sem]
    rfl
  · rw [q6]
    simp -implicitDefEqProofs only [go_sem]
    refine vgo_call rfl rfl rfl rfl (c_rto _ _ _ _ _) ?_
    simp -implicitDefEqProofs only [go_sem]
    rfl
  · rw [q7]
    simp -implicitDefEqProofs only [go_sem]
    refine vgo_call rfl rfl rfl rfl (c_rto _ _ _ _ _) ?_
    simp -implicitDefEqProofs only [go_sem]
    rfl
  · rw [q8]
    simp -implicitDefEqProofs only [go_sem]
    refine vgo_call rfl rfl rfl rfl (c_rto _ _ _ _ _) ?_
    simp -implicitDefEqProofs only [go_sem]
    rfl
  · rw [q9]
    simp -implicitDefEqProofs only [go_sem]
    refine vgo_call rfl rfl rfl rfl (c_rnever _ _) ?_
    simp -implicitDefEqProofs only [go_sem]
    rfl

theorem nx_timeout5 : nextP 0 5 = (([] : List Int), (0 : Int), false) ∧ nextP 1 5 = (([] : List Int), (1 : Int), false) ∧ nextP 2 5 = (([] : List Int), (2 : Int), false) ∧ nextP 3 5 = (([] : List Int), (3 : Int), false) ∧ nextP 4 5 = (([4] : List Int), (2 : Int), true) ∧ nextP 5 5 = (([4] : List Int), (3 : Int), true) ∧ nextP 6 5 = (([4] : List Int), (3 : Int), true) ∧ nextP 7 5 = (([4] : List Int), (3 : Int), true) ∧ nextP 8 5 = (([4] : List Int), (3 : Int), true) ∧ nextP 9 5 = (([] : List Int), (9 : Int), false) := by decide +kernel
set_option maxRecDepth 20000 in
theorem c_rtimeout5 (s : Int) (h : 0 ≤ s ∧ s ≤ 9) (σ : St) : VCalls Tryz.prog 226 [.int .i64 s, .bool false] σ fun r σ' => r = nxV (nextP s 5) ∧ σ' = σ := by
  refine vcalls_intro (C := cfg Tryz.prog [] [] []) (cfg_ok mixed) Tryz.func226 rfl rfl rfl rfl rfl ?_
  obtain ⟨q0, q1, q2, q3, q4, q5, q6, q7, q8, q9⟩ := nx_timeout5
  have hs : s = 0 ∨ s = 1 ∨ s = 2 ∨ s = 3 ∨ s = 4 ∨ s = 5 ∨ s = 6 ∨ s = 7 ∨ s = 8 ∨ s = 9 := by omega
  rcases hs with rfl | rfl | rfl | rfl | rfl | rfl | rfl | rfl | rfl | rfl
  · rw [q0]
    simp -implicitDefEqProofs only [go_sem]
    refine vgo_call rfl rfl rfl rfl (c_rnever _ _) ?_
    simp -implicitDefEqProofs only [go_sem]
    rfl
  · rw [q1]
    simp -implicitDefEqProofs only [go_sem]
    refine vgo_call rfl rfl rfl rfl (c_rnever _ _) ?_
    simp -implicitDefEqProofs only [go_sem]
    rfl
  · rw [q2]
    simp -implicitDefEqProofs only [go_sem]
    refine vgo_call rfl rfl rfl rfl (c_rnever _ _) ?_
    simp -implicitDefEqProofs only [go_sem]
    rfl
  · rw [q3]
    simp -implicitDefEqProofs only [go_sem]
    refine vgo_call rfl rfl rfl rfl (c_rnever _ _) ?_
    simp -implicitDefEqProofs only [go_sem]
    rfl
  · rw [q4]
    simp -implicitDefEqProofs only [go_sem]
    refine vgo_call rfl rfl rfl rfl (c_rto _ _ _ _ _) ?_
    simp -implicitDefEqProofs only [go_sem]
    rfl
  · rw [q5]
    simp -implicitDefEqProofs only [go_sem]
    refine vgo_call rfl rfl rfl rfl (c_rto _ _ _ _ _) ?_
    simp -implicitDefEqProofs only [go_sem]
    rfl
  · rw [q6]
    simp -implicitDefEqProofs only [go_sem]
    refine vgo_call rfl rfl rfl rfl (c_rto _ _ _ _ _) ?_
    simp -implicitDefEqProofs only [go_sem]
    rfl
  · rw [q7]
    simp -implicitDefEqProofs only [go_sem]
    refine vgo_call rfl rfl rfl rfl (c_rto _ _ _ _ _) ?_
    simp -implicitDefEqProofs only [go_sem]
    rfl
  · rw [q8]
    simp -implicitDefEqProofs only [go_sem]
    refine vgo_call rfl rfl rfl rfl (c_rto _ _ _ _ _) ?_
    simp -implicitDefEqProofs only [go_sem]
    rfl
  · rw [q9]
    simp -implicitDefEqProofs only [go_sem]
    refine vgo_call rfl rfl rfl rfl (c_rnever _ _) ?_
    simp -implicitDefEqProofs only [go_sem]
    rfl

theorem nx_request6 : nextP 2 6 = (([11] : List Int), (2 : Int), true) ∧ nextP 3 6 = (([5, 7, 8] : List Int), (8 : Int), true) ∧ nextP 4 6 = (([] : List Int), (4 : Int), true) ∧ nextP 5 6 = (([] : List Int), (5 : Int), true) ∧ nextP 6 6 = (([8] : List Int), (8 : Int), true) ∧ nextP 7 6 = (([8, 1] : List Int), (9 : Int), true) ∧ nextP 8 6 = (([8] : List Int), (8 : Int), true) ∧ nextP 9 6 = (([2, 7, 8] : List Int), (8 : Int), true) := by decide +kernel
set_option maxRecDepth 20000 in
theorem c_rrequest6 (s : Int) (h : 2 ≤ s ∧ s ≤ 9) (σ : St) : VCalls Tryz.prog 227 [.int .i64 s, .bool true, .int .i64 8] σ fun r σ' => r = nxV (nextP s 6) ∧ σ' = σ := by
  refine vcalls_intro (C := cfg Tryz.prog [] [] []) (cfg_ok mixed) Tryz.func227 rfl rfl rfl rfl rfl ?_
  obtain ⟨q2, q3, q4, q5, q6, q7, q8, q9⟩ := nx_request6
  have hs : s = 2 ∨ s = 3 ∨ s = 4 ∨ s = 5 ∨ s = 6 ∨ s = 7 ∨ s = 8 ∨ s = 9 := by omega
  rcases hs with rfl | rfl | rfl | rfl | rfl | rfl | rfl | rfl
  · rw [q2]
    simp -implicitDefEqProofs only [go_sem]
    refine vgo_call rfl rfl rfl rfl (c_rto _ _ _ _ _) ?_
    simp -implicitDefEqProofs only [go_sem]
    rfl
  · rw [q3]
    simp -implicitDefEqProofs only [go_sem]
    refine vgo_call rfl rfl rfl rfl (c_rto _ _ _ _ _) ?_
    simp -implicitDefEqProofs only [go_sem]
    rfl
  · rw [q4]
    simp -implicitDefEqProofs only [go_sem]
    refine vgo_call rfl rfl rfl rfl (c_rstay _ _) ?_
    simp -implicitDefEqProofs only [go_sem]
    rfl
  · rw [q5]
    simp -implicitDefEqProofs only [go_sem]
    refine vgo_call rfl rfl rfl rfl (c_rstay _ _) ?_
    simp -implicitDefEqProofs only [go_sem]
    rfl
  · rw [q6]
    simp -implicitDefEqProofs only [go_sem]
    refine vgo_call rfl rfl rfl rfl (c_rto _ _ _ _ _) ?_
    simp -implicitDefEqProofs only [go_sem]
    rfl
  · rw [q7]
    simp -implicitDefEqProofs only [go_sem]
    refine vgo_call rfl rfl rfl rfl (c_rto _ _ _ _ _) ?_
    simp -implicitDefEqProofs only [go_sem]
    rfl
  · rw [q8]
    simp -implicitDefEqProofs only [go_sem]
    refine vgo_call rfl rfl rfl rfl (c_rto _ _ _ _ _) ?_
    simp -implicitDefEqProofs only [go_sem]
    rfl
  · rw [q9]
    simp -implicitDefEqProofs only [go_sem]
    refine vgo_call rfl rfl rfl rfl (c_rto _ _ _ _ _) ?_
    simp -implicitDefEqProofs only [go_sem]
    rfl

theorem nx_request7 : nextP 2 7 = (([11] : List Int), (2 : Int), true) ∧ nextP 3 7 = (([5, 7, 9] : List Int), (6 : Int), true) ∧ nextP 4 7 = (([] : List Int), (4 : Int), true) ∧ nextP 5 7 = (([] : List Int), (5 : Int), true) ∧ nextP 6 7 = (([9] : List Int), (6 : Int), true) ∧ nextP 7 7 = (([9] : List Int), (7 : Int), true) ∧ nextP 8 7 = (([9] : List Int), (6 : Int), true) ∧ nextP 9 7 = (([2, 7, 9] : List Int), (6 : Int), true) := by decide +kernel
set_option maxRecDepth 20000 in
theorem c_rrequest7 (s : Int) (h : 2 ≤ s ∧ s ≤ 9) (σ : St) : VCalls Tryz.prog 227 [.int .i64 s, .bool false, .int .i64 9] σ fun r σ' => r = nxV (nextP s 7) ∧ σ' = σ := by
  refine vcalls_intro (C := cfg Tryz.prog [] [] []) (cfg_ok mixed) Tryz.func227 rfl rfl rfl rfl rfl ?_
  obtain ⟨q2, q3, q4, q5, q6, q7, q8, q9⟩ := nx_request7
  have hs : s = 2 ∨ s = 3 ∨ s = 4 ∨ s = 5 ∨ s = 6 ∨ s = 7 ∨ s = 8 ∨ s = 9 := by omega
  rcases hs with rfl | rfl | rfl | rfl | rfl | rfl | rfl | rfl
  · rw [q2]
    simp -implicitDefEqProofs only [go_sem]
    refine vgo_call rfl rfl rfl rfl (c_rto _ _ _ _ _) ?_
    simp -implicitDefEqProofs only [go_sem]
    rfl
  · rw [q3]
    simp -implicitDefEqProofs only [go_sem]
    refine vgo_call rfl rfl rfl rfl (c_rto _ _ _ _ _) ?_
    simp -implicitDefEqProofs only [go_sem]
    rfl
  · rw [q4]
    simp -implicitDefEqProofs only [go_sem]
    refine vgo_call rfl rfl rfl rfl (c_rstay _ _) ?_
    simp -implicitDefEqProofs only [go_sem]
    rfl
  · rw [q5]
    simp -implicitDefEqProofs only [go_sem]
    refine vgo_call rfl rfl rfl rfl (c_rstay _ _) ?_
    simp -implicitDefEqProofs only [go_sem]
    rfl
  · rw [q6]
    simp -implicitDefEqProofs only [go_sem]
    refine vgo_call rfl rfl rfl rfl (c_rto _ _ _ _ _) ?_
    simp -implicitDefEqProofs only [go_sem]
    rfl
  · rw [q7]
    simp -implicitDefEqProofs only [go_sem]
    refine vgo_call rfl rfl rfl rfl (c_rto _ _ _ _ _) ?_
    simp -implicitDefEqProofs only [go_sem]
    rfl
  · rw [q8]
    simp -implicitDefEqProofs only [go_sem]
    refine vgo_call rfl rfl rfl rfl (c_rto _ _ _ _ _) ?_
    simp -implicitDefEqProofs only [go_sem]
    rfl
  · rw [q9]
    simp -implicitDefEqProofs only [go_sem]
    refine vgo_call rfl rfl rfl rfl (c_rto _ _ _ _ _) ?_
    simp -implicitDefEqProofs only [go_sem]
    rfl

theorem nx_answer8 : nextP 2 8 = (([11] : List Int), (2 : Int), true) ∧ nextP 3 8 = (([11] : List Int), (3 : Int), true) ∧ nextP 4 8 = (([] : List Int), (4 : Int), true) ∧ nextP 5 8 = (([] : List Int), (5 : Int), true) ∧ nextP 6 8 = (([5] : List Int), (7 : Int), true) ∧ nextP 7 8 = (([7] : List Int), (6 : Int), true) ∧ nextP 8 8 = (([5, 1] : List Int), (9 : Int), true) ∧ nextP 9 8 = (([2, 7] : List Int), (6 : Int), true) := by decide +kernel
set_option maxRecDepth 20000 in
theorem c_ranswer8 (s : Int) (h : 2 ≤ s ∧ s ≤ 9) (σ : St) : VCalls Tryz.prog 228 [.int .i64 s, .bool true] σ fun r σ' => r = nxV (nextP s 8) ∧ σ' = σ := by
  refine vcalls_intro (C := cfg Tryz.prog [] [] []) (cfg_ok mixed) Tryz.func228 rfl rfl rfl rfl rfl ?_
  obtain ⟨q2, q3, q4, q5, q6, q7, q8, q9⟩ := nx_answer8
  have hs : s = 2 ∨ s = 3 ∨ s = 4 ∨ s = 5 ∨ s = 6 ∨ s = 7 ∨ s = 8 ∨ s = 9 := by omega
  rcases hs with rfl | rfl | rfl | rfl | rfl | rfl | rfl | rfl
  · rw [q2]
    simp -implicitDefEqProofs only [go_sem]
    refine vgo_call rfl rfl rfl rfl (c_rto _ _ _ _ _) ?_
    simp -implicitDefEqProofs only [go_sem]
    rfl
  · rw [q3]
    simp -implicitDefEqProofs only [go_sem]
    refine vgo_call rfl rfl rfl rfl (c_rto _ _ _ _ _) ?_
    simp -implicitDefEqProofs only [go_sem]
    rfl
  · rw [q4]
    simp -implicitDefEqProofs only [go_sem]
    refine vgo_call rfl rfl rfl rfl (c_rstay _ _) ?_
    simp -implicitDefEqProofs only [go_sem]
    rfl
  · rw [q5]
    simp -implicitDefEqProofs only [go_sem]
    refine vgo_call rfl rfl rfl rfl (c_rstay _ _) ?_
    simp -implicitDefEqProofs only [go_sem]
    rfl
  · rw [q6]
    simp -implicitDefEqProofs only [go_sem]
    refine vgo_call rfl rfl rfl rfl (c_rto _ _ _ _ _) ?_
    simp -implicitDefEqProofs only [go_sem]
    rfl
  · rw [q7]
    simp -implicitDefEqProofs only [go_sem]
    refine vgo_call rfl rfl rfl rfl (c_rto _ _ _ _ _) ?_
    simp -implicitDefEqProofs only [go_sem]
    rfl
  · rw [q8]
    simp -implicitDefEqProofs only [go_sem]
    refine vgo_call rfl rfl rfl rfl (c_rto _ _ _ _ _) ?_
    simp -implicitDefEqProofs only [go_sem]
    rfl
  · rw [q9]
    simp -implicitDefEqProofs only [go_sem]
    refine vgo_call rfl rfl rfl rfl (c_rto _ _ _ _ _) ?_
    simp -implicitDefEqProofs only [go_sem]
    rfl

theorem nx_answer9 : nextP 2 9 = (([11] : List Int), (2 : Int), true) ∧ nextP 3 9 = (([11] : List Int), (3 : Int), true) ∧ nextP 4 9 = (([] : List Int), (4 : Int), true) ∧ nextP 5 9 = (([] : List Int), (5 : Int), true) ∧ nextP 6 9 = (([5, 7] : List Int), (6 : Int), true) ∧ nextP 7 9 = (([7] : List Int), (6 : Int), true) ∧ nextP 8 9 = (([5, 7] : List Int), (8 : Int), true) ∧ nextP 9 9 = (([2, 7] : List Int), (6 : Int), true) := by decide +kernel
set_option maxRecDepth 20000 in
theorem c_ranswer9 (s : Int) (h : 2 ≤ s ∧ s ≤ 9) (σ : St) : VCalls Tryz.prog 228 [.int .i64 s, .bool false] σ fun r σ' => r = nxV (nextP s 9) ∧ σ' = σ := by
  refine vcalls_intro (C := cfg Tryz.prog [] [] []) (cfg_ok mixed) Tryz.func228 rfl rfl rfl rfl rfl ?_
  obtain ⟨q2, q3, q4, q5, q6, q7, q8, q9⟩ := nx_answer9
  have hs : s = 2 ∨ s = 3 ∨ s = 4 ∨ s = 5 ∨ s = 6 ∨ s = 7 ∨ s = 8 ∨ s = 9 := by omega
  rcases hs with rfl | rfl | rfl | rfl | rfl | rfl | rfl | rfl
  · rw [q2]
    simp -implicitDefEqProofs only [go_sem]
    refine vgo_call rfl rfl rfl rfl (c_rto _ _ _ _ _) ?_
    simp -implicitDefEqProofs only [go_sem]
    rfl
  · rw [q3]
    simp -implicitDefEqProofs only [go_sem]
    refine vgo_call rfl rfl rfl rfl (c_rto _ _ _ _ _) ?_
    simp -implicitDefEqProofs only [go_sem]
    rfl
  · rw [q4]
    simp -implicitDefEqProofs only [go_sem]
    refine vgo_call rfl rfl rfl rfl (c_rstay _ _) ?_
    simp -implicitDefEqProofs only [go_sem]
    rfl
  · rw [q5]
    simp -implicitDefEqProofs only [go_sem]
    refine vgo_call rfl rfl rfl rfl (c_rstay _ _) ?_
    simp -implicitDefEqProofs only [go_sem]
    rfl
  · rw [q6]
    simp -implicitDefEqProofs only [go_sem]
    refine vgo_call rfl rfl rfl rfl (c_rto _ _ _ _ _) ?_
    simp -implicitDefEqProofs only [go_sem]
    rfl
  · rw [q7]
    simp -implicitDefEqProofs only [go_sem]
    refine vgo_call rfl rfl rfl rfl (c_rto _ _ _ _ _) ?_
    simp -implicitDefEqProofs only [go_sem]
    rfl
  · rw [q8]
    simp -implicitDefEqProofs only [go_sem]
    refine vgo_call rfl rfl rfl rfl (c_rto _ _ _ _ _) ?_
    simp -implicitDefEqProofs only [go_sem]
    rfl
  · rw [q9]
    simp -implicitDefEqProofs only [go_sem]
    refine vgo_call rfl rfl rfl rfl (c_rto _ _ _ _ _) ?_
    simp -implicitDefEqProofs only [go_sem]
    rfl

theorem nx_end : nextP 2 10 = (([11] : List Int), (2 : Int), true) ∧ nextP 3 10 = (([11] : List Int), (3 : Int), true) ∧ nextP 4 10 = (([11] : List Int), (4 : Int), true) ∧ nextP 5 10 = (([11] : List Int), (5 : Int), true) ∧ nextP 6 10 = (([11] : List Int), (6 : Int), true) ∧ nextP 7 10 = (([11] : List Int), (6 : Int), true) ∧ nextP 8 10 = (([11] : List Int), (6 : Int), true) ∧ nextP 9 10 = (([2, 6, 11] : List Int), (5 : Int), true) := by decide +kernel
set_option maxRecDepth 20000 in
theorem c_rend (s : Int) (h : 2 ≤ s ∧ s ≤ 9) (σ : St) : VCalls Tryz.prog 229 [.int .i64 s] σ fun r σ' => r = nxV (nextP s 10) ∧ σ' = σ := by
  refine vcalls_intro (C := cfg Tryz.prog [] [] []) (cfg_ok mixed) Tryz.func229 rfl rfl rfl rfl rfl ?_
  obtain ⟨q2, q3, q4, q5, q6, q7, q8, q9⟩ := nx_end
  have hs : s = 2 ∨ s = 3 ∨ s = 4 ∨ s = 5 ∨ s = 6 ∨ s = 7 ∨ s = 8 ∨ s = 9 := by omega
  rcases hs with rfl | rfl | rfl | rfl | rfl | rfl | rfl | rfl
  · rw [q2]
    simp -implicitDefEqProofs only [go_sem]
    refine vgo_call rfl rfl rfl rfl (c_rto _ _ _ _ _) ?_
    simp -implicitDefEqProofs only [go_sem]
    rfl
  · rw [q3]
    simp -implicitDefEqProofs only [go_sem]
    refine vgo_call rfl rfl rfl rfl (c_rto _ _ _ _ _) ?_
    simp -implicitDefEqProofs only [go_sem]
    rfl
  · rw [q4]
    simp -implicitDefEqProofs only [go_sem]
    refine vgo_call rfl rfl rfl rfl (c_rto _ _ _ _ _) ?_
    simp -implicitDefEqProofs only [go_sem]
    rfl
  · rw [q5]
    simp -implicitDefEqProofs only [go_sem]
    refine vgo_call rfl rfl rfl rfl (c_rto _ _ _ _ _) ?_
    simp -implicitDefEqProofs only [go_sem]
    rfl
  · rw [q6]
    simp -implicitDefEqProofs only [go_sem]
    refine vgo_call rfl rfl rfl rfl (c_rto _ _ _ _ _) ?_
    simp -implicitDefEqProofs only [go_sem]
    rfl
  · rw [q7]
    simp -implicitDefEqProofs only [go_sem]
    refine vgo_call rfl rfl rfl rfl (c_rto _ _ _ _ _) ?_
    simp -implicitDefEqProofs only [go_sem]
    rfl
  · rw [q8]
    simp -implicitDefEqProofs only [go_sem]
    refine vgo_call rfl rfl rfl rfl (c_rto _ _ _ _ _) ?_
    simp -implicitDefEqProofs only [go_sem]
    rfl
  · rw [q9]
    simp -implicitDefEqProofs only [go_sem]
    refine vgo_call rfl rfl rfl rfl (c_rto _ _ _ _ _) ?_
    simp -implicitDefEqProofs only [go_sem]
    rfl

theorem nx_ended : nextP 2 11 = (([] : List Int), (2 : Int), true) ∧ nextP 3 11 = (([] : List Int), (3 : Int), true) ∧ nextP 4 11 = (([4] : List Int), (2 : Int), true) ∧ nextP 5 11 = (([4] : List Int), (3 : Int), true) ∧ nextP 6 11 = (([] : List Int), (6 : Int), true) ∧ nextP 7 11 = (([] : List Int), (6 : Int), true) ∧ nextP 8 11 = (([] : List Int), (8 : Int), true) ∧ nextP 9 11 = (([2, 7] : List Int), (6 : Int), true) := by decide +kernel
set_option maxRecDepth 20000 in
theorem c_rended (s : Int) (h : 2 ≤ s ∧ s ≤ 9) (σ : St) : VCalls Tryz.prog 230 [.int .i64 s] σ fun r σ' => r = nxV (nextP s 11) ∧ σ' = σ := by
  refine vcalls_intro (C := cfg Tryz.prog [] [] []) (cfg_ok mixed) Tryz.func230 rfl rfl rfl rfl rfl ?_
  obtain ⟨q2, q3, q4, q5, q6, q7, q8, q9⟩ := nx_ended
  have hs : s = 2 ∨ s = 3 ∨ s = 4 ∨ s = 5 ∨ s = 6 ∨ s = 7 ∨ s = 8 ∨ s = 9 := by omega
  rcases hs with rfl | rfl | rfl | rfl | rfl | rfl | rfl | rfl
  · rw [q2]
    simp -implicitDefEqProofs only [go_sem]
    refine vgo_call rfl rfl rfl rfl (c_rstay _ _) ?_
    simp -implicitDefEqProofs only [go_sem]
    rfl
  · rw [q3]
    simp -implicitDefEqProofs only [go_sem]
    refine vgo_call rfl rfl rfl rfl (c_rstay _ _) ?_
    simp -implicitDefEqProofs only [go_sem]
    rfl
  · rw [q4]
    simp -implicitDefEqProofs only [go_sem]
    refine vgo_call rfl rfl rfl rfl (c_rto _ _ _ _ _) ?_
    simp -implicitDefEqProofs only [go_sem]
    rfl
  · rw [q5]
    simp -implicitDefEqProofs only [go_sem]
    refine vgo_call rfl rfl rfl rfl (c_rto _ _ _ _ _) ?_
    simp -implicitDefEqProofs only [go_sem]
    rfl
  · rw [q6]
    simp -implicitDefEqProofs only [go_sem]
    refine vgo_call rfl rfl rfl rfl (c_rstay _ _) ?_
    simp -implicitDefEqProofs only [go_sem]
    rfl
  · rw [q7]
    simp -implicitDefEqProofs only [go_sem]
    refine vgo_call rfl rfl rfl rfl (c_rstay _ _) ?_
    simp -implicitDefEqProofs only [go_sem]
    rfl
  · rw [q8]
    simp -implicitDefEqProofs only [go_sem]
    refine vgo_call rfl rfl rfl rfl (c_rstay _ _) ?_
    simp -implicitDefEqProofs only [go_sem]
    rfl
  · rw [q9]
    simp -implicitDefEqProofs only [go_sem]
    refine vgo_call rfl rfl rfl rfl (c_rto _ _ _ _ _) ?_
    simp -implicitDefEqProofs only [go_sem]
    rfl

theorem nx_reject13 : nextP 2 13 = (([] : List Int), (2 : Int), true) ∧ nextP 3 13 = (([] : List Int), (3 : Int), true) ∧ nextP 4 13 = (([] : List Int), (4 : Int), true) ∧ nextP 5 13 = (([] : List Int), (5 : Int), true) ∧ nextP 6 13 = (([] : List Int), (6 : Int), true) ∧ nextP 7 13 = (([] : List Int), (6 : Int), true) ∧ nextP 8 13 = (([] : List Int), (8 : Int), true) ∧ nextP 9 13 = (([] : List Int), (9 : Int), true) := by decide +kernel
set_option maxRecDepth 20000 in
theorem c_rreject13 (s : Int) (h : 2 ≤ s ∧ s ≤ 9) (σ : St) : VCalls Tryz.prog 232 [.int .i64 s, .bool true] σ fun r σ' => r = nxV (nextP s 13) ∧ σ' = σ := by
  refine vcalls_intro (C := cfg Tryz.prog [] [] []) (cfg_ok mixed) Tryz.func232 rfl rfl rfl rfl rfl ?_
  obtain ⟨q2, q3, q4, q5, q6, q7, q8, q9⟩ := nx_reject13
  have hs : s = 2 ∨ s = 3 ∨ s = 4 ∨ s = 5 ∨ s = 6 ∨ s = 7 ∨ s = 8 ∨ s = 9 := by omega
  rcases hs with rfl | rfl | rfl | rfl | rfl | rfl | rfl | rfl
  · rw [q2]
    simp -implicitDefEqProofs only [go_sem]
    refine vgo_call rfl rfl rfl rfl (c_rstay _ _) ?_
    simp -implicitDefEqProofs only [go_sem]
    rfl
  · rw [q3]
    simp -implicitDefEqProofs only [go_sem]
    refine vgo_call rfl rfl rfl rfl (c_rstay _ _) ?_
    simp -implicitDefEqProofs only [go_sem]
    rfl
  · rw [q4]
    simp -implicitDefEqProofs only [go_sem]
    refine vgo_call rfl rfl rfl rfl (c_rstay _ _) ?_
    simp -implicitDefEqProofs only [go_sem]
    rfl
  · rw [q5]
    simp -implicitDefEqProofs only [go_sem]
    refine vgo_call rfl rfl rfl rfl (c_rstay _ _) ?_
    simp -implicitDefEqProofs only [go_sem]
    rfl
  · rw [q6]
    simp -implicitDefEqProofs only [go_sem]
    refine vgo_call rfl rfl rfl rfl (c_rstay _ _) ?_
    simp -implicitDefEqProofs only [go_sem]
    rfl
  · rw [q7]
    simp -implicitDefEqProofs only [go_sem]
    refine vgo_call rfl rfl rfl rfl (c_rstay _ _) ?_
    simp -implicitDefEqProofs only [go_sem]
    rfl
  · rw [q8]
    simp -implicitDefEqProofs only [go_sem]
    refine vgo_call rfl rfl rfl rfl (c_rstay _ _) ?_
    simp -implicitDefEqProofs only [go_sem]
    rfl
  · rw [q9]
    simp -implicitDefEqProofs only [go_sem]
    refine vgo_call rfl rfl rfl rfl (c_rstay _ _) ?_
    simp -implicitDefEqProofs only [go_sem]
    rfl

theorem nx_reject14 : nextP 2 14 = (([4] : List Int), (2 : Int), true) ∧ nextP 3 14 = (([4] : List Int), (3 : Int), true) ∧ nextP 4 14 = (([4] : List Int), (2 : Int), true) ∧ nextP 5 14 = (([4] : List Int), (3 : Int), true) ∧ nextP 6 14 = (([4] : List Int), (3 : Int), true) ∧ nextP 7 14 = (([4] : List Int), (3 : Int), true) ∧ nextP 8 14 = (([4] : List Int), (3 : Int), true) ∧ nextP 9 14 = (([2, 5, 10] : List Int), (5 : Int), true) := by decide +kernel
set_option maxRecDepth 20000 in
theorem c_rreject14 (s : Int) (h : 2 ≤ s ∧ s ≤ 9) (σ : St) : VCalls Tryz.prog 232 [.int .i64 s, .bool false] σ fun r σ' => r = nxV (nextP s 14) ∧ σ' = σ := by
  refine vcalls_intro (C := cfg Tryz.prog [] [] []) (cfg_ok mixed) Tryz.func232 rfl rfl rfl rfl rfl ?_
  obtain ⟨q2, q3, q4, q5, q6, q7, q8, q9⟩ := nx_reject14
  have hs : s = 2 ∨ s = 3 ∨ s = 4 ∨ s = 5 ∨ s = 6 ∨ s = 7 ∨ s = 8 ∨ s = 9 := by omega
  rcases hs with rfl | rfl | rfl | rfl | rfl | rfl | rfl | rfl
  · rw [q2]
    simp -implicitDefEqProofs only [go_sem]
    refine vgo_call rfl rfl rfl rfl (c_rto _ _ _ _ _) ?_
    simp -implicitDefEqProofs only [go_sem]
    rfl
  · rw [q3]
    simp -implicitDefEqProofs only [go_sem]
    refine vgo_call rfl rfl rfl rfl (c_rto _ _ _ _ _) ?_
    simp -implicitDefEqProofs only [go_sem]
    rfl
  · rw [q4]
    simp -implicitDefEqProofs only [go_sem]
    refine vgo_call rfl rfl rfl rfl (c_rto _ _ _ _ _) ?_
    simp -implicitDefEqProofs only [go_sem]
    rfl
  · rw [q5]
    simp -implicitDefEqProofs only [go_sem]
    refine vgo_call rfl rfl rfl rfl (c_rto _ _ _ _ _) ?_
    simp -implicitDefEqProofs only [go_sem]
    rfl
  · rw [q6]
    simp -implicitDefEqProofs only [go_sem]
    refine vgo_call rfl rfl rfl rfl (c_rto _ _ _ _ _) ?_
    simp -implicitDefEqProofs only [go_sem]
    rfl
  · rw [q7]
    simp -implicitDefEqProofs only [go_sem]
    refine vgo_call rfl rfl rfl rfl (c_rto _ _ _ _ _) ?_
    simp -implicitDefEqProofs only [go_sem]
    rfl
  · rw [q8]
    simp -implicitDefEqProofs only [go_sem]
    refine vgo_call rfl rfl rfl rfl (c_rto _ _ _ _ _) ?_
    simp -implicitDefEqProofs only [go_sem]
    rfl
  · rw [q9]
    simp -implicitDefEqProofs only [go_sem]
    refine vgo_call rfl rfl rfl rfl (c_rto _ _ _ _ _) ?_
    simp -implicitDefEqProofs only [go_sem]
    rfl

end Go.VL

/- Contracts of this program's functions: the document's Next, rows of numbers. Conditions: none. -/
namespace Go.VL
open Go.Proofs

theorem c_rhas (nl c : Bool) (l : List Int) (n : Int) (hl : l.length ≤ 1000) (σ : St) : VCalls Tryz.prog 150 [.sl nl c 1 (zv64 l), .int .i64 n] σ fun r σ' => r = .bool (decide (n ∈ l)) ∧ σ' = σ := by
  refine vcalls_intro (C := cfg Tryz.prog [] [] []) (cfg_ok mixed) Tryz.func150 rfl rfl rfl rfl rfl ?_
  simp -implicitDefEqProofs only [go_sem]
  refine w_loop (fun i => i ≤ l.length ∧ n ∉ l.take i) (fun i => [(5, .int .i64 i), (1, .int .i64 n), (0, .sl nl c 1 (zv64 l))]) (fun _ => σ) (fun i => l.length - i) 0 ⟨Nat.zero_le _, by simp⟩ ?_ rfl ?_
  · simp -implicitDefEqProofs only [go_sem]
    rfl
  rintro i ⟨hi, hno⟩
  rcases Nat.lt_or_ge i l.length with h | h
  · have hw1 : IntKind.i64.wrap ((i : Int) + 1) = ((i + 1 : Nat) : Int) := wrap_ok (by omega) (by omega)
    simp -implicitDefEqProofs only [go_sem, zv_length, zv_getD h, h]
    cases q : l[i] == n
    · have hne : ¬ l[i] = n := by simpa using q
      simp -implicitDefEqProofs only [go_sem, q]
      refine l_next (i + 1) ⟨h, ?_⟩ (by omega) ?_ rfl
      · rw [List.take_succ_eq_append_getElem h, List.mem_append]
        rintro (hm | hm)
        · exact hno hm
        · exact hne (List.mem_singleton.1 hm).symm
      · simp -implicitDefEqProofs only [go_sem, hw1]
    · have he : l[i] = n := by simpa using q
      have hm : decide (n ∈ l) = true := by rw [decide_eq_true_iff, ← he]; exact List.getElem_mem h
      simp -implicitDefEqProofs only [go_sem, q]
      refine l_ret ?_
      simp -implicitDefEqProofs only [go_sem, hm]
  · have hn : ¬ (i < l.length) := by omega
    rw [List.take_of_length_le h] at hno
    have hm : decide (n ∈ l) = false := by rw [decide_eq_false_iff_not]; exact hno
    simp -implicitDefEqProofs only [go_sem, zv_length, hn]
    refine l_exit ?_
    simp -implicitDefEqProofs only [go_sem, hm]

theorem c_rints (nl c nl' c' : Bool) (l : List Int) (hl : l.length ≤ 1000) (σ : St) : VCalls Tryz.prog 82 [.sl nl c 1 (zv64 l), .sl nl' c' 1 (zv64 l)] σ fun r σ' => r = .bool true ∧ σ' = σ := by
  refine vcalls_intro (C := cfg Tryz.prog [] [] []) (cfg_ok mixed) Tryz.func82 rfl rfl rfl rfl rfl ?_
  have hz : (((l.length : Nat) : Int) == ((l.length : Nat) : Int)) = true := by simp
  simp -implicitDefEqProofs only [go_sem, zv_length, bne, hz, Bool.not_true]
  refine w_loop (fun i => i ≤ l.length) (fun i => [(5, .int .i64 i), (1, .sl nl' c' 1 (zv64 l)), (0, .sl nl c 1 (zv64 l))]) (fun _ => σ) (fun i => l.length - i) 0 (Nat.zero_le _) ?_ rfl ?_
  · simp -implicitDefEqProofs only [go_sem]
    rfl
  intro i hi
  rcases Nat.lt_or_ge i l.length with h | h
  · have hw1 : IntKind.i64.wrap ((i : Int) + 1) = ((i + 1 : Nat) : Int) := wrap_ok (by omega) (by omega)
    have he : (l[i] == l[i]) = true := by simp
    simp -implicitDefEqProofs only [go_sem, zv_length, zv_getD h, h]
    refine w_walk2 [] [0, 1, 2, 3, 4, 5, 6, 7, 8] [17, 18, 19, 20, 21, 22, 23, 24, 25] [0, 0, 3, 7, 0, 0, 48, 112, 255] rfl rfl rfl rfl ?_
    simp -implicitDefEqProofs only [go_sem, zv_length, zv_getD h, h, bne, he, Bool.not_true]
    refine l_next (i + 1) h (by omega) ?_ rfl
    simp -implicitDefEqProofs only [go_sem, hw1]
  · have hn : ¬ (i < l.length) := by omega
    simp -implicitDefEqProofs only [go_sem, zv_length, hn]
    refine l_exit ?_
    simp -implicitDefEqProofs only [go_sem]
theorem c_rintsS (l : List Int) (hl : l.length ≤ 1000) {u v : V} (hu : IsSl u 1 (zv64 l)) (hv : IsSl v 1 (zv64 l)) (σ : St) : VCalls Tryz.prog 82 [u, v] σ fun r σ' => r = .bool true ∧ σ' = σ := by
  obtain ⟨n1, h1⟩ := hu.ne
  obtain ⟨n2, h2⟩ := hv.ne
  exact (c_rints n1 false n2 false l hl σ).ne ⟨h1, h2, trivial⟩

theorem next_out {s e : Int} (h : ¬ (0 ≤ s ∧ s ≤ 9 ∧ 0 ≤ e ∧ e ≤ 15)) : nextP s e = ([], s, false) := by
  unfold nextP
  have : (decide (0 ≤ s) && decide (s ≤ 9) && decide (0 ≤ e) && decide (e ≤ 15)) = false := by
    cases hq : decide (0 ≤ s) && decide (s ≤ 9) && decide (0 ≤ e) && decide (e ≤ 15)
    · rfl
    · simp only [Bool.and_eq_true, decide_eq_true_eq] at hq
      exact absurd ⟨hq.1.1.1, hq.1.1.2, hq.1.2, hq.2⟩ h
  rw [this]
  rfl
theorem low_all : ∀ s : Fin 2, ∀ e : Fin 16, 5 < e.val → nextP s.val e.val = ([], (s.val : Int), false) := by decide +kernel
theorem next_low {s e : Int} (hs : 0 ≤ s) (h : s < 2) (h5 : 5 < e) : nextP s e = ([], s, false) := by
  rcases (by omega : 15 < e ∨ e ≤ 15) with he | he
  · exact next_out (by omega)
  · have := low_all ⟨s.toNat, by omega⟩ ⟨e.toNat, by omega⟩ (by show 5 < e.toNat; omega)
    have e1 : ((s.toNat : Nat) : Int) = s := by omega
    have e2 : ((e.toNat : Nat) : Int) = e := by omega
    simp only [e1, e2] at this
    exact this
theorem nxV_val (x : List Int × Int × Bool) : (nxV x).isVal = true := rfl

set_option maxHeartbeats 4000000 in
set_option maxRecDepth 20000 in
theorem c_rnext (s e : Int) (σ : St) : VCalls Tryz.prog 195 [.int .i64 s, .int .i64 e] σ fun r σ' => r = nxV (nextP s e) ∧ σ' = σ := by
  refine vcalls_intro (C := cfg Tryz.prog [] [] []) (cfg_ok mixed) Tryz.func195 rfl rfl rfl rfl rfl ?_
  have hout : nextP s e = ([], s, false) → V.tup [.sl true false 0 [], .int .i64 s, .bool false] = nxV (nextP s e) := fun h => by rw [h]; rfl
  cases d1 : decide (s < 0)
  case true =>
    simp -implicitDefEqProofs only [go_sem, d1]
    refine vgo_call rfl rfl rfl rfl (c_rnever _ _) ?_
    simp -implicitDefEqProofs only [go_sem]
    exact hout (next_out (by have := of_decide_eq_true d1; omega))
  cases d2 : decide ((9 : Int) < s)
  case true =>
    simp -implicitDefEqProofs only [go_sem, d1, d2]
    refine vgo_call rfl rfl rfl rfl (c_rnever _ _) ?_
    simp -implicitDefEqProofs only [go_sem]
    exact hout (next_out (by have := of_decide_eq_true d2; omega))
  cases d3 : decide (e < 0)
  case true =>
    simp -implicitDefEqProofs only [go_sem, d1, d2, d3]
    refine vgo_call rfl rfl rfl rfl (c_rnever _ _) ?_
    simp -implicitDefEqProofs only [go_sem]
    exact hout (next_out (by have := of_decide_eq_true d3; omega))
  cases d4 : decide ((15 : Int) < e)
  case true =>
    simp -implicitDefEqProofs only [go_sem, d1, d2, d3, d4]
    refine vgo_call rfl rfl rfl rfl (c_rnever _ _) ?_
    simp -implicitDefEqProofs only [go_sem]
    exact hout (next_out (by have := of_decide_eq_true d4; omega))
  have h1 := of_decide_eq_false d1
  have h2 := of_decide_eq_false d2
  have h3 := of_decide_eq_false d3
  have h4 := of_decide_eq_false d4
  cases d5 : decide ((5 : Int) < e)
  case false =>
    have h5 := of_decide_eq_false d5
    have he : e = 0 ∨ e = 1 ∨ e = 2 ∨ e = 3 ∨ e = 4 ∨ e = 5 := by omega
    have hs : 0 ≤ s ∧ s ≤ 9 := by omega
    rcases he with rfl | rfl | rfl | rfl | rfl | rfl
    all_goals simp -implicitDefEqProofs only [go_sem, d1, d2, d3, d4, d5]
    · refine vgo_call rfl rfl rfl (nxV_val _) (c_rup s hs σ) ?_
      simp -implicitDefEqProofs only [go_sem, nxV, rowL]
    · refine vgo_call rfl rfl rfl (nxV_val _) (c_rdown s hs σ) ?_
      simp -implicitDefEqProofs only [go_sem, nxV, rowL]
    · refine vgo_call rfl rfl rfl (nxV_val _) (c_ropened s hs σ) ?_
      simp -implicitDefEqProofs only [go_sem, nxV, rowL]
    · refine vgo_call rfl rfl rfl (nxV_val _) (c_rclosed s hs σ) ?_
      simp -implicitDefEqProofs only [go_sem, nxV, rowL]
    · refine vgo_call rfl rfl rfl (nxV_val _) (c_rtimeout4 s hs σ) ?_
      simp -implicitDefEqProofs only [go_sem, nxV, rowL]
    · refine vgo_call rfl rfl rfl (nxV_val _) (c_rtimeout5 s hs σ) ?_
      simp -implicitDefEqProofs only [go_sem, nxV, rowL]
  have h5 := of_decide_eq_true d5
  cases d6 : decide (s < 2)
  case true =>
    simp -implicitDefEqProofs only [go_sem, d1, d2, d3, d4, d5, d6]
    refine vgo_call rfl rfl rfl rfl (c_rnever _ _) ?_
    simp -implicitDefEqProofs only [go_sem]
    exact hout (next_low (by omega) (of_decide_eq_true d6) h5)
  have h6 := of_decide_eq_false d6
  have hs : 2 ≤ s ∧ s ≤ 9 := by omega
  have he : e = 6 ∨ e = 7 ∨ e = 8 ∨ e = 9 ∨ e = 10 ∨ e = 11 ∨ e = 12 ∨ e = 13 ∨ e = 14 ∨ e = 15 := by omega
  have n12 : nextP s 12 = ([12], s, true) := by
    have := next12 ⟨s.toNat, by omega⟩ (by show 2 ≤ s.toNat; omega)
    have e1 : ((s.toNat : Nat) : Int) = s := by omega
    simp only [e1] at this
    exact this
  have n15 : nextP s 15 = (if s = 9 then [13] else [], s, true) := by
    have := next15 ⟨s.toNat, by omega⟩ (by show 2 ≤ s.toNat; omega)
    have e1 : ((s.toNat : Nat) : Int) = s := by omega
    simp only [e1] at this
    rw [this]
    by_cases h9 : s = 9
    · rw [if_pos h9, if_pos (by omega)]
    · rw [if_neg h9, if_neg (by omega)]
  rcases he with rfl | rfl | rfl | rfl | rfl | rfl | rfl | rfl | rfl | rfl
  all_goals simp -implicitDefEqProofs only [go_sem, d1, d2, d3, d4, d5, d6]
  · refine vgo_call rfl rfl rfl (nxV_val _) (c_rrequest6 s hs σ) ?_
    simp -implicitDefEqProofs only [go_sem, nxV, rowL]
  · refine vgo_call rfl rfl rfl (nxV_val _) (c_rrequest7 s hs σ) ?_
    simp -implicitDefEqProofs only [go_sem, nxV, rowL]
  · refine vgo_call rfl rfl rfl (nxV_val _) (c_ranswer8 s hs σ) ?_
    simp -implicitDefEqProofs only [go_sem, nxV, rowL]
  · refine vgo_call rfl rfl rfl (nxV_val _) (c_ranswer9 s hs σ) ?_
    simp -implicitDefEqProofs only [go_sem, nxV, rowL]
  · refine vgo_call rfl rfl rfl (nxV_val _) (c_rend s hs σ) ?_
    simp -implicitDefEqProofs only [go_sem, nxV, rowL]
  · refine vgo_call rfl rfl rfl (nxV_val _) (c_rended s hs σ) ?_
    simp -implicitDefEqProofs only [go_sem, nxV, rowL]
  · refine vgo_call rfl rfl rfl rfl (c_rto _ _ _ _ _) ?_
    simp -implicitDefEqProofs only [go_sem]
    rw [n12]
    rfl
  · refine vgo_call rfl rfl rfl (nxV_val _) (c_rreject13 s hs σ) ?_
    simp -implicitDefEqProofs only [go_sem, nxV, rowL]
  · refine vgo_call rfl rfl rfl (nxV_val _) (c_rreject14 s hs σ) ?_
    simp -implicitDefEqProofs only [go_sem, nxV, rowL]
  · rw [n15]
    cases q : s == 9
    · have h9 : ¬ s = 9 := by simpa using q
      simp -implicitDefEqProofs only [go_sem, q]
      refine vgo_call rfl rfl rfl rfl (c_rstay _ _) ?_
      simp -implicitDefEqProofs only [go_sem]
      rw [if_neg h9]
      rfl
    · have h9 : s = 9 := by simpa using q
      subst h9
      simp -implicitDefEqProofs only [go_sem, q]
      refine vgo_call rfl rfl rfl rfl (c_rto _ _ _ _ _) ?_
      simp -implicitDefEqProofs only [go_sem]
      rfl

end Go.VL

/- Contracts of this program's functions: the document's automaton, packets as bytes. Conditions: none. -/
namespace Go.VL
open Go.Proofs

theorem nxV_row (x : List Int × Int × Bool) : nxV x = .tup [rowL x.1, .int .i64 x.2.1, .bool x.2.2] := rfl
theorem rowL_val (l : List Int) : (rowL l).isVal = true := rfl
theorem rowL_ne (l : List Int) : NE (rowL l) (.sl l.isEmpty false 1 (zv64 l)) := by
  unfold rowL
  cases l with
  | nil => exact .nil _ _ _ _
  | cons x l => exact .clip _ _ _
theorem c_rhasL (l : List Int) (n : Int) (hl : l.length ≤ 1000) (σ : St) : VCalls Tryz.prog 150 [rowL l, .int .i64 n] σ fun r σ' => r = .bool (decide (n ∈ l)) ∧ σ' = σ :=
  (c_rhas _ _ l n hl σ).ne ⟨rowL_ne l, .refl _, trivial⟩

set_option maxHeartbeats 4000000 in
set_option maxRecDepth 20000 in
theorem c_rdo12 (a : AuV) (h : 0 ≤ a.cnt ∧ a.cnt ≤ 5) (e : Int) (σ : St) : VCalls Tryz.prog 149 [auv a, .int .i64 e] σ fun r σ' => r = .tup [auv (doA a e).1, rowL (doA a e).2.1, .int .i64 (doA a e).2.2] ∧ σ' = σ := by
  refine vcalls_intro (C := cfg Tryz.prog [] [2] []) (cfg_ok mixed) Tryz.func149 rfl rfl rfl rfl rfl ?_
  have hnx := c_rnext a.st e σ
  rw [nxV_row] at hnx
  unfold rowL at hnx
  have hln := next_len a.st e
  simp -implicitDefEqProofs only [go_sem, auv, auC]
  refine vgo_call rfl rfl rfl rfl hnx ?_
  unfold doA
  generalize nextP a.st e = n at hln
  obtain ⟨l, nx, ok⟩ := n
  simp only at hln
  cases ok
  · simp -implicitDefEqProofs only [go_sem, cond_false, auC]
    rfl
  have hhs := c_rhasL l 10 (by omega) σ
  unfold rowL at hhs
  simp -implicitDefEqProofs only [go_sem, cond_true, rowL]
  refine vgo_call rfl rfl rfl rfl hhs ?_
  simp -implicitDefEqProofs only [go_sem]
  refine w_loopL (fun i => i ≤ l.length) (fun i => [(11, .int .i64 i), (10, .bool (decide ((10 : Int) ∈ l))), (8, .int .i64 nx), (7, .sl l.isEmpty (!l.isEmpty) (bif l.isEmpty then 0 else 1) (zv64 l)), (6, .int .i64 0), (5, .sl true false 0 []), (4, .cell [.int .i64 0, .int .i64 0, .int .i64 0, .int .u8 0]), (2, .cell (auC (actsA l a i)))]) (fun _ => σ) (fun i => l.length - i) 0 (Nat.zero_le _) ?_ rfl ?_
  · simp -implicitDefEqProofs only [go_sem]
    exact ⟨rfl, rfl⟩
  intro i hi L hnext hleave
  have hb := actsA_bound (l := l) h i hi
  rcases Nat.lt_or_ge i l.length with hlt | hlt
  · have hw : IntKind.i64.wrap ((i : Int) + 1) = ((i + 1 : Nat) : Int) := wrap_ok (by omega) (by omega)
    have hsc := actsA_succ a hlt
    have hem : l.isEmpty = false := by cases l with
      | nil => simp at hlt
      | cons x l => rfl
    have hem' : (bif l.isEmpty then 0 else 1 : Nat) = 1 := by rw [hem]; rfl
    have next := fun fr hk => hnext (i + 1) fr σ hlt (by omega) hk rfl
    have hu := u8_succ (actsA l a i).id
    have hws : IntKind.i64.wrap ((actsA l a i).cnt - 1) = (actsA l a i).cnt - 1 := by rw [IntKind.wrap_i64]; omega
    have hm : (if 0 < (actsA l a i).cnt - 1 then (actsA l a i).cnt - 1 else 0) = max ((actsA l a i).cnt - 1) 0 := by omega
    have hm' : (if (actsA l a i).cnt - 1 < 0 then 0 else (actsA l a i).cnt - 1) = max ((actsA l a i).cnt - 1) 0 := by omega
    have hm2 : (if 0 < (actsA l a i).cnt - 1 then ((actsA l a i).cnt - 1) else 0) = max ((actsA l a i).cnt - 1) 0 := by omega
    simp -implicitDefEqProofs only [go_sem, hlt, zv_length, zv_getD hlt, hem', auC]
    by_cases e5 : l[i] = 5
    · have hac : actA l (actsA l a i) l[i] = { actsA l a i with cnt := if (10 : Int) ∈ l then 2 else 5 } := by unfold actA; rw [if_pos e5]
      rw [hac] at hsc
      simp -implicitDefEqProofs only [go_sem, e5]
      by_cases h10 : (10 : Int) ∈ l
      · rw [if_pos h10] at hsc
        have hd : decide ((10 : Int) ∈ l) = true := by simp [h10]
        simp -implicitDefEqProofs only [go_sem, hd]
        refine next _ ?_
        simp -implicitDefEqProofs only [go_sem, hw, hsc, hem, hd, auC]
      · rw [if_neg h10] at hsc
        have hd : decide ((10 : Int) ∈ l) = false := by simp [h10]
        simp -implicitDefEqProofs only [go_sem, hd]
        refine next _ ?_
        simp -implicitDefEqProofs only [go_sem, hw, hsc, hem, hd, auC]
    by_cases e6 : l[i] = 6
    · have hac : actA l (actsA l a i) l[i] = { actsA l a i with cnt := 0, left := 3 } := by unfold actA; rw [if_neg e5, if_pos e6]
      rw [hac] at hsc
      simp -implicitDefEqProofs only [go_sem, e6]
      refine next _ ?_
      simp -implicitDefEqProofs only [go_sem, hw, hsc, hem, auC]
    by_cases e7 : l[i] = 7
    · have hac : actA l (actsA l a i) l[i] = { actsA l a i with cnt := max ((actsA l a i).cnt - 1) 0, left := 3, id := (actsA l a i).id + 1 } := by unfold actA; rw [if_neg e5, if_neg e6, if_pos (.inl e7)]
      rw [hac] at hsc
      simp -implicitDefEqProofs only [go_sem, e7, hws, hu, hm, hm']
      refine next _ ?_
      simp -implicitDefEqProofs only [go_sem, hw, hsc, hem, auC]
    by_cases e10 : l[i] = 10
    · have hac : actA l (actsA l a i) l[i] = { actsA l a i with cnt := max ((actsA l a i).cnt - 1) 0, left := 3, id := (actsA l a i).id + 1 } := by unfold actA; rw [if_neg e5, if_neg e6, if_pos (.inr e10)]
      rw [hac] at hsc
      simp -implicitDefEqProofs only [go_sem, e10, hws, hu, hm, hm']
      refine next _ ?_
      simp -implicitDefEqProofs only [go_sem, hw, hsc, hem, auC]
    have hac : actA l (actsA l a i) l[i] = actsA l a i := by unfold actA; rw [if_neg e5, if_neg e6, if_neg (by omega)]
    have b5 : (l[i] == 5) = false := by simp [e5]
    have b6 : (l[i] == 6) = false := by simp [e6]
    have b7 : (l[i] == 7) = false := by simp [e7]
    have b10 : (l[i] == 10) = false := by simp [e10]
    rw [hac] at hsc
    simp -implicitDefEqProofs only [go_sem, b5, b6, b7, b10]
    refine next _ ?_
    simp -implicitDefEqProofs only [go_sem, hw, hsc, hem, auC]
  · have hh : ¬ (i < l.length) := by omega
    have hT : actsA l a i = l.foldl (actA l) a := by unfold actsA; rw [List.take_of_length_le hlt]
    simp -implicitDefEqProofs only [go_sem, hh, zv_length]
    refine hleave _ _ _ (fun h => by cases h) ?_
    rw [hT]
    simp -implicitDefEqProofs only [go_sem, auC]
    refine vgo_call rfl rfl rfl rfl (c_rtimed nx _) ?_
    cases ht : timedB nx
    · simp -implicitDefEqProofs only [go_sem, auC, cond_false]
    · simp -implicitDefEqProofs only [go_sem, auC, cond_true]

set_option maxRecDepth 20000 in
theorem c_rtick12 (a : AuV) (h : 0 ≤ a.cnt ∧ a.cnt ≤ 5) (h2 : 0 ≤ a.left ∧ a.left ≤ 3) (σ : St) : VCalls Tryz.prog 84 [auv a] σ fun r σ' => r = .tup [auv (tickA a).1, rowL (tickA a).2] ∧ σ' = σ := by
  refine vcalls_intro (C := cfg Tryz.prog [] [1] []) (cfg_ok mixed) Tryz.func84 rfl rfl rfl rfl rfl ?_
  have hw : IntKind.i64.wrap (a.left - 1) = a.left - 1 := by rw [IntKind.wrap_i64]; omega
  unfold tickA
  simp -implicitDefEqProofs only [go_sem, auv, auC]
  cases q1 : a.left == 0
  · simp -implicitDefEqProofs only [go_sem, q1, hw]
    cases q2 : decide (0 < a.left - 1)
    · simp -implicitDefEqProofs only [go_sem, q2]
      cases q3 : decide (0 < a.cnt)
      · simp -implicitDefEqProofs only [go_sem, q3]
        have hd := c_rdo12 { a with left := a.left - 1 } h 5 σ
        unfold auv auC at hd
        refine vgo_call rfl rfl rfl rfl hd ?_
        simp -implicitDefEqProofs only [go_sem, rowL, cond_false]
      · simp -implicitDefEqProofs only [go_sem, q3]
        have hd := c_rdo12 { a with left := a.left - 1 } h 4 σ
        unfold auv auC at hd
        refine vgo_call rfl rfl rfl rfl hd ?_
        simp -implicitDefEqProofs only [go_sem, rowL, cond_true]
    · simp -implicitDefEqProofs only [go_sem, q2, cond_false, cond_true]
      rfl
  · simp -implicitDefEqProofs only [go_sem, q1, cond_true]
    rfl

/-! Packets. -/
def eqPk (p q : PkV) : Bool := decide (p.d = q.d) && (p.code == q.code) && (p.id == q.id)
theorem c_rpsame1 (p q : PkV) (hp : p.sz = 1) (hq : q.sz = 1) (hl : p.d.length ≤ lim) (σ : St) : VCalls Tryz.prog 148 [pkv p, pkv q] σ fun r σ' => r = .bool (eqPk p q) ∧ σ' = σ := by
  refine vcalls_intro (C := cfg Tryz.prog [] [] []) (cfg_ok mixed) Tryz.func148 rfl rfl rfl rfl rfl ?_
  have e1 : ((p.code.toNat : Int) == (q.code.toNat : Int)) = (p.code == q.code) := toNat_beq _ _
  have e2 : ((p.id.toNat : Int) == (q.id.toNat : Int)) = (p.id == q.id) := toNat_beq _ _
  simp -implicitDefEqProofs only [go_sem, pkv, pkC, hp, hq]
  refine vgo_call rfl rfl rfl rfl (c_row p.nl p.c q.nl q.c p.d q.d hl σ) ?_
  unfold eqPk
  cases decide (p.d = q.d)
  · simp -implicitDefEqProofs only [go_sem, Bool.false_and]
  · simp -implicitDefEqProofs only [go_sem, e1, Bool.true_and]
    cases p.code == q.code
    · simp -implicitDefEqProofs only [go_sem, Bool.false_and]
    · simp -implicitDefEqProofs only [go_sem, e2, Bool.true_and]
theorem c_rpsame (p q : PkV) (hp : PkOK p) (hq : PkOK q) (hl : p.d.length ≤ lim) (σ : St) : VCalls Tryz.prog 148 [pkv p, pkv q] σ fun r σ' => r = .bool (eqPk p q) ∧ σ' = σ :=
  (c_rpsame1 { p with sz := 1 } { q with sz := 1 } rfl rfl hl σ).ne ⟨pk_ne hp, pk_ne hq, trivial⟩
theorem eqPk_self (p : PkV) : eqPk p p = true := by simp [eqPk]

theorem c_rpkts (nl c nl' c' : Bool) (l : List PkV) (hl : l.length ≤ 1000) (hz : ∀ p ∈ l, PkOK p) (hd : ∀ p ∈ l, p.d.length ≤ lim) (σ : St) : VCalls Tryz.prog 81 [.sl nl c 3 (pkvs l), .sl nl' c' 3 (pkvs l)] σ fun r σ' => r = .bool true ∧ σ' = σ := by
  refine vcalls_intro (C := cfg Tryz.prog [] [] []) (cfg_ok mixed) Tryz.func81 rfl rfl rfl rfl rfl ?_
  have hq : (((l.length : Nat) : Int) == ((l.length : Nat) : Int)) = true := by simp
  simp -implicitDefEqProofs only [go_sem, pkvs_length, bne, hq, Bool.not_true]
  refine w_loop (fun i => i ≤ l.length) (fun i => [(5, .int .i64 i), (1, .sl nl' c' 3 (pkvs l)), (0, .sl nl c 3 (pkvs l))]) (fun _ => σ) (fun i => l.length - i) 0 (Nat.zero_le _) ?_ rfl ?_
  · simp -implicitDefEqProofs only [go_sem]
    rfl
  intro i hi
  rcases Nat.lt_or_ge i l.length with h | h
  · have hw1 : IntKind.i64.wrap ((i : Int) + 1) = ((i + 1 : Nat) : Int) := wrap_ok (by omega) (by omega)
    have hs := c_rpsame l[i] l[i] (hz _ (List.getElem_mem h)) (hz _ (List.getElem_mem h)) (hd _ (List.getElem_mem h)) σ
    rw [eqPk_self] at hs
    unfold pkv pkC at hs
    simp -implicitDefEqProofs only [go_sem, pkvs_length, h]
    refine w_walk2 [] [0, 1, 2, 3, 4, 5, 6, 7, 8, 9] [18, 19, 20, 21, 22, 23, 24, 25, 26, 6] [0, 0, 3, 7, 0, 0, 48, 112, 255, 511] rfl rfl rfl rfl ?_
    simp -implicitDefEqProofs only [go_sem, pkvs_length, pkvs_getD h, h, pkv, pkC]
    refine vdgo_call rfl rfl rfl rfl hs ?_
    simp -implicitDefEqProofs only [go_sem]
    refine l_next (i + 1) h (by omega) ?_ rfl
    simp -implicitDefEqProofs only [go_sem, hw1]
  · have hn : ¬ (i < l.length) := by omega
    simp -implicitDefEqProofs only [go_sem, pkvs_length, hn]
    refine l_exit ?_
    simp -implicitDefEqProofs only [go_sem]
theorem c_rpktsS (l : List PkV) (hl : l.length ≤ 1000) (hz : ∀ p ∈ l, PkOK p) (hd : ∀ p ∈ l, p.d.length ≤ lim) {u v : V} (hu : IsSl u 3 (pkvs l)) (hv : IsSl v 3 (pkvs l)) (σ : St) : VCalls Tryz.prog 81 [u, v] σ fun r σ' => r = .bool true ∧ σ' = σ := by
  obtain ⟨n1, h1⟩ := hu.ne
  obtain ⟨n2, h2⟩ := hv.ne
  exact (c_rpkts n1 false n2 false l hl hz hd σ).ne ⟨h1, h2, trivial⟩

theorem quo8 (n : Nat) (h : n ≤ 1500) : IntKind.u8.wrap (IntKind.i64.wrap ((n : Int).tdiv 256)) = ((UInt8.ofNat (n / 256)).toNat : Int) := by
  have h1 : (n : Int).tdiv 256 = ((n / 256 : Nat) : Int) := rfl
  rw [h1, wrap_ok (by omega) (by omega)]
  exact low8 _
theorem rem8 (n : Nat) : IntKind.u8.wrap ((n : Int).tmod 256) = ((UInt8.ofNat n).toNat : Int) := by
  have h1 : (n : Int).tmod 256 = ((n % 256 : Nat) : Int) := rfl
  rw [h1, low8]
  congr 1
  have : UInt8.ofNat (n % 256) = UInt8.ofNat n := by
    apply UInt8.toNat.inj
    simp
  rw [this]
set_option maxRecDepth 20000 in
theorem c_rpbytes (p : PkV) (hp : p.sz = 1) (h : p.d.length ≤ 1496) (σ : St) : VCalls Tryz.prog 152 [pkv p] σ fun r σ' => r = .tup [.sl false false 1 (bv (pkB p)), .int .i64 0] ∧ σ' = σ := by
  refine vcalls_intro (C := cfg Tryz.prog [] [] [26]) (cfg_ok mixed) Tryz.func152 rfl rfl rfl rfl rfl ?_
  have hw : IntKind.i64.wrap (4 + (p.d.length : Int)) = ((p.d.length + 4 : Nat) : Int) := by rw [IntKind.wrap_i64]; omega
  have hd : decide ((1500 : Int) < ((p.d.length + 4 : Nat) : Int)) = false := by rw [decide_eq_false_iff_not]; omega
  have h1 := quo8 (p.d.length + 4) (by omega)
  have h2 := rem8 (p.d.length + 4)
  simp -implicitDefEqProofs only [go_sem, pkv, pkC, hp, bv_length, hw, hd, h1, h2]
  exact ⟨by unfold lim; omega, rfl⟩
/-- A packet whose code isn't known is rejected so. -/
def rejR (p : PkV) (id : UInt8) : PkV := ⟨7, id, false, false, 1, (pkB p).take 1496⟩
set_option maxRecDepth 20000 in
theorem c_rreject (p : PkV) (id : UInt8) (hp : p.sz = 1) (h : p.d.length ≤ 1496) (σ : St) : VCalls Tryz.prog 86 [pkv p, .int .u8 id.toNat] σ fun r σ' => r = pkv (rejR p id) ∧ σ' = σ := by
  refine vcalls_intro (C := cfg Tryz.prog [] [] []) (cfg_ok mixed) Tryz.func86 rfl rfl rfl rfl rfl ?_
  have hb := c_rpbytes p hp h σ
  unfold pkv pkC at hb
  have hl := pkB_len p
  simp -implicitDefEqProofs only [go_sem, pkv, pkC]
  refine vgo_call rfl rfl rfl rfl hb ?_
  simp -implicitDefEqProofs only [go_sem, bv_length]
  split
  · rename_i hc
    refine ⟨by omega, by omega, ?_⟩
    simp -implicitDefEqProofs only [go_sem]
    unfold rejR bv
    rw [← List.map_take]
    rfl
  · rename_i hc
    refine ⟨by omega, by omega, ?_⟩
    simp -implicitDefEqProofs only [go_sem]
    unfold rejR
    rw [List.take_of_length_le (by omega : (pkB p).length ≤ 1496)]
    have : (bv (pkB p)).take (pkB p).length = bv (pkB p) := List.take_of_length_le (Nat.le_of_eq (bv_length _))
    simp -implicitDefEqProofs only [Int.toNat_natCast, this]
    rfl

end Go.VL

/- What the document's protocols do, in plain Lean: options read with room behind, actions that begin anew. Conditions: none. -/
namespace Go.VL
open Go.Proofs

theorem encL_rc (l : List OV) : encL (l.map rcO) = encL l := by
  unfold encL
  rw [List.flatMap_map]
  rfl
theorem odd_rc (r : RV) (l : List OV) : oddL r (l.map rcO) = (oddL r l).map rcO := by
  unfold oddL
  rw [List.filter_map]
  rfl
theorem as_rc (r : RV) (l : List OV) : asL r (l.map rcO) = (asL r l).map rcO := by
  unfold asL
  rw [List.filter_map]
  rfl
theorem ref_rc (r : RV) (l : List OV) (b : Bool) : refL r (l.map rcO) b = (refL r l b).map rcO := by
  unfold refL
  rw [odd_rc, as_rc]
  have : ((oddL r l).map rcO).isEmpty = (oddL r l).isEmpty := by cases oddL r l <;> rfl
  rw [this]
  cases b && (oddL r l).isEmpty <;> rfl
theorem fix_rc (r : RV) (o : OV) : rcO (fixO r (rcO o)) = rcO (fixO r o) := by
  unfold fixO
  have : kOf r (rcO o).t = kOf r o.t := rfl
  rw [this]
  cases kOf r o.t <;> rfl
theorem to_rc (r : RV) (l : List OV) : (toL r (l.map rcO)).map rcO = (toL r l).map rcO := by
  unfold toL
  have hf : ((l.map rcO).find? (knownB true)).isNone = (l.find? (knownB true)).isNone := by
    rw [List.find?_map]
    have : (knownB true ∘ rcO) = knownB true := rfl
    rw [this]
    cases l.find? (knownB true) <;> rfl
  rw [as_rc, hf, List.map_append, List.map_append, List.map_map, List.map_map, List.map_map]
  congr 1
  refine List.map_congr_left fun o _ => ?_
  exact fix_rc r o
theorem empty_of_map {l m : List OV} (h : l.map rcO = m.map rcO) : l.isEmpty = m.isEmpty := by
  have := congrArg List.length h
  simp only [List.length_map] at this
  cases l <;> cases m <;> first | rfl | simp at this
theorem ans_rc (r : RV) (l : List OV) (naks : Int) : (ansP r (l.map rcO) naks).1 = (ansP r l naks).1 ∧ (ansP r (l.map rcO) naks).2.map rcO = (ansP r l naks).2.map rcO := by
  unfold ansP
  rw [ref_rc]
  have h1 : ((refL r l (decide (3 ≤ naks))).map rcO).isEmpty = (refL r l (decide (3 ≤ naks))).isEmpty := by cases refL r l (decide (3 ≤ naks)) <;> rfl
  have h2 := empty_of_map (to_rc r l)
  rw [h1, h2]
  cases !(refL r l (decide (3 ≤ naks))).isEmpty
  · cases !decide (3 ≤ naks) && !(toL r l).isEmpty
    · exact ⟨rfl, by simp only [cond_false, List.map_map]; rfl⟩
    · exact ⟨rfl, to_rc r l⟩
  · exact ⟨rfl, by simp only [cond_true, List.map_map]; rfl⟩
theorem encOK_rc {l m : List OV} (h : l.map rcO = m.map rcO) : encOK l = encOK m ∧ encL l = encL m ∧ l.isEmpty = m.isEmpty := by
  have he : encL l = encL m := by rw [← encL_rc l, h, encL_rc]
  have ha : ∀ l : List OV, (l.map rcO).all (fun o => decide (o.d.length ≤ 253)) = l.all (fun o => decide (o.d.length ≤ 253)) := fun l => by
    rw [List.all_map]
    rfl
  refine ⟨?_, he, empty_of_map h⟩
  unfold encOK
  rw [he, ← ha l, h, ha]
theorem find_rc (l : List OV) (t : UInt8) : (findO (l.map rcO) t).isSome = (findO l t).isSome := by
  induction l with
  | nil => rfl
  | cons o l ih =>
    rw [List.map_cons]
    unfold findO
    have : ((rcO o).t == t) = (o.t == t) := rfl
    rw [this]
    cases o.t == t
    · exact ih
    · rfl

theorem low_reset : ∀ e : Fin 16, (decide ((5 : Int) ∈ (nextP 0 e.val).1) && decide ((7 : Int) ∈ (nextP 0 e.val).1)) = false := by decide +kernel
theorem do_acts (a : AuV) (e : Int) : (doA a e).2.1 = bif (nextP a.st e).2.2 then (nextP a.st e).1 else [] := by
  unfold doA
  cases (nextP a.st e).2.2 <;> rfl
/-- Nothing begins anew but from Starting, Closed, and Stopped. -/
theorem reset_low {a : AuV} {e : Int} (h : resetB a.st (doA a e).2.1 = true) : 1 ≤ a.st := by
  rw [do_acts] at h
  cases hd : (nextP a.st e).2.2
  · rw [hd] at h
    simp [resetB] at h
  · rw [hd] at h
    obtain ⟨hs, he⟩ := next_range hd
    rcases (by omega : 0 < a.st ∨ a.st ≤ 0) with h1 | h1
    · exact h1
    · have h0 : a.st = 0 := by omega
      have := low_reset ⟨e.toNat, by omega⟩
      have e1 : ((e.toNat : Nat) : Int) = e := by omega
      simp only [e1] at this
      unfold resetB at h
      rw [h0] at h
      simp only [cond_true] at h
      rw [this] at h
      simp at h
theorem no9 : ∀ s : Fin 10, (9 : Int) ∉ (nextP s.val 6).1 := by decide +kernel
theorem no8 : ∀ s : Fin 10, (8 : Int) ∉ (nextP s.val 7).1 := by decide +kernel
theorem no11 : ∀ s : Fin 10, (11 : Int) ∉ (nextP s.val 4).1 ∧ (11 : Int) ∉ (nextP s.val 5).1 := by decide +kernel
theorem evL_next {n : NgV} {e : Int} {x : Int} (h : x ∈ evL n e) : (0 ≤ n.a.st ∧ n.a.st ≤ 9) ∧ x ∈ (nextP n.a.st e).1 := by
  unfold evL at h
  cases hd : doneB n e
  · rw [hd] at h; cases h
  · rw [hd] at h
    simp only [cond_true] at h
    have hd' : (nextP n.a.st e).2.2 = true := hd
    rw [do_acts, hd'] at h
    exact ⟨(next_range hd').1, h⟩
theorem ev6_9 (n : NgV) : decide ((9 : Int) ∈ evL n 6) = false := by
  rw [decide_eq_false_iff_not]
  intro h
  obtain ⟨hs, h⟩ := evL_next h
  have := no9 ⟨n.a.st.toNat, by omega⟩
  have e1 : ((n.a.st.toNat : Nat) : Int) = n.a.st := by omega
  simp only [e1] at this
  exact this h
theorem ev7_8 (n : NgV) : decide ((8 : Int) ∈ evL n 7) = false := by
  rw [decide_eq_false_iff_not]
  intro h
  obtain ⟨hs, h⟩ := evL_next h
  have := no8 ⟨n.a.st.toNat, by omega⟩
  have e1 : ((n.a.st.toNat : Nat) : Int) = n.a.st := by omega
  simp only [e1] at this
  exact this h
theorem tick_11 {a : AuV} (hs : 0 ≤ a.st ∧ a.st ≤ 9) : (11 : Int) ∉ (tickA a).2 := by
  have hd : ∀ (b : AuV) (e : Int), b.st = a.st → e = 4 ∨ e = 5 → (11 : Int) ∉ (doA b e).2.1 := fun b e hb he h => by
    rw [do_acts, hb] at h
    have hn := no11 ⟨a.st.toNat, by omega⟩
    have e1 : ((a.st.toNat : Nat) : Int) = a.st := by omega
    simp only [e1] at hn
    cases hq : (nextP a.st e).2.2
    · rw [hq] at h; cases h
    · rw [hq] at h
      rcases he with rfl | rfl
      · exact hn.1 h
      · exact hn.2 h
  unfold tickA
  cases a.left == 0
  · cases decide (0 < a.left - 1)
    · simp only [cond_false]
      cases decide (0 < a.cnt)
      · exact hd _ _ rfl (.inr rfl)
      · exact hd _ _ rfl (.inl rfl)
    · exact fun h => by cases h
  · exact fun h => by cases h
theorem tick_reset {a : AuV} (h : resetB a.st (tickA a).2 = true) : 1 ≤ a.st := by
  have hd : ∀ (b : AuV) (e : Int), b.st = a.st → resetB a.st (doA b e).2.1 = true → 1 ≤ a.st := fun b e hb h => by
    rw [← hb] at h ⊢
    exact reset_low h
  unfold tickA at h
  cases h0 : a.left == 0
  · rw [h0] at h
    simp only [cond_false] at h
    cases h1 : decide (0 < a.left - 1)
    · rw [h1] at h
      simp only [cond_false] at h
      cases h2 : decide (0 < a.cnt)
      · rw [h2] at h
        exact hd { a with left := a.left - 1 } _ rfl h
      · rw [h2] at h
        exact hd { a with left := a.left - 1 } _ rfl h
    · rw [h1] at h
      simp [resetB] at h
  · rw [h0] at h
    simp [resetB] at h

/-- The same, but for what a row tells beside its values. -/
structure Eqv (n m : NgV) : Prop where
  a : n.a = m.a
  r : n.r = m.r
  k : n.naks = m.naks
  o : same n.ours m.ours = true
  p : same n.peer m.peer = true
theorem Eqv.refl (n : NgV) : Eqv n n := ⟨rfl, rfl, rfl, same_self _, same_self _⟩
theorem Eqv.same {n m : NgV} (h : Eqv n m) : sameN n m = true := by
  have h1 : eqAu n.a m.a = true := by rw [h.a]; exact cellsEq_prim _ (by simp [auC])
  have h2 : eqRu n.r m.r = true := by rw [h.r]; exact cellsEq_prim _ (by simp [rvC])
  unfold sameN
  rw [h.o, h.p, h1, h2, h.k]
  simp

end Go.VL
