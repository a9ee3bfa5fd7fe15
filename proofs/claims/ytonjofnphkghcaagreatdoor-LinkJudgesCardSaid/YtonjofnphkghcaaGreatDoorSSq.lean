/- Contracts of this program's functions over values, joined texts. Conditions: none. -/
import Derived.Test.YtonjofnphkghcaaGreatDoorSSc
import Derived.Test.YtonjofnphkghcaaGreatDoorVVc
import Derived.Test.YtonjofnphkghcaaGreatDoorSSp
set_option linter.unusedVariables false
set_option linter.unusedSimpArgs false
/- Contracts of this program's functions: options read as the document says. Conditions: none. -/
namespace Go.VL
open Go.Proofs

end Go.VL

/- Contracts of this program's functions: the document's table of states. Conditions: none. -/
namespace Go.VL
open Go.Proofs

/-- A row of numbers as a literal, or nil. -/
def rowL (l : List Int) : V := .sl l.isEmpty (!l.isEmpty) (bif l.isEmpty then 0 else 1) (zv64 l)
def nxV (x : List Int × Int × Bool) : V := .tup [rowL x.1, .int .i64 x.2.1, .bool x.2.2]
theorem c_rto (s : Int) (c : Bool) (sz : Nat) (es : List V) (σ : St) : VCalls Tryz.prog 231 [.int .i64 s, .sl false c sz es] σ fun r σ' => r = .tup [.sl false c sz es, .int .i64 s, .bool true] ∧ σ' = σ := by
  refine vcalls_intro (C := cfg Tryz.prog [] [] []) (cfg_ok mixed) Tryz.func231 rfl rfl rfl rfl rfl ?_
  simp -implicitDefEqProofs only [go_sem]
theorem c_rstay (s : Int) (σ : St) : VCalls Tryz.prog 233 [.int .i64 s] σ fun r σ' => r = .tup [.sl true false 0 [], .int .i64 s, .bool true] ∧ σ' = σ := by
  refine vcalls_intro (C := cfg Tryz.prog [] [] []) (cfg_ok mixed) Tryz.func233 rfl rfl rfl rfl rfl ?_
  simp -implicitDefEqProofs only [go_sem]
theorem c_rnever (s : Int) (σ : St) : VCalls Tryz.prog 221 [.int .i64 s] σ fun r σ' => r = .tup [.sl true false 0 [], .int .i64 s, .bool false] ∧ σ' = σ := by
  refine vcalls_intro (C := cfg Tryz.prog [] [] []) (cfg_ok mixed) Tryz.func221 rfl rfl rfl rfl rfl ?_
  simp -implicitDefEqProofs only [go_sem]

theorem nx_up : nextP 0 0 = (([] : List Int), (2 : Int), true) ∧ nextP 1 0 = (([5, 7] : List Int), (6 : Int), true) ∧ nextP 2 0 = (([] : List Int), (2 : Int), false) ∧ nextP 3 0 = (([] : List Int), (3 : Int), false) ∧ nextP 4 0 = (([] : List Int), (4 : Int), false) ∧ nextP 5 0 = (([] : List Int), (5 : Int), false) ∧ nextP 6 0 = (([] : List Int), (6 : Int), false) ∧ nextP 7 0 = (([] : List Int), (7 : Int), false) ∧ nextP 8 0 = (([] : List Int), (8 : Int), false) ∧ nextP 9 0 = (([] : List Int), (9 : Int), false) := by decide +kernel
set_option maxRecDepth 20000 in
theorem c_rup (s : Int) (h : 0 ≤ s ∧ s ≤ 9) (σ : St) : VCalls Tryz.prog 222 [.int .i64 s] σ fun r σ' => r = nxV (nextP s 0) ∧ σ' = σ := by
  refine vcalls_intro (C := cfg Tryz.prog [] [] []) (cfg_ok mixed) Tryz.func222 rfl rfl rfl rfl rfl ?_
  obtain ⟨q0, q1, q2, q3, q4, q5, q6, q7, q8, q9⟩ := nx_up
  have hs : s = 0 ∨ s = 1 ∨ s = 2 ∨ s = 3 ∨ s = 4 ∨ s = 5 ∨ s = 6 ∨ s = 7 ∨ s = 8 ∨ s = 9 := by omega
  rcases hs with rfl | rfl | rfl | rfl | rfl | rfl | rfl | rfl | rfl | rfl
  · rw [q0]
    simp -implicitDefEqProofs only [go_sem]
    refine vgo_call rfl rfl rfl rfl (c_rstay _ _) ?_
    simp -implicitDefEqProofs only [go_sem]
    rfl
  · rw [q1]
    simp -implicitDefEqProofs only [go_sem]
    refine vgo_call rfl rfl rfl rfl (c_rto _ _ _ _ _) ?_
    simp -implicitDefEqProofs only [go_sem]
    rfl
  · rw [q2]
    simp -implicitDefEqProofs only [go_sem]
    refine vgo_call rfl rfl rfl rfl (c_rnever _ _) ?_
    simp -implicitDefEqProofs only [go_sem]
    rfl
  · rw [q3]
    simp -implicitDefEqProofs only [go_sem]
    refine vgo_call rfl rfl rfl rfl (c_rnever _ _) ?_
    simp -implicitDefEqProofs only [go_sem]
    rfl
  · rw [q4]
    simp -implicitDefEqProofs only [go_sem]
    refine vgo_call rfl rfl rfl rfl (c_rnever _ _) ?_
    simp -implicitDefEqProofs only [go_sem]
    rfl
  · rw [q5]
    simp -implicitDefEqProofs only [go_sem]
    refine vgo_call rfl rfl rfl rfl (c_rnever _ _) ?_
    simp -implicitDefEqProofs only [go_sem]
    rfl
  · rw [q6]
    simp -implicitDefEqProofs only [go_sem]
    refine vgo_call rfl rfl rfl rfl (c_rnever _ _) ?_
    simp -implicitDefEqProofs only [go_sem]
    rfl
  · rw [q7]
    simp -implicitDefEqProofs only [go_sem]
    refine vgo_call rfl rfl rfl rfl (c_rnever _ _) ?_
    simp -implicitDefEqProofs only [go_sem]
    rfl
  · rw [q8]
    simp -implicitDefEqProofs only [go_sem]
    refine vgo_call rfl rfl rfl rfl (c_rnever _ _) ?_
    simp -implicitDefEqProofs only [go_sem]
    rfl
  · rw [q9]
    simp -implicitDefEqProofs only [go_sem]
    refine vgo_call rfl rfl rfl rfl (c_rnever _ _) ?_
    simp -implicitDefEqProofs only [go_sem]
    rfl

theorem nx_down : nextP 0 1 = (([] : List Int), (0 : Int), false) ∧ nextP 1 1 = (([] : List Int), (1 : Int), false) ∧ nextP 2 1 = (([] : List Int), (0 : Int), true) ∧ nextP 3 1 = (([3] : List Int), (1 : Int), true) ∧ nextP 4 1 = (([] : List Int), (0 : Int), true) ∧ nextP 5 1 = (([] : List Int), (1 : Int), true) ∧ nextP 6 1 = (([] : List Int), (1 : Int), true) ∧ nextP 7 1 = (([] : List Int), (1 : Int), true) ∧ nextP 8 1 = (([] : List Int), (1 : Int), true) ∧ nextP 9 1 = (([2] : List Int), (1 : Int), true) := by decide +kernel
set_option maxRecDepth 20000 in
theorem c_rdown (s : Int) (h : 0 ≤ s ∧ s ≤ 9) (σ : St) : VCalls Tryz.prog 223 [.int .i64 s] σ fun r σ' => r = nxV (nextP s 1) ∧ σ' = σ := by
  refine vcalls_intro (C := cfg Tryz.prog [] [] []) (cfg_ok mixed) Tryz.func223 rfl rfl rfl rfl rfl ?_
  obtain ⟨q0, q1, q2, q3, q4, q5, q6, q7, q8, q9⟩ := nx_down
  have hs : s = 0 ∨ s = 1 ∨ s = 2 ∨ s = 3 ∨ s = 4 ∨ s = 5 ∨ s = 6 ∨ s = 7 ∨ s = 8 ∨ s = 9 := by omega
  rcases hs with rfl | rfl | rfl | rfl | rfl | rfl | rfl | rfl | rfl | rfl
  · rw [q0]
    simp -implicitDefEqProofs only [go_sem]
    refine vgo_call rfl rfl rfl rfl (c_rnever _ _) ?_
    simp -implicitDefEqProofs only [go_sem]
    rfl
  · rw [q1]
    simp -implicitDefEqProofs only [go_sem]
    refine vgo_call rfl rfl rfl rfl (c_rnever _ _) ?_
    simp -implicitDefEqProofs only [go_sem]
    rfl
  · rw [q2]
    simp -implicitDefEqProofs only [go_sem]
    refine vgo_call rfl rfl rfl rfl (c_rstay _ _) ?_
    simp -implicitDefEqProofs only [go_sem]
    rfl
  · rw [q3]
    simp -implicitDefEqProofs only [go_sem]
    refine vgo_call rfl rfl rfl rfl (c_rto _ _ _ _ _) ?_
    simp -implicitDefEqProofs only [go_sem]
    rfl
  · rw [q4]
    simp -implicitDefEqProofs only [go_sem]
    refine vgo_call rfl rfl rfl rfl (c_rstay _ _) ?_
    simp -implicitDefEqProofs only [go_sem]
    rfl
  · rw [q5]
    simp -implicitDefEqProofs only [go_sem]
    refine vgo_call rfl rfl rfl rfl (c_rstay _ _) ?_
    simp -implicitDefEqProofs only [go_sem]
    rfl
  · rw [q6]
    simp -implicitDefEqProofs only [go_sem]
    refine vgo_call rfl rfl rfl rfl (c_rstay _ _) ?_
    simp -implicitDefEqProofs only [go_sem]
    rfl
  · rw [q7]
    simp -implicitDefEqProofs only [go_sem]
    refine vgo_call rfl rfl rfl rfl (c_rstay _ _) ?_
    simp -implicitDefEqProofs only [go_sem]
    rfl
  · rw [q8]
    simp -implicitDefEqProofs only [go_sem]
    refine vgo_call rfl rfl rfl rfl (c_rstay _ _) ?_
    simp -implicitDefEqProofs only [go_sem]
    rfl
  · rw [q9]
    simp -implicitDefEqProofs only [go_sem]
    refine vgo_call rfl rfl rfl rfl (c_rto _ _ _ _ _) ?_
    simp -implicitDefEqProofs only [go_sem]
    rfl

theorem nx_opened : nextP 0 2 = (([3] : List Int), (1 : Int), true) ∧ nextP 1 2 = (([] : List Int), (1 : Int), true) ∧ nextP 2 2 = (([5, 7] : List Int), (6 : Int), true) ∧ nextP 3 2 = (([] : List Int), (3 : Int), true) ∧ nextP 4 2 = (([] : List Int), (5 : Int), true) ∧ nextP 5 2 = (([] : List Int), (5 : Int), true) ∧ nextP 6 2 = (([] : List Int), (6 : Int), true) ∧ nextP 7 2 = (([] : List Int), (7 : Int), true) ∧ nextP 8 2 = (([] : List Int), (8 : Int), true) ∧ nextP 9 2 = (([] : List Int), (9 : Int), true) := by decide +kernel
set_option maxRecDepth 20000 in
theorem c_ropened (s : Int) (h : 0 ≤ s ∧ s ≤ 9) (σ : St) : VCalls Tryz.prog 224 [.int .i64 s] σ fun r σ' => r = nxV (nextP s 2) ∧ σ' = σ := by
  refine vcalls_intro (C := cfg Tryz.prog [] [] []) (cfg_ok mixed) Tryz.func224 rfl rfl rfl rfl rfl ?_
  obtain ⟨q0, q1, q2, q3, q4, q5, q6, q7, q8, q9⟩ := nx_opened
  have hs : s = 0 ∨ s = 1 ∨ s = 2 ∨ s = 3 ∨ s = 4 ∨ s = 5 ∨ s = 6 ∨ s = 7 ∨ s = 8 ∨ s = 9 := by omega
  rcases hs with rfl | rfl | rfl | rfl | rfl | rfl | rfl | rfl | rfl | rfl
  · rw [q0]
    simp -implicitDefEqProofs only [go_sem]
    refine vgo_call rfl rfl rfl rfl (c_rto _ _ _ _ _) ?_
    simp -implicitDefEqProofs only [go_sem]
    rfl
  · rw [q1]
    simp -implicitDefEqProofs only [go_sem]
    refine vgo_call rfl rfl rfl rfl (c_rstay _ _) ?_
    simp -implicitDefEqProofs only [go_sem]
    rfl
  · rw [q2]
    simp -implicitDefEqProofs only [go_sem]
    refine vgo_call rfl rfl rfl rfl (c_rto _ _ _ _ _) ?_
    simp -implicitDefEqProofs only [go_sem]
    rfl
  · rw [q3]
    simp -implicitDefEqProofs only [go_sem]
    refine vgo_call rfl rfl rfl rfl (c_rstay _ _) ?_
    simp -implicitDefEqProofs only [go_sem]
    rfl
  · rw [q4]
    simp -implicitDefEqProofs only [go_sem]
    refine vgo_call rfl rfl rfl rfl (c_rstay _ _) ?_
    simp -implicitDefEqProofs only [go_sem]
    rfl
  · rw [q5]
    simp -implicitDefEqProofs only [go_sem]
    refine vgo_call rfl rfl rfl rfl (c_rstay _ _) ?_
    simp -implicitDefEqProofs only [go_sem]
    rfl
  · rw [q6]
    simp -implicitDefEqProofs only [go_sem]
    refine vgo_call rfl rfl rfl rfl (c_rstay _ _) ?_
    simp -implicitDefEqProofs only [go_sem]
    rfl
  · rw [q7]
    simp -implicitDefEqProofs only [go_sem]
    refine vgo_call rfl rfl rfl rfl (c_rstay _ _) ?_
    simp -implicitDefEqProofs only [go_sem]
    rfl
  · rw [q8]
    simp -implicitDefEqProofs only [go_sem]
    refine vgo_call rfl rfl rfl rfl (c_rstay _ _) ?_
    simp -implicitDefEqProofs only [go_sem]
    rfl
  · rw [q9]
    simp -implicitDefEqProofs only [go_sem]
    refine vgo_call rfl rfl rfl rfl (c_rstay _ _) ?_
    simp -implicitDefEqProofs only [go_sem]
    rfl

theorem nx_closed : nextP 0 3 = (([] : List Int), (0 : Int), true) ∧ nextP 1 3 = (([4] : List Int), (0 : Int), true) ∧ nextP 2 3 = (([] : List Int), (2 : Int), true) ∧ nextP 3 3 = (([] : List Int), (2 : Int), true) ∧ nextP 4 3 = (([] : List Int), (4 : Int), true) ∧ nextP 5 3 = (([] : List Int), (4 : Int), true) ∧ nextP 6 3 = (([5, 10] : List Int), (4 : Int), true) ∧ nextP 7 3 = (([5, 10] : List Int), (4 : Int), true) ∧ nextP 8 3 = (([5, 10] : List Int), (4 : Int), true) ∧ nextP 9 3 = (([2, 5, 10] : List Int), (4 : Int), true) := by decide +kernel
set_option maxRecDepth 20000 in
theorem c_rclosed (s : Int) (h : 0 ≤ s ∧ s ≤ 9) (σ : St) : VCalls Tryz.prog 225 [.int .i64 s] σ fun r σ' => r = nxV (nextP s 3) ∧ σ' = σ := by
  refine vcalls_intro (C := cfg Tryz.prog [] [] []) (cfg_ok mixed) Tryz.func225 rfl rfl rfl rfl rfl ?_
  obtain ⟨q0, q1, q2, q3, q4, q5, q6, q7, q8, q9⟩ := nx_closed
  have hs : s = 0 ∨ s = 1 ∨ s = 2 ∨ s = 3 ∨ s = 4 ∨ s = 5 ∨ s = 6 ∨ s = 7 ∨ s = 8 ∨ s = 9 := by omega
  rcases hs with rfl | rfl | rfl | rfl | rfl | rfl | rfl | rfl | rfl | rfl
  · rw [q0]
    simp -implicitDefEqProofs only [go_sem]
    refine vgo_call rfl rfl rfl rfl (c_rstay _ _) ?_
    simp -implicitDefEqProofs only [go_sem]
    rfl
  · rw [q1]
    simp -implicitDefEqProofs only [go_sem]
    refine vgo_call rfl rfl rfl rfl (c_rto _ _ _ _ _) ?_
    simp -implicitDefEqProofs only [go_sem]
    rfl
  · rw [q2]
    simp -implicitDefEqProofs only [go_sem]
    refine vgo_call rfl rfl rfl rfl (c_rstay _ _) ?_
    simp -implicitDefEqProofs only [go_sem]
    rfl
  · rw [q3]
    simp -implicitDefEqProofs only [go_sem]
    refine vgo_call rfl rfl rfl rfl (c_rstay _ _) ?_
    simp -implicitDefEqProofs only [go_sem]
    rfl
  · rw [q4]
    simp -implicitDefEqProofs only [go_sem]
    refine vgo_call rfl rfl rfl rfl (c_rstay _ _) ?_
    simp -implicitDefEqProofs only [go_sem]
    rfl
  · rw [q5]
    simp -implicitDefEqProofs only [go_sem]
    refine vgo_call rfl rfl rfl rfl (c_rstay _ _) ?_
    simp -implicitDefEqProofs only [go_sem]
    rfl
  · rw [q6]
    simp -implicitDefEqProofs only [go_sem]
    refine vgo_call rfl rfl rfl rfl (c_rto _ _ _ _ _) ?_
    simp -implicitDefEqProofs only [go_sem]
    rfl
  · rw [q7]
    simp -implicitDefEqProofs only [go_sem]
    refine vgo_call rfl rfl rfl rfl (c_rto _ _ _ _ _) ?_
    simp -implicitDefEqProofs only [go_sem]
    rfl
  · rw [q8]
    simp -implicitDefEqProofs only [go_sem]
    refine vgo_call rfl rfl rfl rfl (c_rto _ _ _ _ _) ?_
    simp -implicitDefEqProofs only [go_sem]
    rfl
  · rw [q9]
    simp -implicitDefEqProofs only [go_sem]
    refine vgo_call rfl rfl rfl rfl (c_rto _ _ _ _ _) ?_
    simp -implicitDefEqProofs only [go_sem]
    rfl

theorem nx_timeout4 : nextP 0 4 = (([] : List Int), (0 : Int), false) ∧ nextP 1 4 = (([] : List Int), (1 : Int), false) ∧ nextP 2 4 = (([] : List Int), (2 : Int), false) ∧ nextP 3 4 = (([] : List Int), (3 : Int), false) ∧ nextP 4 4 = (([10] : List Int), (4 : Int), true) ∧ nextP 5 4 = (([10] : List Int), (5 : Int), true) ∧ nextP 6 4 = (([7] : List Int), (6 : Int), true) ∧ nextP 7 4 = (([7] : List Int), (6 : Int), true) ∧ nextP 8 4 = (([7] : List Int), (8 : Int), true) ∧ nextP 9 4 = (([] : List Int), (9 : Int), false) := by decide +kernel
set_option maxRecDepth 20000 in
theorem c_rtimeout4 (s : Int) (h : 0 ≤ s ∧ s ≤ 9) (σ : St) : VCalls Tryz.prog 226 [.int .i64 s, .bool true] σ fun r σ' => r = nxV (nextP s 4) ∧ σ' = σ := by
  refine vcalls_intro (C := cfg Tryz.prog [] [] []) (cfg_ok mixed) Tryz.func226 rfl rfl rfl rfl rfl ?_
  obtain ⟨q0, q1, q2, q3, q4, q5, q6, q7, q8, q9⟩ := nx_timeout4
  have hs : s = 0 ∨ s = 1 ∨ s = 2 ∨ s = 3 ∨ s = 4 ∨ s = 5 ∨ s = 6 ∨ s = 7 ∨ s = 8 ∨ s = 9 := by omega
  rcases hs with rfl | rfl | rfl | rfl | rfl | rfl | rfl | rfl | rfl | rfl
  · rw [q0]
    simp -implicitDefEqProofs only [go_sem]
    refine vgo_call rfl rfl rfl rfl (c_rnever _ _) ?_
    simp -implicitDefEqProofs only [go_sem]
    rfl
  · rw [q1]
    simp -implicitDefEqProofs only [go_sem]
    refine vgo_call rfl rfl rfl rfl (c_rnever _ _) ?_
    simp -implicitDefEqProofs only [go_sem]
    rfl
  · rw [q2]
    simp -implicitDefEqProofs only [go_sem]
    refine vgo_call rfl rfl rfl rfl (c_rnever _ _) ?_
    simp -implicitDefEqProofs only [go_sem]
    rfl
  · rw [q3]
    simp -implicitDefEqProofs only [go_sem]
    refine vgo_call rfl rfl rfl rfl (c_rnever _ _) ?_
    simp -implicitDefEqProofs only [go_sem]
    rfl
  · rw [q4]
    simp -implicitDefEqProofs only [go_sem]
    refine vgo_call rfl rfl rfl rfl (c_rto _ _ _ _ _) ?_
    simp -implicitDefEqProofs only [go_sem]
    rfl
  · rw [q5]
    simp -implicitDefEqProofs only [go_sem]
    refine vgo_call rfl rfl rfl rfl (c_rto _ _ _ _ _) ?_
    simp -implicitDefEqProofs only [go_sem]
    rfl
  · rw [q6]
    simp -implicitDefEqProofs only [go_sem]
    refine vgo_call rfl rfl rfl rfl (c_rto _ _ _ _ _) ?_
    simp -implicitDefEqProofs only [go_sem]
    rfl
  · rw [q7]
    simp -implicitDefEqProofs only [go_sem]
    refine vgo_call rfl rfl rfl rfl (c_rto _ _ _ _ _) ?_
    simp -implicitDefEqProofs only [go_sem]
    rfl
  · rw [q8]
    simp -implicitDefEqProofs only [go_sem]
    refine vgo_call rfl rfl rfl rfl (c_rto _ _ _ _ _) ?_
    simp -implicitDefEqProofs only [go_sem]
    rfl
  · rw [q9]
    simp -implicitDefEqProofs only [go_sem]
    refine vgo_call rfl rfl rfl rfl (c_rnever _ _) ?_
    simp -implicitDefEqProofs only [go_sem]
    rfl

theorem nx_timeout5 : nextP 0 5 = (([] : List Int), (0 : Int), false) ∧ nextP 1 5 = (([] : List Int), (1 : Int), false) ∧ nextP 2 5 = (([] : List Int), (2 : Int), false) ∧ nextP 3 5 = (([] : List Int), (3 : Int), false) ∧ nextP 4 5 = (([4] : List Int), (2 : Int), true) ∧ nextP 5 5 = (([4] : List Int), (3 : Int), true) ∧ nextP 6 5 = (([4] : List Int), (3 : Int), true) ∧ nextP 7 5 = (([4] : List Int), (3 : Int), true) ∧ nextP 8 5 = (([4] : List Int), (3 : Int), true) ∧ nextP 9 5 = (([] : List Int), (9 : Int), false) := by decide +kernel
set_option maxRecDepth 20000 in
theorem c_rtimeout5 (s : Int) (h : 0 ≤ s ∧ s ≤ 9) (σ : St) : VCalls Tryz.prog 226 [.int .i64 s, .bool false] σ fun r σ' => r = nxV (nextP s 5) ∧ σ' = σ := by
  refine vcalls_intro (C := cfg Tryz.prog [] [] []) (cfg_ok mixed) Tryz.func226 rfl rfl rfl rfl rfl ?_
  obtain ⟨q0, q1, q2, q3, q4, q5, q6, q7, q8, q9⟩ := nx_timeout5
  have hs : s = 0 ∨ s = 1 ∨ s = 2 ∨ s = 3 ∨ s = 4 ∨ s = 5 ∨ s = 6 ∨ s = 7 ∨ s = 8 ∨ s = 9 := by omega
  rcases hs with rfl | rfl | rfl | rfl | rfl | rfl | rfl | rfl | rfl | rfl
  · rw [q0]
    simp -implicitDefEqProofs only [go_sem]
    refine vgo_call rfl rfl rfl rfl (c_rnever _ _) ?_
    simp -implicitDefEqProofs only [go_sem]
    rfl
  · rw [q1]
    simp -implicitDefEqProofs only [go_sem]
    refine vgo_call rfl rfl rfl rfl (c_rnever _ _) ?_
    simp -implicitDefEqProofs only [go_sem]
    rfl
  · rw [q2]
    simp -implicitDefEqProofs only [go_sem]
    refine vgo_call rfl rfl rfl rfl (c_rnever _ _) ?_
    simp -implicitDefEqProofs only [go_sem]
    rfl
  · rw [q3]
    simp -implicitDefEqProofs only [go_sem]
    refine vgo_call rfl rfl rfl rfl (c_rnever _ _) ?_
    simp -implicitDefEqProofs only [go_sem]
    rfl
  · rw [q4]
    simp -implicitDefEqProofs only [go_sem]
    refine vgo_call rfl rfl rfl rfl (c_rto _ _ _ _ _) ?_
    simp -implicitDefEqProofs only [go_sem]
    rfl
  · rw [q5]
    simp -implicitDefEqProofs only [go_sem]
    refine vgo_call rfl rfl rfl rfl (c_rto _ _ _ _ _) ?_
    simp -implicitDefEqProofs only [go_sem]
    rfl
  · rw [q6]
    simp -implicitDefEqProofs only [go_sem]
    refine vgo_call rfl rfl rfl rfl (c_rto _ _ _ _ _) ?_
    simp -implicitDefEqProofs only [go_sem]
    rfl
  · rw [q7]
    simp -implicitDefEqProofs only [go_sem]
    refine vgo_call rfl rfl rfl rfl (c_rto _ _ _ _ _) ?_
    simp -implicitDefEqProofs only [go_sem]
    rfl
  · rw [q8]
    simp -implicitDefEqProofs only [go_sem]
    refine vgo_call rfl rfl rfl rfl (c_rto _ _ _ _ _) ?_
    simp -implicitDefEqProofs only [go_sem]
    rfl
  · rw [q9]
    simp -implicitDefEqProofs only [go_sem]
    refine vgo_call rfl rfl rfl rfl (c_rnever _ _) ?_
    simp -implicitDefEqProofs only [go_sem]
    rfl

theorem nx_request6 : nextP 2 6 = (([11] : List Int), (2 : Int), true) ∧ nextP 3 6 = (([5, 7, 8] : List Int), (8 : Int), true) ∧ nextP 4 6 = (([] : List Int), (4 : Int), true) ∧ nextP 5 6 = (([] : List Int), (5 : Int), true) ∧ nextP 6 6 = (([8] : List Int), (8 : Int), true) ∧ nextP 7 6 = (([8, 1] : List Int), (9 : Int), true) ∧ nextP 8 6 = (([8] : List Int), (8 : Int), true) ∧ nextP 9 6 = (([2, 7, 8] : List Int), (8 : Int), true) := by decide +kernel
set_option maxRecDepth 20000 in
theorem c_rrequest6 (s : Int) (h : 2 ≤ s ∧ s ≤ 9) (σ : St) : VCalls Tryz.prog 227 [.int .i64 s, .bool true, .int .i64 8] σ fun r σ' => r = nxV (nextP s 6) ∧ σ' = σ := by
  refine vcalls_intro (C := cfg Tryz.prog [] [] []) (cfg_ok mixed) Tryz.func227 rfl rfl rfl rfl rfl ?_
  obtain ⟨q2, q3, q4, q5, q6, q7, q8, q9⟩ := nx_request6
  have hs : s = 2 ∨ s = 3 ∨ s = 4 ∨ s = 5 ∨ s = 6 ∨ s = 7 ∨ s = 8 ∨ s = 9 := by omega
  rcases hs with rfl | rfl | rfl | rfl | rfl | rfl | rfl | rfl
  · rw [q2]
    simp -implicitDefEqProofs only [go_sem]
    refine vgo_call rfl rfl rfl rfl (c_rto _ _ _ _ _) ?_
    simp -implicitDefEqProofs only [go_sem]
    rfl
  · rw [q3]
    simp -implicitDefEqProofs only [go_sem]
    refine vgo_call rfl rfl rfl rfl (c_rto _ _ _ _ _) ?_
    simp -implicitDefEqProofs only [go_sem]
    rfl
  · rw [q4]
    simp -implicitDefEqProofs only [go_sem]
    refine vgo_call rfl rfl rfl rfl (c_rstay _ _) ?_
    simp -implicitDefEqProofs only [go_sem]
    rfl
  · rw [q5]
    simp -implicitDefEqProofs only [go_sem]
    refine vgo_call rfl rfl rfl rfl (c_rstay _ _) ?_
    simp -implicitDefEqProofs only [go_sem]
    rfl
  · rw [q6]
    simp -implicitDefEqProofs only [go_sem]
    refine vgo_call rfl rfl rfl rfl (c_rto _ _ _ _ _) ?_
    simp -implicitDefEqProofs only [go_sem]
    rfl
  · rw [q7]
    simp -implicitDefEqProofs only [go_sem]
    refine vgo_call rfl rfl rfl rfl (c_rto _ _ _ _ _) ?_
    simp -implicitDefEqProofs only [go_sem]
    rfl
  · rw [q8]
    simp -implicitDefEqProofs only [go_sem]
    refine vgo_call rfl rfl rfl rfl (c_rto _ _ _ _ _) ?_
    simp -implicitDefEqProofs only [go_sem]
    rfl
  · rw [q9]
    simp -implicitDefEqProofs only [go_sem]
    refine vgo_call rfl rfl rfl rfl (c_rto _ _ _ _ _) ?_
    simp -implicitDefEqProofs only [go_sem]
    rfl

theorem nx_request7 : nextP 2 7 = (([11] : List Int), (2 : Int), true) ∧ nextP 3 7 = (([5, 7, 9] : List Int), (6 : Int), true) ∧ nextP 4 7 = (([] : List Int), (4 : Int), true) ∧ nextP 5 7 = (([] : List Int), (5 : Int), true) ∧ nextP 6 7 = (([9] : List Int), (6 : Int), true) ∧ nextP 7 7 = (([9] : List Int), (7 : Int), true) ∧ nextP 8 7 = (([9] : List Int), (6 : Int), true) ∧ nextP 9 7 = (([2, 7, 9] : List Int), (6 : Int), true) := by decide +kernel
set_option maxRecDepth 20000 in
theorem c_rrequest7 (s : Int) (h : 2 ≤ s ∧ s ≤ 9) (σ : St) : VCalls Tryz.prog 227 [.int .i64 s, .bool false, .int .i64 9] σ fun r σ' => r = nxV (nextP s 7) ∧ σ' = σ := by
  refine vcalls_intro (C := cfg Tryz.prog [] [] []) (cfg_ok mixed) Tryz.func227 rfl rfl rfl rfl rfl ?_
  obtain ⟨q2, q3, q4, q5, q6, q7, q8, q9⟩ := nx_request7
  have hs : s = 2 ∨ s = 3 ∨ s = 4 ∨ s = 5 ∨ s = 6 ∨ s = 7 ∨ s = 8 ∨ s = 9 := by omega
  rcases hs with rfl | rfl | rfl | rfl | rfl | rfl | rfl | rfl
  · rw [q2]
    simp -implicitDefEqProofs only [go_sem]
    refine vgo_call rfl rfl rfl rfl (c_rto _ _ _ _ _) ?_
    simp -implicitDefEqProofs only [go_sem]
    rfl
  · rw [q3]
    simp -implicitDefEqProofs only [go_sem]
    refine vgo_call rfl rfl rfl rfl (c_rto _ _ _ _ _) ?_
    simp -implicitDefEqProofs only [go_sem]
    rfl
  · rw [q4]
    simp -implicitDefEqProofs only [go_sem]
    refine vgo_call rfl rfl rfl rfl (c_rstay _ _) ?_
    simp -implicitDefEqProofs only [go_sem]
    rfl
  · rw [q5]
    simp -implicitDefEqProofs only [go_sem]
    refine vgo_call rfl rfl rfl rfl (c_rstay _ _) ?_
    simp -implicitDefEqProofs only [go_sem]
    rfl
  · rw [q6]
    simp -implicitDefEqProofs only [go_sem]
    refine vgo_call rfl rfl rfl rfl (c_rto _ _ _ _ _) ?_
    simp -implicitDefEqProofs only [go_sem]
    rfl
  · rw [q7]
    simp -implicitDefEqProofs only [go_sem]
    refine vgo_call rfl rfl rfl rfl (c_rto _ _ _ _ _) ?_
    simp -implicitDefEqProofs only [go_sem]
    rfl
  · rw [q8]
    simp -implicitDefEqProofs only [go_sem]
    refine vgo_call rfl rfl rfl rfl (c_rto _ _ _ _ _) ?_
    simp -implicitDefEqProofs only [go_sem]
    rfl
  · rw [q9]
    simp -implicitDefEqProofs only [go_sem]
    refine vgo_call rfl rfl rfl rfl (c_rto _ _ _ _ _) ?_
    simp -implicitDefEqProofs only [go_sem]
    rfl

theorem nx_answer8 : nextP 2 8 = (([11] : List Int), (2 : Int), true) ∧ nextP 3 8 = (([11] : List Int), (3 : Int), true) ∧ nextP 4 8 = (([] : List Int), (4 : Int), true) ∧ nextP 5 8 = (([] : List Int), (5 : Int), true) ∧ nextP 6 8 = (([5] : List Int), (7 : Int), true) ∧ nextP 7 8 = (([7] : List Int), (6 : Int), true) ∧ nextP 8 8 = (([5, 1] : List Int), (9 : Int), true) ∧ nextP 9 8 = (([2, 7] : List Int), (6 : Int), true) := by decide +kernel
set_option maxRecDepth 20000 in
theorem c_ranswer8 (s : Int) (h : 2 ≤ s ∧ s ≤ 9) (σ : St) : VCalls Tryz.prog 228 [.int .i64 s, .bool true] σ fun r σ' => r = nxV (nextP s 8) ∧ σ' = σ := by
  refine vcalls_intro (C := cfg Tryz.prog [] [] []) (cfg_ok mixed) Tryz.func228 rfl rfl rfl rfl rfl ?_
  obtain ⟨q2, q3, q4, q5, q6, q7, q8, q9⟩ := nx_answer8
  have hs : s = 2 ∨ s = 3 ∨ s = 4 ∨ s = 5 ∨ s = 6 ∨ s = 7 ∨ s = 8 ∨ s = 9 := by omega
  rcases hs with rfl | rfl | rfl | rfl | rfl | rfl | rfl | rfl
  · rw [q2]
    simp -implicitDefEqProofs only [go_sem]
    refine vgo_call rfl rfl rfl rfl (c_rto _ _ _ _ _) ?_
    simp -implicitDefEqProofs only [go_sem]
    rfl
  · rw [q3]
    simp -implicitDefEqProofs only [go_sem]
    refine vgo_call rfl rfl rfl rfl (c_rto _ _ _ _ _) ?_
    simp -implicitDefEqProofs only [go_sem]
    rfl
  · rw [q4]
    simp -implicitDefEqProofs only [go_sem]
    refine vgo_call rfl rfl rfl rfl (c_rstay _ _) ?_
    simp -implicitDefEqProofs only [go_sem]
    rfl
  · rw [q5]
    simp -implicitDefEqProofs only [go_sem]
    refine vgo_call rfl rfl rfl rfl (c_rstay _ _) ?_
    simp -implicitDefEqProofs only [go_sem]
    rfl
  · rw [q6]
    simp -implicitDefEqProofs only [go_sem]
    refine vgo_call rfl rfl rfl rfl (c_rto _ _ _ _ _) ?_
    simp -implicitDefEqProofs only [go_sem]
    rfl
  · rw [q7]
    simp -implicitDefEqProofs only [go_sem]
    refine vgo_call rfl rfl rfl rfl (c_rto _ _ _ _ _) ?_
    simp -implicitDefEqProofs only [go_sem]
    rfl
  · rw [q8]
    simp -implicitDefEqProofs only [go_sem]
    refine vgo_call rfl rfl rfl rfl (c_rto _ _ _ _ _) ?_
    simp -implicitDefEqProofs only [go_sem]
    rfl
  · rw [q9]
    simp -implicitDefEqProofs only [go_sem]
    refine vgo_call rfl rfl rfl rfl (c_rto _ _ _ _ _) ?_
    simp -implicitDefEqProofs only [go_sem]
    rfl

theorem nx_answer9 : nextP 2 9 = (([11] : List Int), (2 : Int), true) ∧ nextP 3 9 = (([11] : List Int), (3 : Int), true) ∧ nextP 4 9 = (([] : List Int), (4 : Int), true) ∧ nextP 5 9 = (([] : List Int), (5 : Int), true) ∧ nextP 6 9 = (([5, 7] : List Int), (6 : Int), true) ∧ nextP 7 9 = (([7] : List Int), (6 : Int), true) ∧ nextP 8 9 = (([5, 7] : List Int), (8 : Int), true) ∧ nextP 9 9 = (([2, 7] : List Int), (6 : Int), true) := by decide +kernel
set_option maxRecDepth 20000 in
theorem c_ranswer9 (s : Int) (h : 2 ≤ s ∧ s ≤ 9) (σ : St) : VCalls Tryz.prog 228 [.int .i64 s, .bool false] σ fun r σ' => r = nxV (nextP s 9) ∧ σ' = σ := by
  refine vcalls_intro (C := cfg Tryz.prog [] [] []) (cfg_ok mixed) Tryz.func228 rfl rfl rfl rfl rfl ?_
  obtain ⟨q2, q3, q4, q5, q6, q7, q8, q9⟩ := nx_answer9
  have hs : s = 2 ∨ s = 3 ∨ s = 4 ∨ s = 5 ∨ s = 6 ∨ s = 7 ∨ s = 8 ∨ s = 9 := by omega
  rcases hs with rfl | rfl | rfl | rfl | rfl | rfl | rfl | rfl
  · rw [q2]
    simp -implicitDefEqProofs only [go_sem]
    refine vgo_call rfl rfl rfl rfl (c_rto _ _ _ _ _) ?_
    simp -implicitDefEqProofs only [go_sem]
    rfl
  · rw [q3]
    simp -implicitDefEqProofs only [go_sem]
    refine vgo_call rfl rfl rfl rfl (c_rto _ _ _ _ _) ?_
    simp -implicitDefEqProofs only [go_sem]
    rfl
  · rw [q4]
    simp -implicitDefEqProofs only [go_sem]
    refine vgo_call rfl rfl rfl rfl (c_rstay _ _) ?_
    simp -implicitDefEqProofs only [go_sem]
    rfl
  · rw [q5]
    simp -implicitDefEqProofs only [go_sem]
    refine vgo_call rfl rfl rfl rfl (c_rstay _ _) ?_
    simp -implicitDefEqProofs only [go_sem]
    rfl
  · rw [q6]
    simp -implicitDefEqProofs only [go_sem]
    refine vgo_call rfl rfl rfl rfl (c_rto _ _ _ _ _) ?_
    simp -implicitDefEqProofs only [go_sem]
    rfl
  · rw [q7]
    simp -implicitDefEqProofs only [go_sem]
    refine vgo_call rfl rfl rfl rfl (c_rto _ _ _ _ _) ?_
    simp -implicitDefEqProofs only [go_sem]
    rfl
  · rw [q8]
    simp -implicitDefEqProofs only [go_sem]
    refine vgo_call rfl rfl rfl rfl (c_rto _ _ _ _ _) ?_
    simp -implicitDefEqProofs only [go_sem]
    rfl
  · rw [q9]
    simp -implicitDefEqProofs only [go_sem]
    refine vgo_call rfl rfl rfl rfl (c_rto _ _ _ _ _) ?_
    simp -implicitDefEqProofs only [go_sem]
    rfl

theorem nx_end : nextP 2 10 = (([11] : List Int), (2 : Int), true) ∧ nextP 3 10 = (([11] : List Int), (3 : Int), true) ∧ nextP 4 10 = (([11] : List Int), (4 : Int), true) ∧ nextP 5 10 = (([11] : List Int), (5 : Int), true) ∧ nextP 6 10 = (([11] : List Int), (6 : Int), true) ∧ nextP 7 10 = (([11] : List Int), (6 : Int), true) ∧ nextP 8 10 = (([11] : List Int), (6 : Int), true) ∧ nextP 9 10 = (([2, 6, 11] : List Int), (5 : Int), true) := by decide +kernel
set_option maxRecDepth 20000 in
theorem c_rend (s : Int) (h : 2 ≤ s ∧ s ≤ 9) (σ : St) : VCalls Tryz.prog 229 [.int .i64 s] σ fun r σ' => r = nxV (nextP s 10) ∧ σ' = σ := by
  refine vcalls_intro (C := cfg Tryz.prog [] [] []) (cfg_ok mixed) Tryz.func229 rfl rfl rfl rfl rfl ?_
  obtain ⟨q2, q3, q4, q5, q6, q7, q8, q9⟩ := nx_end
  have hs : s = 2 ∨ s = 3 ∨ s = 4 ∨ s = 5 ∨ s = 6 ∨ s = 7 ∨ s = 8 ∨ s = 9 := by omega
  rcases hs with rfl | rfl | rfl | rfl | rfl | rfl | rfl | rfl
  · rw [q2]
    simp -implicitDefEqProofs only [go_sem]
    refine vgo_call rfl rfl rfl rfl (c_rto _ _ _ _ _) ?_
    simp -implicitDefEqProofs only [go_sem]
    rfl
  · rw [q3]
    simp -implicitDefEqProofs only [go_sem]
    refine vgo_call rfl rfl rfl rfl (c_rto _ _ _ _ _) ?_
    simp -implicitDefEqProofs only [go_sem]
    rfl
  · rw [q4]
    simp -implicitDefEqProofs only [go_sem]
    refine vgo_call rfl rfl rfl rfl (c_rto _ _ _ _ _) ?_
    simp -implicitDefEqProofs only [go_sem]
    rfl
  · rw [q5]
    simp -implicitDefEqProofs only [go_sem]
    refine vgo_call rfl rfl rfl rfl (c_rto _ _ _ _ _) ?_
    simp -implicitDefEqProofs only [go_sem]
    rfl
  · rw [q6]
    simp -implicitDefEqProofs only [go_sem]
    refine vgo_call rfl rfl rfl rfl (c_rto _ _ _ _ _) ?_
    simp -implicitDefEqProofs only [go_sem]
    rfl
  · rw [q7]
    simp -implicitDefEqProofs only [go_sem]
    refine vgo_call rfl rfl rfl rfl (c_rto _ _ _ _ _) ?_
    simp -implicitDefEqProofs only [go_sem]
    rfl
  · rw [q8]
    simp -implicitDefEqProofs only [go_sem]
    refine vgo_call rfl rfl rfl rfl (c_rto _ _ _ _ _) ?_
    simp -implicitDefEqProofs only [go_sem]
    rfl
  · rw [q9]
    simp -implicitDefEqProofs only [go_sem]
    refine vgo_call rfl rfl rfl rfl (c_rto _ _ _ _ _) ?_
    simp -implicitDefEqProofs only [go_sem]
    rfl

theorem nx_ended : nextP 2 11 = (([] : List Int), (2 : Int), true) ∧ nextP 3 11 = (([] : List Int), (3 : Int), true) ∧ nextP 4 11 = (([4] : List Int), (2 : Int), true) ∧ nextP 5 11 = (([4] : List Int), (3 : Int), true) ∧ nextP 6 11 = (([] : List Int), (6 : Int), true) ∧ nextP 7 11 = (([] : List Int), (6 : Int), true) ∧ nextP 8 11 = (([] : List Int), (8 : Int), true) ∧ nextP 9 11 = (([2, 7] : List Int), (6 : Int), true) := by decide +kernel
set_option maxRecDepth 20000 in
theorem c_rended (s : Int) (h : 2 ≤ s ∧ s ≤ 9) (σ : St) : VCalls Tryz.prog 230 [.int .i64 s] σ fun r σ' => r = nxV (nextP s 11) ∧ σ' = σ := by
  refine vcalls_intro (C := cfg Tryz.prog [] [] []) (cfg_ok mixed) Tryz.func230 rfl rfl rfl rfl rfl ?_
  obtain ⟨q2, q3, q4, q5, q6, q7, q8, q9⟩ := nx_ended
  have hs : s = 2 ∨ s = 3 ∨ s = 4 ∨ s = 5 ∨ s = 6 ∨ s = 7 ∨ s = 8 ∨ s = 9 := by omega
  rcases hs with rfl | rfl | rfl | rfl | rfl | rfl | rfl | rfl
  · rw [q2]
    simp -implicitDefEqProofs only [go_sem]
    refine vgo_call rfl rfl rfl rfl (c_rstay _ _) ?_
    simp -implicitDefEqProofs only [go_sem]
    rfl
  · rw [q3]
    simp -implicitDefEqProofs only [go_sem]
    refine vgo_call rfl rfl rfl rfl (c_rstay _ _) ?_
    simp -implicitDefEqProofs only [go_sem]
    rfl
  · rw [q4]
    simp -implicitDefEqProofs only [go_sem]
    refine vgo_call rfl rfl rfl rfl (c_rto _ _ _ _ _) ?_
    simp -implicitDefEqProofs only [go_sem]
    rfl
  · rw [q5]
    simp -implicitDefEqProofs only [go_sem]
    refine vgo_call rfl rfl rfl rfl (c_rto _ _ _ _ _) ?_
    simp -implicitDefEqProofs only [go_sem]
    rfl
  · rw [q6]
    simp -implicitDefEqProofs only [go_sem]
    refine vgo_call rfl rfl rfl rfl (c_rstay _ _) ?_
    simp -implicitDefEqProofs only [go_sem]
    rfl
  · rw [q7]
    simp -implicitDefEqProofs only [go_sem]
    refine vgo_call rfl rfl rfl rfl (c_rstay _ _) ?_
    simp -implicitDefEqProofs only [go_sem]
    rfl
  · rw [q8]
    simp -implicitDefEqProofs only [go_sem]
    refine vgo_call rfl rfl rfl rfl (c_rstay _ _) ?_
    simp -implicitDefEqProofs only [go_sem]
    rfl
  · rw [q9]
    simp -implicitDefEqProofs only [go_sem]
    refine vgo_call rfl rfl rfl rfl (c_rto _ _ _ _ _) ?_
    simp -implicitDefEqProofs only [go_sem]
    rfl

theorem nx_reject13 : nextP 2 13 = (([] : List Int), (2 : Int), true) ∧ nextP 3 13 = (([] : List Int), (3 : Int), true) ∧ nextP 4 13 = (([] : List Int), (4 : Int), true) ∧ nextP 5 13 = (([] : List Int), (5 : Int), true) ∧ nextP 6 13 = (([] : List Int), (6 : Int), true) ∧ nextP 7 13 = (([] : List Int), (6 : Int), true) ∧ nextP 8 13 = (([] : List Int), (8 : Int), true) ∧ nextP 9 13 = (([] : List Int), (9 : Int), true) := by decide +kernel
set_option maxRecDepth 20000 in
theorem c_rreject13 (s : Int) (h : 2 ≤ s ∧ s ≤ 9) (σ : St) : VCalls Tryz.prog 232 [.int .i64 s, .bool true] σ fun r σ' => r = nxV (nextP s 13) ∧ σ' = σ := by
  refine vcalls_intro (C := cfg Tryz.prog [] [] []) (cfg_ok mixed) Tryz.func232 rfl rfl rfl rfl rfl ?_
  obtain ⟨q2, q3, q4, q5, q6, q7, q8, q9⟩ := nx_reject13
  have hs : s = 2 ∨ s = 3 ∨ s = 4 ∨ s = 5 ∨ s = 6 ∨ s = 7 ∨ s = 8 ∨ s = 9 := by omega
  rcases hs with rfl | rfl | rfl | rfl | rfl | rfl | rfl | rfl
  · rw [q2]
    simp -implicitDefEqProofs only [go_sem]
    refine vgo_call rfl rfl rfl rfl (c_rstay _ _) ?_
    simp -implicitDefEqProofs only [go_sem]
    rfl
  · rw [q3]
    simp -implicitDefEqProofs only [go_sem]
    refine vgo_call rfl rfl rfl rfl (c_rstay _ _) ?_
    simp -implicitDefEqProofs only [go_sem]
    rfl
  · rw [q4]
    simp -implicitDefEqProofs only [go_sem]
    refine vgo_call rfl rfl rfl rfl (c_rstay _ _) ?_
    simp -implicitDefEqProofs only [go_sem]
    rfl
  · rw [q5]
    simp -implicitDefEqProofs only [go_sem]
    refine vgo_call rfl rfl rfl rfl (c_rstay _ _) ?_
    simp -implicitDefEqProofs only [go_sem]
    rfl
  · rw [q6]
    simp -implicitDefEqProofs only [go_sem]
    refine vgo_call rfl rfl rfl rfl (c_rstay _ _) ?_
    simp -implicitDefEqProofs only [go_sem]
    rfl
  · rw [q7]
    simp -implicitDefEqProofs only [go_sem]
    refine vgo_call rfl rfl rfl rfl (c_rstay _ _) ?_
    simp -implicitDefEqProofs only [go_sem]
    rfl
  · rw [q8]
    simp -implicitDefEqProofs only [go_sem]
    refine vgo_call rfl rfl rfl rfl (c_rstay _ _) ?_
    simp -implicitDefEqProofs only [go_sem]
    rfl
  · rw [q9]
    simp -implicitDefEqProofs only [go_sem]
    refine vgo_call rfl rfl rfl rfl (c_rstay _ _) ?_
    simp -implicitDefEqProofs only [go_sem]
    rfl

theorem nx_reject14 : nextP 2 14 = (([4] : List Int), (2 : Int), true) ∧ nextP 3 14 = (([4] : List Int), (3 : Int), true) ∧ nextP 4 14 = (([4] : List Int), (2 : Int), true) ∧ nextP 5 14 = (([4] : List Int), (3 : Int), true) ∧ nextP 6 14 = (([4] : List Int), (3 : Int), true) ∧ nextP 7 14 = (([4] : List Int), (3 : Int), true) ∧ nextP 8 14 = (([4] : List Int), (3 : Int), true) ∧ nextP 9 14 = (([2, 5, 10] : List Int), (5 : Int), true) := by decide +kernel
set_option maxRecDepth 20000 in
theorem c_rreject14 (s : Int) (h : 2 ≤ s ∧ s ≤ 9) (σ : St) : VCalls Tryz.prog 232 [.int .i64 s, .bool false] σ fun r σ' => r = nxV (nextP s 14) ∧ σ' = σ := by
  refine vcalls_intro (C := cfg Tryz.prog [] [] []) (cfg_ok mixed) Tryz.func232 rfl rfl rfl rfl rfl ?_
  obtain ⟨q2, q3, q4, q5, q6, q7, q8, q9⟩ := nx_reject14
  have hs : s = 2 ∨ s = 3 ∨ s = 4 ∨ s = 5 ∨ s = 6 ∨ s = 7 ∨ s = 8 ∨ s = 9 := by omega
  rcases hs with rfl | rfl | rfl | rfl | rfl | rfl | rfl | rfl
  · rw [q2]
    simp -implicitDefEqProofs only [go_sem]
    refine vgo_call rfl rfl rfl rfl (c_rto _ _ _ _ _) ?_
    simp -implicitDefEqProofs only [go_sem]
    rfl
  · rw [q3]
    simp -implicitDefEqProofs only [go_sem]
    refine vgo_call rfl rfl rfl rfl (c_rto _ _ _ _ _) ?_
    simp -implicitDefEqProofs only [go_sem]
    rfl
  · rw [q4]
    simp -implicitDefEqProofs only [go_sem]
    refine vgo_call rfl rfl rfl rfl (c_rto _ _ _ _ _) ?_
    simp -implicitDefEqProofs only [go_sem]
    rfl
  · rw [q5]
    simp -implicitDefEqProofs only [go_sem]
    refine vgo_call rfl rfl rfl rfl (c_rto _ _ _ _ _) ?_
    simp -implicitDefEqProofs only [go_sem]
    rfl
  · rw [q6]
    simp -implicitDefEqProofs only [go_sem]
    refine vgo_call rfl rfl rfl rfl (c_rto _ _ _ _ _) ?_
    simp -implicitDefEqProofs only [go_sem]
    rfl
  · rw [q7]
    simp -implicitDefEqProofs only [go_sem]
    refine vgo_call rfl rfl rfl rfl (c_rto _ _ _ _ _) ?_
    simp -implicitDefEqProofs only [go_sem]
    rfl
  · rw [q8]
    simp -implicitDefEqProofs only [go_sem]
    refine vgo_call rfl rfl rfl rfl (c_rto _ _ _ _ _) ?_
    simp -implicitDefEqProofs only [go_sem]
    rfl
  · rw [q9]
    simp -implicitDefEqProofs only [go_sem]
    refine vgo_call rfl rfl rfl rfl (c_rto _ _ _ _ _) ?_
    simp -implicitDefEqProofs only [go_sem]
    rfl

end Go.VL

/- Contracts of this program's functions: the document's Next, rows of numbers. Conditions: none. -/
namespace Go.VL
open Go.Proofs

theorem c_rhas (nl c : Bool) (l : List Int) (n : Int) (hl : l.length ≤ 1000) (σ : St) : VCalls Tryz.prog 150 [.sl nl c 1 (zv64 l), .int .i64 n] σ fun r σ' => r = .bool (decide (n ∈ l)) ∧ σ' = σ := by
  refine vcalls_intro (C := cfg Tryz.prog [] [] []) (cfg_ok mixed) Tryz.func150 rfl rfl rfl rfl rfl ?_
  simp -implicitDefEqProofs only [go_sem]
  refine w_loop (fun i => i ≤ l.length ∧ n ∉ l.take i) (fun i => [(5, .int .i64 i), (1, .int .i64 n), (0, .sl nl c 1 (zv64 l))]) (fun _ => σ) (fun i => l.length - i) 0 ⟨Nat.zero_le _, by simp⟩ ?_ rfl ?_
  · simp -implicitDefEqProofs only [go_sem]
    rfl
  rintro i ⟨hi, hno⟩
  rcases Nat.lt_or_ge i l.length with h | h
  · have hw1 : IntKind.i64.wrap ((i : Int) + 1) = ((i + 1 : Nat) : Int) := wrap_ok (by omega) (by omega)
    simp -implicitDefEqProofs only [go_sem, zv_length, zv_getD h, h]
    cases q : l[i] == n
    · have hne : ¬ l[i] = n := by simpa using q
      simp -implicitDefEqProofs only [go_sem, q]
      refine l_next (i + 1) ⟨h, ?_⟩ (by omega) ?_ rfl
      · rw [List.take_succ_eq_append_getElem h, List.mem_append]
        rintro (hm | hm)
        · exact hno hm
        · exact hne (List.mem_singleton.1 hm).symm
      · simp -implicitDefEqProofs only [go_sem, hw1]
    · have he : l[i] = n := by simpa using q
      have hm : decide (n ∈ l) = true := by rw [decide_eq_true_iff, ← he]; exact List.getElem_mem h
      simp -implicitDefEqProofs only [go_sem, q]
      refine l_ret ?_
      simp -implicitDefEqProofs only [go_sem, hm]
  · have hn : ¬ (i < l.length) := by omega
    rw [List.take_of_length_le h] at hno
    have hm : decide (n ∈ l) = false := by rw [decide_eq_false_iff_not]; exact hno
    simp -implicitDefEqProofs only [go_sem, zv_length, hn]
    refine l_exit ?_
    simp -implicitDefEqProofs only [go_sem, hm]

theorem c_rints (nl c nl' c' : Bool) (l : List Int) (hl : l.length ≤ 1000) (σ : St) : VCalls Tryz.prog 82 [.sl nl c 1 (zv64 l), .sl nl' c' 1 (zv64 l)] σ fun r σ' => r = .bool true ∧ σ' = σ := by
  refine vcalls_intro (C := cfg Tryz.prog [] [] []) (cfg_ok mixed) Tryz.func82 rfl rfl rfl rfl rfl ?_
  have hz : (((l.length : Nat) : Int) == ((l.length : Nat) : Int)) = true := by simp
  simp -implicitDefEqProofs only [go_sem, zv_length, bne, hz, Bool.not_true]
  refine w_loop (fun i => i ≤ l.length) (fun i => [(5, .int .i64 i), (1, .sl nl' c' 1 (zv64 l)), (0, .sl nl c 1 (zv64 l))]) (fun _ => σ) (fun i => l.length - i) 0 (Nat.zero_le _) ?_ rfl ?_
  · simp -implicitDefEqProofs only [go_sem]
    rfl
  intro i hi
  rcases Nat.lt_or_ge i l.length with h | h
  · have hw1 : IntKind.i64.wrap ((i : Int) + 1) = ((i + 1 : Nat) : Int) := wrap_ok (by omega) (by omega)
    have he : (l[i] == l[i]) = true := by simp
    simp -implicitDefEqProofs only [go_sem, zv_length, zv_getD h, h]
    refine w_walk2 [] [0, 1, 2, 3, 4, 5, 6, 7, 8] [17, 18, 19, 20, 21, 22, 23, 24, 25] [0, 0, 3, 7, 0, 0, 48, 112, 255] rfl rfl rfl rfl ?_
    simp -implicitDefEqProofs only [go_sem, zv_length, zv_getD h, h, bne, he, Bool.not_true]
    refine l_next (i + 1) h (by omega) ?_ rfl
    simp -implicitDefEqProofs only [go_sem, hw1]
  · have hn : ¬ (i < l.length) := by omega
    simp -implicitDefEqProofs only [go_sem, zv_length, hn]
    refine l_exit ?_
    simp -implicitDefEqProofs only [go_sem]
theorem c_rintsS (l : List Int) (hl : l.length ≤ 1000) {u v : V} (hu : IsSl u 1 (zv64 l)) (hv : IsSl v 1 (zv64 l)) (σ : St) : VCalls Tryz.prog 82 [u, v] σ fun r σ' => r = .bool true ∧ σ' = σ := by
  obtain ⟨n1, h1⟩ := hu.ne
  obtain ⟨n2, h2⟩ := hv.ne
  exact (c_rints n1 false n2 false l hl σ).ne ⟨h1, h2, trivial⟩

theorem next_out {s e : Int} (h : ¬ (0 ≤ s ∧ s ≤ 9 ∧ 0 ≤ e ∧ e ≤ 15)) : nextP s e = ([], s, false) := by
  unfold nextP
  have : (decide (0 ≤ s) && decide (s ≤ 9) && decide (0 ≤ e) && decide (e ≤ 15)) = false := by
    cases hq : decide (0 ≤ s) && decide (s ≤ 9) && decide (0 ≤ e) && decide (e ≤ 15)
    · rfl
    · simp only [Bool.and_eq_true, decide_eq_true_eq] at hq
      exact absurd ⟨hq.1.1.1, hq.1.1.2, hq.1.2, hq.2⟩ h
  rw [this]
  rfl
theorem low_all : ∀ s : Fin 2, ∀ e : Fin 16, 5 < e.val → nextP s.val e.val = ([], (s.val : Int), false) := by decide +kernel
theorem next_low {s e : Int} (hs : 0 ≤ s) (h : s < 2) (h5 : 5 < e) : nextP s e = ([], s, false) := by
  rcases (by omega : 15 < e ∨ e ≤ 15) with he | he
  · exact next_out (by omega)
  · have := low_all ⟨s.toNat, by omega⟩ ⟨e.toNat, by omega⟩ (by show 5 < e.toNat; omega)
    have e1 : ((s.toNat : Nat) : Int) = s := by omega
    have e2 : ((e.toNat : Nat) : Int) = e := by omega
    simp only [e1, e2] at this
    exact this
theorem nxV_val (x : List Int × Int × Bool) : (nxV x).isVal = true := rfl

set_option maxHeartbeats 4000000 in
set_option maxRecDepth 20000 in
theorem c_rnext (s e : Int) (σ : St) : VCalls Tryz.prog 195 [.int .i64 s, .int .i64 e] σ fun r σ' => r = nxV (nextP s e) ∧ σ' = σ := by
  refine vcalls_intro (C := cfg Tryz.prog [] [] []) (cfg_ok mixed) Tryz.func195 rfl rfl rfl rfl rfl ?_
  have hout : nextP s e = ([], s, false) → V.tup [.sl true false 0 [], .int .i64 s, .bool false] = nxV (nextP s e) := fun h => by rw [h]; rfl
  cases d1 : decide (s < 0)
  case true =>
    simp -implicitDefEqProofs only [go_sem, d1]
    refine vgo_call rfl rfl rfl rfl (c_rnever _ _) ?_
    simp -implicitDefEqProofs only [go_sem]
    exact hout (next_out (by have := of_decide_eq_true d1; omega))
  cases d2 : decide ((9 : Int) < s)
  case true =>
    simp -implicitDefEqProofs only [go_sem, d1, d2]
    refine vgo_call rfl rfl rfl rfl (c_rnever _ _) ?_
    simp -implicitDefEqProofs only [go_sem]
    exact hout (next_out (by have := of_decide_eq_true d2; omega))
  cases d3 : decide (e < 0)
  case true =>
    simp -implicitDefEqProofs only [go_sem, d1, d2, d3]
    refine vgo_call rfl rfl rfl rfl (c_rnever _ _) ?_
    simp -implicitDefEqProofs only [go_sem]
    exact hout (next_out (by have := of_decide_eq_true d3; omega))
  cases d4 : decide ((15 : Int) < e)
  case true =>
    simp -implicitDefEqProofs only [go_sem, d1, d2, d3, d4]
    refine vgo_call rfl rfl rfl rfl (c_rnever _ _) ?_
    simp -implicitDefEqProofs only [go_sem]
    exact hout (next_out (by have := of_decide_eq_true d4; omega))
  have h1 := of_decide_eq_false d1
  have h2 := of_decide_eq_false d2
  have h3 := of_decide_eq_false d3
  have h4 := of_decide_eq_false d4
  cases d5 : decide ((5 : Int) < e)
  case false =>
    have h5 := of_decide_eq_false d5
    have he : e = 0 ∨ e = 1 ∨ e = 2 ∨ e = 3 ∨ e = 4 ∨ e = 5 := by omega
    have hs : 0 ≤ s ∧ s ≤ 9 := by omega
    rcases he with rfl | rfl | rfl | rfl | rfl | rfl
    all_goals simp -implicitDefEqProofs only [go_sem, d1, d2, d3, d4, d5]
    · refine vgo_call rfl rfl rfl (nxV_val _) (c_rup s hs σ) ?_
      simp -implicitDefEqProofs only [go_sem, nxV, rowL]
    · refine vgo_call rfl rfl rfl (nxV_val _) (c_rdown s hs σ) ?_
      simp -implicitDefEqProofs only [go_sem, nxV, rowL]
    · refine vgo_call rfl rfl rfl (nxV_val _) (c_ropened s hs σ) ?_
      simp -implicitDefEqProofs only [go_sem, nxV, rowL]
    · refine vgo_call rfl rfl rfl (nxV_val _) (c_rclosed s hs σ) ?_
      simp -implicitDefEqProofs only [go_sem, nxV, rowL]
    · refine vgo_call rfl rfl rfl (nxV_val _) (c_rtimeout4 s hs σ) ?_
      simp -implicitDefEqProofs only [go_sem, nxV, rowL]
    · refine vgo_call rfl rfl rfl (nxV_val _) (c_rtimeout5 s hs σ) ?_
      simp -implicitDefEqProofs only [go_sem, nxV, rowL]
  have h5 := of_decide_eq_true d5
  cases d6 : decide (s < 2)
  case true =>
    simp -implicitDefEqProofs only [go_sem, d1, d2, d3, d4, d5, d6]
    refine vgo_call rfl rfl rfl rfl (c_rnever _ _) ?_
    simp -implicitDefEqProofs only [go_sem]
    exact hout (next_low (by omega) (of_decide_eq_true d6) h5)
  have h6 := of_decide_eq_false d6
  have hs : 2 ≤ s ∧ s ≤ 9 := by omega
  have he : e = 6 ∨ e = 7 ∨ e = 8 ∨ e = 9 ∨ e = 10 ∨ e = 11 ∨ e = 12 ∨ e = 13 ∨ e = 14 ∨ e = 15 := by omega
  have n12 : nextP s 12 = ([12], s, true) := by
    have := next12 ⟨s.toNat, by omega⟩ (by show 2 ≤ s.toNat; omega)
    have e1 : ((s.toNat : Nat) : Int) = s := by omega
    simp only [e1] at this
    exact this
  have n15 : nextP s 15 = (if s = 9 then [13] else [], s, true) := by
    have := next15 ⟨s.toNat, by omega⟩ (by show 2 ≤ s.toNat; omega)
    have e1 : ((s.toNat : Nat) : Int) = s := by omega
    simp only [e1] at this
    rw [this]
    by_cases h9 : s = 9
    · rw [if_pos h9, if_pos (by omega)]
    · rw [if_neg h9, if_neg (by omega)]
  rcases he with rfl | rfl | rfl | rfl | rfl | rfl | rfl | rfl | rfl | rfl
  all_goals simp -implicitDefEqProofs only [go_sem, d1, d2, d3, d4, d5, d6]
  · refine vgo_call rfl rfl rfl (nxV_val _) (c_rrequest6 s hs σ) ?_
    simp -implicitDefEqProofs only [go_sem, nxV, rowL]
  · refine vgo_call rfl rfl rfl (nxV_val _) (c_rrequest7 s hs σ) ?_
    simp -implicitDefEqProofs only [go_sem, nxV, rowL]
  · refine vgo_call rfl rfl rfl (nxV_val _) (c_ranswer8 s hs σ) ?_
    simp -implicitDefEqProofs only [go_sem, nxV, rowL]
  · refine vgo_call rfl rfl rfl (nxV_val _) (c_ranswer9 s hs σ) ?_
    simp -implicitDefEqProofs only [go_sem, nxV, rowL]
  · refine vgo_call rfl rfl rfl (nxV_val _) (c_rend s hs σ) ?_
    simp -implicitDefEqProofs only [go_sem, nxV, rowL]
  · refine vgo_call rfl rfl rfl (nxV_val _) (c_rended s hs σ) ?_
    simp -implicitDefEqProofs only [go_sem, nxV, rowL]
  · refine vgo_call rfl rfl rfl rfl (c_rto _ _ _ _ _) ?_
    simp -implicitDefEqProofs only [go_sem]
    rw [n12]
    rfl
  · refine vgo_call rfl rfl rfl (nxV_val _) (c_rreject13 s hs σ) ?_
    simp -implicitDefEqProofs only [go_sem, nxV, rowL]
  · refine vgo_call rfl rfl rfl (nxV_val _) (c_rreject14 s hs σ) ?_
    simp -implicitDefEqProofs only [go_sem, nxV, rowL]
  · rw [n15]
    cases q : s == 9
    · have h9 : ¬ s = 9 := by simpa using q
      simp -implicitDefEqProofs only [go_sem, q]
      refine vgo_call rfl rfl rfl rfl (c_rstay _ _) ?_
      simp -implicitDefEqProofs only [go_sem]
      rw [if_neg h9]
      rfl
    · have h9 : s = 9 := by simpa using q
      subst h9
      simp -implicitDefEqProofs only [go_sem, q]
      refine vgo_call rfl rfl rfl rfl (c_rto _ _ _ _ _) ?_
      simp -implicitDefEqProofs only [go_sem]
      rfl

end Go.VL

/- Contracts of this program's functions: the document's automaton, packets as bytes. Conditions: none. -/
namespace Go.VL
open Go.Proofs

theorem nxV_row (x : List Int × Int × Bool) : nxV x = .tup [rowL x.1, .int .i64 x.2.1, .bool x.2.2] := rfl
theorem rowL_ne (l : List Int) : NE (rowL l) (.sl l.isEmpty false 1 (zv64 l)) := by
  unfold rowL
  cases l with
  | nil => exact .nil _ _ _ _
  | cons x l => exact .clip _ _ _
theorem c_rhasL (l : List Int) (n : Int) (hl : l.length ≤ 1000) (σ : St) : VCalls Tryz.prog 150 [rowL l, .int .i64 n] σ fun r σ' => r = .bool (decide (n ∈ l)) ∧ σ' = σ :=
  (c_rhas _ _ l n hl σ).ne ⟨rowL_ne l, .refl _, trivial⟩

set_option maxHeartbeats 4000000 in
set_option maxRecDepth 20000 in
theorem c_rdo12 (a : AuV) (h : 0 ≤ a.cnt ∧ a.cnt ≤ 5) (e : Int) (σ : St) : VCalls Tryz.prog 149 [auv a, .int .i64 e] σ fun r σ' => r = .tup [auv (doA a e).1, rowL (doA a e).2.1, .int .i64 (doA a e).2.2] ∧ σ' = σ := by
  refine vcalls_intro (C := cfg Tryz.prog [] [2] []) (cfg_ok mixed) Tryz.func149 rfl rfl rfl rfl rfl ?_
  have hnx := c_rnext a.st e σ
  rw [nxV_row] at hnx
  unfold rowL at hnx
  have hln := next_len a.st e
  simp -implicitDefEqProofs only [go_sem, auv, auC]
  refine vgo_call rfl rfl rfl rfl hnx ?_
  unfold doA
  generalize nextP a.st e = n at hln
  obtain ⟨l, nx, ok⟩ := n
  simp only at hln
  cases ok
  · simp -implicitDefEqProofs only [go_sem, cond_false, auC]
    rfl
  have hhs := c_rhasL l 10 (by omega) σ
  unfold rowL at hhs
  simp -implicitDefEqProofs only [go_sem, cond_true, rowL]
  refine vgo_call rfl rfl rfl rfl hhs ?_
  simp -implicitDefEqProofs only [go_sem]
  refine w_loopL (fun i => i ≤ l.length) (fun i => [(11, .int .i64 i), (10, .bool (decide ((10 : Int) ∈ l))), (8, .int .i64 nx), (7, .sl l.isEmpty (!l.isEmpty) (bif l.isEmpty then 0 else 1) (zv64 l)), (6, .int .i64 0), (5, .sl true false 0 []), (4, .cell [.int .i64 0, .int .i64 0, .int .i64 0, .int .u8 0]), (2, .cell (auC (actsA l a i)))]) (fun _ => σ) (fun i => l.length - i) 0 (Nat.zero_le _) ?_ rfl ?_
  · simp -implicitDefEqProofs only [go_sem]
    exact ⟨rfl, rfl⟩
  intro i hi L hnext hleave
  have hb := actsA_bound (l := l) h i hi
  rcases Nat.lt_or_ge i l.length with hlt | hlt
  · have hw : IntKind.i64.wrap ((i : Int) + 1) = ((i + 1 : Nat) : Int) := wrap_ok (by omega) (by omega)
    have hsc := actsA_succ a hlt
    have hem : l.isEmpty = false := by cases l with
      | nil => simp at hlt
      | cons x l => rfl
    have hem' : (bif l.isEmpty then 0 else 1 : Nat) = 1 := by rw [hem]; rfl
    have next := fun fr hk => hnext (i + 1) fr σ hlt (by omega) hk rfl
    have hu := u8_succ (actsA l a i).id
    have hws : IntKind.i64.wrap ((actsA l a i).cnt - 1) = (actsA l a i).cnt - 1 := by rw [IntKind.wrap_i64]; omega
    have hm : (if 0 < (actsA l a i).cnt - 1 then (actsA l a i).cnt - 1 else 0) = max ((actsA l a i).cnt - 1) 0 := by omega
    have hm' : (if (actsA l a i).cnt - 1 < 0 then 0 else (actsA l a i).cnt - 1) = max ((actsA l a i).cnt - 1) 0 := by omega
    have hm2 : (if 0 < (actsA l a i).cnt - 1 then ((actsA l a i).cnt - 1) else 0) = max ((actsA l a i).cnt - 1) 0 := by omega
    simp -implicitDefEqProofs only [go_sem, hlt, zv_length, zv_getD hlt, hem', auC]
    by_cases e5 : l[i] = 5
    · have hac : actA l (actsA l a i) l[i] = { actsA l a i with cnt := if (10 : Int) ∈ l then 2 else 5 } := by unfold actA; rw [if_pos e5]
      rw [hac] at hsc
      simp -implicitDefEqProofs only [go_sem, e5]
      by_cases h10 : (10 : Int) ∈ l
      · rw [if_pos h10] at hsc
        have hd : decide ((10 : Int) ∈ l) = true := by simp [h10]
        simp -implicitDefEqProofs only [go_sem, hd]
        refine next _ ?_
        simp -implicitDefEqProofs only [go_sem, hw, hsc, hem, hd, auC]
      · rw [if_neg h10] at hsc
        have hd : decide ((10 : Int) ∈ l) = false := by simp [h10]
        simp -implicitDefEqProofs only [go_sem, hd]
        refine next _ ?_
        simp -implicitDefEqProofs only [go_sem, hw, hsc, hem, hd, auC]
    by_cases e6 : l[i] = 6
    · have hac : actA l (actsA l a i) l[i] = { actsA l a i with cnt := 0, left := 3 } := by unfold actA; rw [if_neg e5, if_pos e6]
      rw [hac] at hsc
      simp -implicitDefEqProofs only [go_sem, e6]
      refine next _ ?_
      simp -implicitDefEqProofs only [go_sem, hw, hsc, hem, auC]
    by_cases e7 : l[i] = 7
    · have hac : actA l (actsA l a i) l[i] = { actsA l a i with cnt := max ((actsA l a i).cnt - 1) 0, left := 3, id := (actsA l a i).id + 1 } := by unfold actA; rw [if_neg e5, if_neg e6, if_pos (.inl e7)]
      rw [hac] at hsc
      simp -implicitDefEqProofs only [go_sem, e7, hws, hu, hm, hm']
      refine next _ ?_
      simp -implicitDefEqProofs only [go_sem, hw, hsc, hem, auC]
    by_cases e10 : l[i] = 10
    · have hac : actA l (actsA l a i) l[i] = { actsA l a i with cnt := max ((actsA l a i).cnt - 1) 0, left := 3, id := (actsA l a i).id + 1 } := by unfold actA; rw [if_neg e5, if_neg e6, if_pos (.inr e10)]
      rw [hac] at hsc
      simp -implicitDefEqProofs only [go_sem, e10, hws, hu, hm, hm']
      refine next _ ?_
      simp -implicitDefEqProofs only [go_sem, hw, hsc, hem, auC]
    have hac : actA l (actsA l a i) l[i] = actsA l a i := by unfold actA; rw [if_neg e5, if_neg e6, if_neg (by omega)]
    have b5 : (l[i] == 5) = false := by simp [e5]
    have b6 : (l[i] == 6) = false := by simp [e6]
    have b7 : (l[i] == 7) = false := by simp [e7]
    have b10 : (l[i] == 10) = false := by simp [e10]
    rw [hac] at hsc
    simp -implicitDefEqProofs only [go_sem, b5, b6, b7, b10]
    refine next _ ?_
    simp -implicitDefEqProofs only [go_sem, hw, hsc, hem, auC]
  · have hh : ¬ (i < l.length) := by omega
    have hT : actsA l a i = l.foldl (actA l) a := by unfold actsA; rw [List.take_of_length_le hlt]
    simp -implicitDefEqProofs only [go_sem, hh, zv_length]
    refine hleave _ _ _ (fun h => by cases h) ?_
    rw [hT]
    simp -implicitDefEqProofs only [go_sem, auC]
    refine vgo_call rfl rfl rfl rfl (c_rtimed nx _) ?_
    cases ht : timedB nx
    · simp -implicitDefEqProofs only [go_sem, auC, cond_false]
    · simp -implicitDefEqProofs only [go_sem, auC, cond_true]

/-! Packets. -/
def eqPk (p q : PkV) : Bool := decide (p.d = q.d) && (p.code == q.code) && (p.id == q.id)
theorem c_rpsame1 (p q : PkV) (hp : p.sz = 1) (hq : q.sz = 1) (hl : p.d.length ≤ lim) (σ : St) : VCalls Tryz.prog 148 [pkv p, pkv q] σ fun r σ' => r = .bool (eqPk p q) ∧ σ' = σ := by
  refine vcalls_intro (C := cfg Tryz.prog [] [] []) (cfg_ok mixed) Tryz.func148 rfl rfl rfl rfl rfl ?_
  have e1 : ((p.code.toNat : Int) == (q.code.toNat : Int)) = (p.code == q.code) := toNat_beq _ _
  have e2 : ((p.id.toNat : Int) == (q.id.toNat : Int)) = (p.id == q.id) := toNat_beq _ _
  simp -implicitDefEqProofs only [go_sem, pkv, pkC, hp, hq]
  refine vgo_call rfl rfl rfl rfl (c_row p.nl p.c q.nl q.c p.d q.d hl σ) ?_
  unfold eqPk
  cases decide (p.d = q.d)
  · simp -implicitDefEqProofs only [go_sem, Bool.false_and]
  · simp -implicitDefEqProofs only [go_sem, e1, Bool.true_and]
    cases p.code == q.code
    · simp -implicitDefEqProofs only [go_sem, Bool.false_and]
    · simp -implicitDefEqProofs only [go_sem, e2, Bool.true_and]
theorem c_rpsame (p q : PkV) (hp : PkOK p) (hq : PkOK q) (hl : p.d.length ≤ lim) (σ : St) : VCalls Tryz.prog 148 [pkv p, pkv q] σ fun r σ' => r = .bool (eqPk p q) ∧ σ' = σ :=
  (c_rpsame1 { p with sz := 1 } { q with sz := 1 } rfl rfl hl σ).ne ⟨pk_ne hp, pk_ne hq, trivial⟩
theorem eqPk_self (p : PkV) : eqPk p p = true := by simp [eqPk]

theorem quo8 (n : Nat) (h : n ≤ 1500) : IntKind.u8.wrap (IntKind.i64.wrap ((n : Int).tdiv 256)) = ((UInt8.ofNat (n / 256)).toNat : Int) := by
  have h1 : (n : Int).tdiv 256 = ((n / 256 : Nat) : Int) := rfl
  rw [h1, wrap_ok (by omega) (by omega)]
  exact low8 _
theorem rem8 (n : Nat) : IntKind.u8.wrap ((n : Int).tmod 256) = ((UInt8.ofNat n).toNat : Int) := by
  have h1 : (n : Int).tmod 256 = ((n % 256 : Nat) : Int) := rfl
  rw [h1, low8]
  congr 1
  have : UInt8.ofNat (n % 256) = UInt8.ofNat n := by
    apply UInt8.toNat.inj
    simp
  rw [this]
set_option maxRecDepth 20000 in
theorem c_rpbytes (p : PkV) (hp : p.sz = 1) (h : p.d.length ≤ 1496) (σ : St) : VCalls Tryz.prog 152 [pkv p] σ fun r σ' => r = .tup [.sl false false 1 (bv (pkB p)), .int .i64 0] ∧ σ' = σ := by
  refine vcalls_intro (C := cfg Tryz.prog [] [] [26]) (cfg_ok mixed) Tryz.func152 rfl rfl rfl rfl rfl ?_
  have hw : IntKind.i64.wrap (4 + (p.d.length : Int)) = ((p.d.length + 4 : Nat) : Int) := by rw [IntKind.wrap_i64]; omega
  have hd : decide ((1500 : Int) < ((p.d.length + 4 : Nat) : Int)) = false := by rw [decide_eq_false_iff_not]; omega
  have h1 := quo8 (p.d.length + 4) (by omega)
  have h2 := rem8 (p.d.length + 4)
  simp -implicitDefEqProofs only [go_sem, pkv, pkC, hp, bv_length, hw, hd, h1, h2]
  exact ⟨by unfold lim; omega, rfl⟩
end Go.VL

/- What the document's protocols do, in plain Lean: options read with room behind, actions that begin anew. Conditions: none. -/
namespace Go.VL
open Go.Proofs

theorem low_reset : ∀ e : Fin 16, (decide ((5 : Int) ∈ (nextP 0 e.val).1) && decide ((7 : Int) ∈ (nextP 0 e.val).1)) = false := by decide +kernel
theorem do_acts (a : AuV) (e : Int) : (doA a e).2.1 = bif (nextP a.st e).2.2 then (nextP a.st e).1 else [] := by
  unfold doA
  cases (nextP a.st e).2.2 <;> rfl
/-- Nothing begins anew but from Starting, Closed, and Stopped. -/
theorem reset_low {a : AuV} {e : Int} (h : resetB a.st (doA a e).2.1 = true) : 1 ≤ a.st := by
  rw [do_acts] at h
  cases hd : (nextP a.st e).2.2
  · rw [hd] at h
    simp [resetB] at h
  · rw [hd] at h
    obtain ⟨hs, he⟩ := next_range hd
    rcases (by omega : 0 < a.st ∨ a.st ≤ 0) with h1 | h1
    · exact h1
    · have h0 : a.st = 0 := by omega
      have := low_reset ⟨e.toNat, by omega⟩
      have e1 : ((e.toNat : Nat) : Int) = e := by omega
      simp only [e1] at this
      unfold resetB at h
      rw [h0] at h
      simp only [cond_true] at h
      rw [this] at h
      simp at h
/-- The same, but for what a row tells beside its values. -/
structure Eqv (n m : NgV) : Prop where
  a : n.a = m.a
  r : n.r = m.r
  k : n.naks = m.naks
  o : same n.ours m.ours = true
  p : same n.peer m.peer = true
theorem Eqv.refl (n : NgV) : Eqv n n := ⟨rfl, rfl, rfl, same_self _, same_self _⟩
end Go.VL

/- Contracts of this program's functions: what the document's protocols have acted; their events. Conditions: none. -/
namespace Go.VL
open Go.Proofs

def outT (n : NgV) (term reply : PkV) (x : Int) : List PkV :=
  if x = 7 then [reqP n] else if x = 10 then [⟨5, n.a.id, true, false, 0, []⟩] else if x = 11 then [term] else if x = 8 ∨ x = 9 ∨ x = 12 ∨ x = 13 then [reply] else []
def outsT (n : NgV) (term reply : PkV) (l : List Int) : List PkV := l.flatMap (outT n term reply)
theorem outsT_take (n : NgV) (term reply : PkV) {l : List Int} {i : Nat} (h : i < l.length) : outsT n term reply (l.take (i + 1)) = outsT n term reply (l.take i) ++ outT n term reply l[i] := by
  unfold outsT
  rw [List.take_succ_eq_append_getElem h, List.flatMap_append]
  simp
theorem outT_len (n : NgV) (term reply : PkV) (x : Int) : (outT n term reply x).length ≤ 1 := by
  unfold outT
  split
  · simp
  split
  · simp
  split
  · simp
  split <;> simp
theorem outsT_len (n : NgV) (term reply : PkV) (l : List Int) : ∀ i, i ≤ l.length → (outsT n term reply (l.take i)).length ≤ i
  | 0, _ => by simp [outsT]
  | i + 1, h => by
    rw [outsT_take n term reply h, List.length_append]
    have := outsT_len n term reply l i (by omega)
    have := outT_len n term reply l[i]
    omega
def roC (n : NgV) (s t l : V) : List V := [.int .i64 n.a.st, .int .i64 n.a.cnt, .int .i64 n.a.left, .int .u8 n.a.id.toNat, .bool n.r.ip, .int .u32 n.r.magic.toNat, .int .u32 n.r.other.toNat, .int .u32 n.r.addr.toNat, .int .u32 n.r.ours.toNat, .sl n.on n.oc 2 (osv n.ours), .int .i64 n.naks, .sl n.pn n.pc n.ps (osv n.peer), s, t, l]
def zeroRO : List V := [.int .i64 0, .int .i64 0, .int .i64 0, .int .u8 0, .bool false, .int .u32 0, .int .u32 0, .int .u32 0, .int .u32 0, .sl true false 0 [], .int .i64 0, .sl true false 0 [], .sl true false 0 [], .sl true false 0 [], .sl true false 0 []]
/-- What comes out, as the document says: the protocol, what is sent, what is told, what was done. -/
def roV (n : NgV) (s t l : V) : V := .agg (roC n s t l)
set_option maxHeartbeats 8000000 in
set_option maxRecDepth 20000 in
theorem c_racted (n : NgV) (term reply : PkV) (was : Int) (l : List Int) (hl : l.length ≤ 20) (hE : encOK (actN n was l).ours = true) (hw : resetB was l = true → 1 ≤ was) (σ : St) :
    VCalls Tryz.prog 85 [ngv n, .int .i64 was, rowL l, pkv reply, pkv term] σ fun r σ' => r = roV (actN n was l) (outV (outsT (actN n was l) term reply l)) (telV (toldOf l)) (rowL l) ∧ σ' = σ := by
  refine vcalls_intro (C := cfg Tryz.prog [] [5] []) (cfg_ok mixed) Tryz.func85 rfl rfl rfl rfl rfl ?_
  have h5 := c_rhasL l 5 (by omega) σ
  have h7 := c_rhasL l 7 (by omega) σ
  have hrow : rowL l = .sl l.isEmpty (!l.isEmpty) (bif l.isEmpty then 0 else 1) (zv64 l) := rfl
  rw [hrow] at h5 h7
  have hrk := c_rask n.r σ
  unfold rv rvC at hrk
  have hq0 : actN n was l = actN n was l := rfl
  generalize hq : actN n was l = n1 at hE ⊢
  clear hq0
  rw [hrow]
  simp (maxSteps := 1000000) -implicitDefEqProofs only [go_sem, ngv, ngC, pkv, pkC]
  refine vgo_call rfl rfl rfl rfl h5 ?_
  simp (maxSteps := 1000000) -implicitDefEqProofs only [go_sem]
  refine vgo_call rfl rfl rfl rfl h7 ?_
  have adopt : ∀ {fr : Fr} {Q : Exit → Fr → St → Prop} {c : Code}, lk fr 13 = .cell (roC n1 (.sl true false 0 []) (.sl true false 0 []) (.sl l.isEmpty (!l.isEmpty) (bif l.isEmpty then 0 else 1) (zv64 l))) →
      vwp (cfg Tryz.prog [] [5] []) σ (.loop c) ((13, .cell (roC n1 (.rsl σ.length 0 0 0) (.rsl (σ.length + 1) 0 0 0) (.sl l.isEmpty (!l.isEmpty) (bif l.isEmpty then 0 else 1) (zv64 l)))) :: (13, .cell (roC n1 (.rsl σ.length 0 0 0) (.sl true false 0 []) (.sl l.isEmpty (!l.isEmpty) (bif l.isEmpty then 0 else 1) (zv64 l)))) :: fr) (σ ++ [rowO' [], rowT' []]) Q → vwp (cfg Tryz.prog [] [5] []) σ (.loop c) fr σ Q := by
    intro fr Q c hlk hgo
    refine loop_adoptF 13 12 3 σ.length hlk rfl rfl ?_
    refine loop_adoptF 13 13 1 (σ.length + 1) (cs := roC n1 (.rsl σ.length 0 0 0) (.sl true false 0 []) (.sl l.isEmpty (!l.isEmpty) (bif l.isEmpty then 0 else 1) (zv64 l))) rfl rfl (len_app1 _ _) ?_
    rw [List.append_assoc]
    exact hgo
  have cs : (resetB was l = false ∧ n1 = n) ∨ (resetB was l = true ∧ n1 = resetN n) := by
    unfold actN at hq
    cases h : resetB was l
    · rw [h] at hq; exact .inl ⟨rfl, hq.symm⟩
    · rw [h] at hq; exact .inr ⟨rfl, hq.symm⟩
  have cs2 : (decide ((5 : Int) ∈ l) && (decide ((7 : Int) ∈ l) && (decide (1 ≤ was) && decide (was ≤ 3)))) = resetB was l := by
    unfold resetB at hw ⊢
    cases a : decide ((5 : Int) ∈ l) <;> cases b : decide ((7 : Int) ∈ l) <;> cases c : decide (was ≤ 3) <;> simp only [Bool.and_false, Bool.false_and, Bool.and_true, Bool.true_and]
    rw [a, b, c] at hw
    have := hw rfl
    simpa using this
  have fin : ∀ {fr : Fr} {Q : Exit → Fr → St → Prop}, True := trivial
  have cs3 : (decide ((5 : Int) ∈ l) = true ∧ decide ((7 : Int) ∈ l) = true ∧ decide (1 ≤ was) = true ∧ decide (was ≤ 3) = true ∧ n1 = resetN n) ∨
      (n1 = n ∧ (decide ((5 : Int) ∈ l) = false ∨ (decide ((5 : Int) ∈ l) = true ∧ decide ((7 : Int) ∈ l) = false) ∨ (decide ((5 : Int) ∈ l) = true ∧ decide ((7 : Int) ∈ l) = true ∧ decide (1 ≤ was) = false) ∨ (decide ((5 : Int) ∈ l) = true ∧ decide ((7 : Int) ∈ l) = true ∧ decide (1 ≤ was) = true ∧ decide (was ≤ 3) = false))) := by
    rcases cs with ⟨h, e⟩ | ⟨h, e⟩
    · right
      refine ⟨e, ?_⟩
      rw [← cs2] at h
      cases a : decide ((5 : Int) ∈ l)
      · exact .inl rfl
      cases b : decide ((7 : Int) ∈ l)
      · exact .inr (.inl ⟨rfl, rfl⟩)
      cases c : decide (1 ≤ was)
      · exact .inr (.inr (.inl ⟨rfl, rfl, rfl⟩))
      cases d : decide (was ≤ 3)
      · exact .inr (.inr (.inr ⟨rfl, rfl, rfl, rfl⟩))
      · rw [a, b, c, d] at h; cases h
    · left
      rw [← cs2] at h
      simp only [Bool.and_eq_true] at h
      exact ⟨h.1, h.2.1, h.2.2.1, h.2.2.2, e⟩
  clear cs cs2 hq
  rcases cs3 with ⟨c1, c2, c3, c4, hn⟩ | ⟨hn, c1 | ⟨c1, c2⟩ | ⟨c1, c2, c3⟩ | ⟨c1, c2, c3, c4⟩⟩
  all_goals first
    | (simp (maxSteps := 1000000) -implicitDefEqProofs only [go_sem, c1, c2, c3, c4]
       try (refine vgo_call rfl rfl rfl rfl hrk ?_
            simp (maxSteps := 1000000) -implicitDefEqProofs only [go_sem])
       refine adopt (by rw [hn]; rfl) ?_)
    | (simp (maxSteps := 1000000) -implicitDefEqProofs only [go_sem, c1, c2, c3]
       refine adopt (by rw [hn]; rfl) ?_)
    | (simp (maxSteps := 1000000) -implicitDefEqProofs only [go_sem, c1, c2]
       refine adopt (by rw [hn]; rfl) ?_)
    | (simp (maxSteps := 1000000) -implicitDefEqProofs only [go_sem, c1]
       refine adopt (by rw [hn]; rfl) ?_)
  all_goals
    have hn5 : lk [(5, V.cell (ngC n1))] 5 = .cell (ngC n1) := rfl
    refine w_loopL (fun i => i ≤ l.length) (fun i => [(14, .int .i64 i), (13, .cell (roC n1 (.rsl σ.length (outsT n1 term reply (l.take i)).length 0 (outsT n1 term reply (l.take i)).length) (.rsl (σ.length + 1) (toldOf (l.take i)).length 0 (toldOf (l.take i)).length) (.sl l.isEmpty (!l.isEmpty) (bif l.isEmpty then 0 else 1) (zv64 l)))), (10, .cell zeroRO), (9, .ip (pkC term)), (8, .ip (pkC reply)), (5, .cell (ngC n1)), (2, .sl l.isEmpty (!l.isEmpty) (bif l.isEmpty then 0 else 1) (zv64 l))]) (fun i => σ ++ [rowO' (outsT n1 term reply (l.take i)), rowT' (toldOf (l.take i))]) (fun i => l.length - i) 0 (Nat.zero_le _) ?_ rfl ?_
    · simp (maxSteps := 1000000) -implicitDefEqProofs only [go_sem, hn]
      repeat' apply And.intro
      all_goals rfl
    intro i hi L hnext hleave
    have hol := outsT_len n1 term reply l i hi
    have htl := toldOf_len l i
    rcases Nat.lt_or_ge i l.length with h | h
    · have hw : IntKind.i64.wrap ((i : Int) + 1) = ((i + 1 : Nat) : Int) := wrap_ok (by omega) (by omega)
      have hot := outsT_take n1 term reply h
      have htt := toldOf_take h
      have hem : l.isEmpty = false := by cases l with
        | nil => simp at h
        | cons x l => rfl
      have hem' : (bif l.isEmpty then 0 else 1 : Nat) = 1 := by rw [hem]; rfl
      generalize outsT n1 term reply (l.take i) = os at hol hot
      generalize toldOf (l.take i) = ts at htl htt
      have hpl : (pkvs os).length = os.length := pkvs_length os
      have hzl : (zv64 ts).length = ts.length := zv_length ts
      have hby := fun σ => c_rbytes n1.on n1.oc n1.ours (enc_few hE).1 (enc_few hE).2 σ
      have henc : decide ((encL n1.ours).length ≤ 1496) = true := by unfold encOK at hE; simp only [Bool.and_eq_true] at hE; exact hE.2
      rw [henc] at hby
      simp only [cond_true] at hby
      simp (maxSteps := 1000000) -implicitDefEqProofs only [go_sem, h, zv_length, zv_getD h, roC, rowO_un, rowT_un, ngC, pkC, hem']
      by_cases e7 : l[i] = 7
      · have ho : outT n1 term reply l[i] = [reqP n1] := by unfold outT; rw [if_pos e7]
        have htn : (l[i] == 1 || l[i] == 2 || l[i] == 3 || l[i] == 4) = false := by rw [e7]; rfl
        rw [ho] at hot
        rw [htn, cond_false, List.append_nil] at htt
        simp (maxSteps := 1000000) -implicitDefEqProofs only [go_sem, e7]
        refine vgo_call rfl rfl rfl rfl (hby _) ?_
        simp (maxSteps := 1000000) -implicitDefEqProofs only [go_sem, hpl, hzl, Nat.zero_add, Nat.sub_zero]
        refine ⟨by unfold lim; omega, hnext (i + 1) _ _ (by show i + 1 ≤ l.length; omega) (by show l.length - (i + 1) < l.length - i; omega) ?_ ?_⟩
        · rw [hot, htt]
          simp (maxSteps := 1000000) -implicitDefEqProofs only [go_sem, hw, roC, ngC, pkC, List.length_append, List.length_cons, List.length_nil, Nat.zero_add, hem']
        · rw [hot, htt, rowO_snoc]
          first | rfl | (simp only [List.length_append, List.length_cons, List.length_nil, Nat.zero_add]; rfl)
      by_cases e10 : l[i] = 10
      · have ho : outT n1 term reply l[i] = [⟨5, n1.a.id, true, false, 0, []⟩] := by unfold outT; rw [if_neg e7, if_pos e10]
        have htn : (l[i] == 1 || l[i] == 2 || l[i] == 3 || l[i] == 4) = false := by rw [e10]; rfl
        rw [ho] at hot
        rw [htn, cond_false, List.append_nil] at htt
        simp (maxSteps := 1000000) -implicitDefEqProofs only [go_sem, e10, hpl, hzl, Nat.zero_add, Nat.sub_zero]
        refine ⟨by unfold lim; omega, hnext (i + 1) _ _ (by show i + 1 ≤ l.length; omega) (by show l.length - (i + 1) < l.length - i; omega) ?_ ?_⟩
        · rw [hot, htt]
          simp (maxSteps := 1000000) -implicitDefEqProofs only [go_sem, hw, roC, ngC, pkC, List.length_append, List.length_cons, List.length_nil, Nat.zero_add, hem']
        · rw [hot, htt, rowO_snoc]
          first | rfl | (simp only [List.length_append, List.length_cons, List.length_nil, Nat.zero_add]; rfl)
      by_cases e11 : l[i] = 11
      · have ho : outT n1 term reply l[i] = [term] := by unfold outT; rw [if_neg e7, if_neg e10, if_pos e11]
        have htn : (l[i] == 1 || l[i] == 2 || l[i] == 3 || l[i] == 4) = false := by rw [e11]; rfl
        rw [ho] at hot
        rw [htn, cond_false, List.append_nil] at htt
        simp (maxSteps := 1000000) -implicitDefEqProofs only [go_sem, e11, hpl, hzl, Nat.zero_add, Nat.sub_zero]
        refine ⟨by unfold lim; omega, hnext (i + 1) _ _ (by show i + 1 ≤ l.length; omega) (by show l.length - (i + 1) < l.length - i; omega) ?_ ?_⟩
        · rw [hot, htt]
          simp (maxSteps := 1000000) -implicitDefEqProofs only [go_sem, hw, roC, ngC, pkC, List.length_append, List.length_cons, List.length_nil, Nat.zero_add, hem']
        · rw [hot, htt, rowO_snoc]
          first | rfl | (simp only [List.length_append, List.length_cons, List.length_nil, Nat.zero_add]; rfl)
      by_cases e8 : l[i] = 8
      · have ho : outT n1 term reply l[i] = [reply] := by unfold outT; rw [if_neg e7, if_neg e10, if_neg e11, if_pos (.inl e8)]
        have htn : (l[i] == 1 || l[i] == 2 || l[i] == 3 || l[i] == 4) = false := by rw [e8]; rfl
        rw [ho] at hot
        rw [htn, cond_false, List.append_nil] at htt
        simp (maxSteps := 1000000) -implicitDefEqProofs only [go_sem, e8, hpl, hzl, Nat.zero_add, Nat.sub_zero]
        refine ⟨by unfold lim; omega, hnext (i + 1) _ _ (by show i + 1 ≤ l.length; omega) (by show l.length - (i + 1) < l.length - i; omega) ?_ ?_⟩
        · rw [hot, htt]
          simp (maxSteps := 1000000) -implicitDefEqProofs only [go_sem, hw, roC, ngC, pkC, List.length_append, List.length_cons, List.length_nil, Nat.zero_add, hem']
        · rw [hot, htt, rowO_snoc]
          first | rfl | (simp only [List.length_append, List.length_cons, List.length_nil, Nat.zero_add]; rfl)
      by_cases e9 : l[i] = 9
      · have ho : outT n1 term reply l[i] = [reply] := by unfold outT; rw [if_neg e7, if_neg e10, if_neg e11, if_pos (.inr (.inl e9))]
        have htn : (l[i] == 1 || l[i] == 2 || l[i] == 3 || l[i] == 4) = false := by rw [e9]; rfl
        rw [ho] at hot
        rw [htn, cond_false, List.append_nil] at htt
        simp (maxSteps := 1000000) -implicitDefEqProofs only [go_sem, e9, hpl, hzl, Nat.zero_add, Nat.sub_zero]
        refine ⟨by unfold lim; omega, hnext (i + 1) _ _ (by show i + 1 ≤ l.length; omega) (by show l.length - (i + 1) < l.length - i; omega) ?_ ?_⟩
        · rw [hot, htt]
          simp (maxSteps := 1000000) -implicitDefEqProofs only [go_sem, hw, roC, ngC, pkC, List.length_append, List.length_cons, List.length_nil, Nat.zero_add, hem']
        · rw [hot, htt, rowO_snoc]
          first | rfl | (simp only [List.length_append, List.length_cons, List.length_nil, Nat.zero_add]; rfl)
      by_cases e12 : l[i] = 12
      · have ho : outT n1 term reply l[i] = [reply] := by unfold outT; rw [if_neg e7, if_neg e10, if_neg e11, if_pos (.inr (.inr (.inl e12)))]
        have htn : (l[i] == 1 || l[i] == 2 || l[i] == 3 || l[i] == 4) = false := by rw [e12]; rfl
        rw [ho] at hot
        rw [htn, cond_false, List.append_nil] at htt
        simp (maxSteps := 1000000) -implicitDefEqProofs only [go_sem, e12, hpl, hzl, Nat.zero_add, Nat.sub_zero]
        refine ⟨by unfold lim; omega, hnext (i + 1) _ _ (by show i + 1 ≤ l.length; omega) (by show l.length - (i + 1) < l.length - i; omega) ?_ ?_⟩
        · rw [hot, htt]
          simp (maxSteps := 1000000) -implicitDefEqProofs only [go_sem, hw, roC, ngC, pkC, List.length_append, List.length_cons, List.length_nil, Nat.zero_add, hem']
        · rw [hot, htt, rowO_snoc]
          first | rfl | (simp only [List.length_append, List.length_cons, List.length_nil, Nat.zero_add]; rfl)
      by_cases e13 : l[i] = 13
      · have ho : outT n1 term reply l[i] = [reply] := by unfold outT; rw [if_neg e7, if_neg e10, if_neg e11, if_pos (.inr (.inr (.inr e13)))]
        have htn : (l[i] == 1 || l[i] == 2 || l[i] == 3 || l[i] == 4) = false := by rw [e13]; rfl
        rw [ho] at hot
        rw [htn, cond_false, List.append_nil] at htt
        simp (maxSteps := 1000000) -implicitDefEqProofs only [go_sem, e13, hpl, hzl, Nat.zero_add, Nat.sub_zero]
        refine ⟨by unfold lim; omega, hnext (i + 1) _ _ (by show i + 1 ≤ l.length; omega) (by show l.length - (i + 1) < l.length - i; omega) ?_ ?_⟩
        · rw [hot, htt]
          simp (maxSteps := 1000000) -implicitDefEqProofs only [go_sem, hw, roC, ngC, pkC, List.length_append, List.length_cons, List.length_nil, Nat.zero_add, hem']
        · rw [hot, htt, rowO_snoc]
          first | rfl | (simp only [List.length_append, List.length_cons, List.length_nil, Nat.zero_add]; rfl)
      by_cases e1 : l[i] = 1
      · have ho : outT n1 term reply l[i] = [] := by unfold outT; rw [if_neg e7, if_neg e10, if_neg e11, if_neg (by omega)]
        have htn : (l[i] == 1 || l[i] == 2 || l[i] == 3 || l[i] == 4) = true := by rw [e1]; rfl
        rw [ho, List.append_nil] at hot
        rw [htn, cond_true] at htt
        simp (maxSteps := 1000000) -implicitDefEqProofs only [go_sem, e1]
        refine w_walk2 [7, 9] [0, 1, 2, 3, 4, 5, 6, 7, 8, 9] [57, 58, 59, 60, 61, 62, 63, 65] [0, 1, 0, 0, 12, 28, 60, 127, 255, 511] rfl rfl rfl rfl ?_
        simp (maxSteps := 1000000) -implicitDefEqProofs only [go_sem, h, zv_length, zv_getD h, hem', e1, hpl, hzl, Nat.zero_add, Nat.sub_zero]
        refine ⟨by unfold lim; omega, hnext (i + 1) _ _ (by show i + 1 ≤ l.length; omega) (by show l.length - (i + 1) < l.length - i; omega) ?_ ?_⟩
        · rw [hot, htt]
          simp (maxSteps := 1000000) -implicitDefEqProofs only [go_sem, hw, roC, ngC, pkC, List.length_append, List.length_cons, List.length_nil, Nat.zero_add, hem']
        · rw [hot, htt, e1, rowT_snoc]
          first | rfl | (simp only [List.length_append, List.length_cons, List.length_nil, Nat.zero_add]; rfl)
      by_cases e2 : l[i] = 2
      · have ho : outT n1 term reply l[i] = [] := by unfold outT; rw [if_neg e7, if_neg e10, if_neg e11, if_neg (by omega)]
        have htn : (l[i] == 1 || l[i] == 2 || l[i] == 3 || l[i] == 4) = true := by rw [e2]; rfl
        rw [ho, List.append_nil] at hot
        rw [htn, cond_true] at htt
        simp (maxSteps := 1000000) -implicitDefEqProofs only [go_sem, e2]
        refine w_walk2 [7, 9] [0, 1, 2, 3, 4, 5, 6, 7, 8, 9] [57, 58, 59, 60, 61, 62, 63, 65] [0, 1, 0, 0, 12, 28, 60, 127, 255, 511] rfl rfl rfl rfl ?_
        simp (maxSteps := 1000000) -implicitDefEqProofs only [go_sem, h, zv_length, zv_getD h, hem', e2, hpl, hzl, Nat.zero_add, Nat.sub_zero]
        refine ⟨by unfold lim; omega, hnext (i + 1) _ _ (by show i + 1 ≤ l.length; omega) (by show l.length - (i + 1) < l.length - i; omega) ?_ ?_⟩
        · rw [hot, htt]
          simp (maxSteps := 1000000) -implicitDefEqProofs only [go_sem, hw, roC, ngC, pkC, List.length_append, List.length_cons, List.length_nil, Nat.zero_add, hem']
        · rw [hot, htt, e2, rowT_snoc]
          first | rfl | (simp only [List.length_append, List.length_cons, List.length_nil, Nat.zero_add]; rfl)
      by_cases e3 : l[i] = 3
      · have ho : outT n1 term reply l[i] = [] := by unfold outT; rw [if_neg e7, if_neg e10, if_neg e11, if_neg (by omega)]
        have htn : (l[i] == 1 || l[i] == 2 || l[i] == 3 || l[i] == 4) = true := by rw [e3]; rfl
        rw [ho, List.append_nil] at hot
        rw [htn, cond_true] at htt
        simp (maxSteps := 1000000) -implicitDefEqProofs only [go_sem, e3]
        refine w_walk2 [7, 9] [0, 1, 2, 3, 4, 5, 6, 7, 8, 9] [57, 58, 59, 60, 61, 62, 63, 65] [0, 1, 0, 0, 12, 28, 60, 127, 255, 511] rfl rfl rfl rfl ?_
        simp (maxSteps := 1000000) -implicitDefEqProofs only [go_sem, h, zv_length, zv_getD h, hem', e3, hpl, hzl, Nat.zero_add, Nat.sub_zero]
        refine ⟨by unfold lim; omega, hnext (i + 1) _ _ (by show i + 1 ≤ l.length; omega) (by show l.length - (i + 1) < l.length - i; omega) ?_ ?_⟩
        · rw [hot, htt]
          simp (maxSteps := 1000000) -implicitDefEqProofs only [go_sem, hw, roC, ngC, pkC, List.length_append, List.length_cons, List.length_nil, Nat.zero_add, hem']
        · rw [hot, htt, e3, rowT_snoc]
          first | rfl | (simp only [List.length_append, List.length_cons, List.length_nil, Nat.zero_add]; rfl)
      by_cases e4 : l[i] = 4
      · have ho : outT n1 term reply l[i] = [] := by unfold outT; rw [if_neg e7, if_neg e10, if_neg e11, if_neg (by omega)]
        have htn : (l[i] == 1 || l[i] == 2 || l[i] == 3 || l[i] == 4) = true := by rw [e4]; rfl
        rw [ho, List.append_nil] at hot
        rw [htn, cond_true] at htt
        simp (maxSteps := 1000000) -implicitDefEqProofs only [go_sem, e4]
        refine w_walk2 [7, 9] [0, 1, 2, 3, 4, 5, 6, 7, 8, 9] [57, 58, 59, 60, 61, 62, 63, 65] [0, 1, 0, 0, 12, 28, 60, 127, 255, 511] rfl rfl rfl rfl ?_
        simp (maxSteps := 1000000) -implicitDefEqProofs only [go_sem, h, zv_length, zv_getD h, hem', e4, hpl, hzl, Nat.zero_add, Nat.sub_zero]
        refine ⟨by unfold lim; omega, hnext (i + 1) _ _ (by show i + 1 ≤ l.length; omega) (by show l.length - (i + 1) < l.length - i; omega) ?_ ?_⟩
        · rw [hot, htt]
          simp (maxSteps := 1000000) -implicitDefEqProofs only [go_sem, hw, roC, ngC, pkC, List.length_append, List.length_cons, List.length_nil, Nat.zero_add, hem']
        · rw [hot, htt, e4, rowT_snoc]
          first | rfl | (simp only [List.length_append, List.length_cons, List.length_nil, Nat.zero_add]; rfl)
      have ho : outT n1 term reply l[i] = [] := by unfold outT; rw [if_neg e7, if_neg e10, if_neg e11, if_neg (by omega)]
      have htn : (l[i] == 1 || l[i] == 2 || l[i] == 3 || l[i] == 4) = false := by simp [e1, e2, e3, e4]
      rw [ho, List.append_nil] at hot
      rw [htn, cond_false, List.append_nil] at htt
      have b1 : (l[i] == 1) = false := by simp [e1]
      have b2 : (l[i] == 2) = false := by simp [e2]
      have b3 : (l[i] == 3) = false := by simp [e3]
      have b4 : (l[i] == 4) = false := by simp [e4]
      have b7 : (l[i] == 7) = false := by simp [e7]
      have b8 : (l[i] == 8) = false := by simp [e8]
      have b9 : (l[i] == 9) = false := by simp [e9]
      have b10 : (l[i] == 10) = false := by simp [e10]
      have b11 : (l[i] == 11) = false := by simp [e11]
      have b12 : (l[i] == 12) = false := by simp [e12]
      have b13 : (l[i] == 13) = false := by simp [e13]
      simp (maxSteps := 1000000) -implicitDefEqProofs only [go_sem, b1, b2, b3, b4, b7, b8, b9, b10, b11, b12, b13]
      refine hnext (i + 1) _ _ (by show i + 1 ≤ l.length; omega) (by show l.length - (i + 1) < l.length - i; omega) ?_ ?_
      · rw [hot, htt]
        simp (maxSteps := 1000000) -implicitDefEqProofs only [go_sem, hw, roC, ngC, pkC, hem']
      · rw [hot, htt]
        rfl
    · have hh : ¬ (i < l.length) := by omega
      simp (maxSteps := 1000000) -implicitDefEqProofs only [go_sem, hh, zv_length, roC, zeroRO]
      refine hleave _ _ _ (fun h => by cases h) ?_
      rw [List.take_of_length_le h]
      have hpt : (pkvs (outsT n1 term reply l)).take (outsT n1 term reply l).length = pkvs (outsT n1 term reply l) := List.take_of_length_le (Nat.le_of_eq (pkvs_length _))
      have hzt : (zv64 (toldOf l)).take (toldOf l).length = zv64 (toldOf l) := List.take_of_length_le (Nat.le_of_eq (zv_length _))
      have em1 : decide ((outsT n1 term reply l).length = 0) = (outsT n1 term reply l).isEmpty := by cases outsT n1 term reply l <;> simp
      have em2 : decide ((toldOf l).length = 0) = (toldOf l).isEmpty := by cases toldOf l <;> simp
      simp (maxSteps := 1000000) -implicitDefEqProofs only [go_sem, rowO_un, rowT_un, hpt, hzt, em1, em2, List.drop_zero]
      rfl

end Go.VL

/- Contracts of this program's functions: the document's events, Do, Tick, Magic, Turn, Is. Conditions: none. -/
namespace Go.VL
open Go.Proofs

def evLR (n : NgV) (e : Int) : V := bif doneB n e then rowL (doA n.a e).2.1 else nilV
def roR (x : RS × V) : V := roV x.1.1 x.1.2.1 x.1.2.2 x.2
set_option maxHeartbeats 4000000 in
set_option maxRecDepth 20000 in
theorem c_revent (n : NgV) (reply : PkV) (e : Int) (id : UInt8) (h : 0 ≤ n.a.cnt ∧ n.a.cnt ≤ 5) (hE : encOK n.ours = true) (σ : St) : VCalls Tryz.prog 83 [ngv n, .int .i64 e, pkv reply, .int .u8 id.toNat] σ fun r σ' => r = roR (evW n e id reply, evLR n e) ∧ σ' = σ := by
  refine vcalls_intro (C := cfg Tryz.prog [] [4] []) (cfg_ok mixed) Tryz.func83 rfl rfl rfl rfl rfl ?_
  have hE' := ev_enc hE e
  have hdo := c_rdo12 n.a h e σ
  unfold auv auC rowL at hdo
  simp -implicitDefEqProofs only [go_sem, ngv, ngC, pkv, pkC]
  refine vgo_call rfl rfl rfl rfl hdo ?_
  cases hd : doneB n e
  · rw [do_not hd]
    have hr : roR (evW n e id reply, evLR n e) = roV n nilV nilV nilV := by
      unfold roR evW evLR evN evOV evTV
      rw [hd]
      rfl
    rw [hr]
    simp -implicitDefEqProofs only [go_sem, bne]
    rfl
  · obtain ⟨d1, d2⟩ := do_done hd
    have hll : (doA n.a e).2.1.length ≤ 20 := by rw [d2]; have := next_len n.a.st e; omega
    have hN : evN n e = actN (withA n (doA n.a e).1) n.a.st (doA n.a e).2.1 := by unfold evN; rw [hd]; rfl
    rw [hN] at hE'
    have hac := fun σ => c_racted (withA n (doA n.a e).1) ⟨6, id, true, false, 0, []⟩ reply n.a.st (doA n.a e).2.1 hll hE' (fun h => reset_low h) σ
    have hr : roR (evW n e id reply, evLR n e) = roV (actN (withA n (doA n.a e).1) n.a.st (doA n.a e).2.1) (outV (outsT (actN (withA n (doA n.a e).1) n.a.st (doA n.a e).2.1) ⟨6, id, true, false, 0, []⟩ reply (doA n.a e).2.1)) (telV (toldOf (doA n.a e).2.1)) (rowL (doA n.a e).2.1) := by
      unfold roR evW evLR evOV evTV evO evT
      rw [hd, hN]
      rfl
    rw [hr]
    generalize doA n.a e = da at d1 d2 hll hac
    obtain ⟨a', l', er⟩ := da
    simp only at d1 hac
    subst d1
    generalize actN (withA n a') n.a.st l' = m at hac
    unfold rowL ngv ngC pkv pkC withA roV roC outV telV at hac
    simp -implicitDefEqProofs only [go_sem, bne]
    refine vgo_call rfl rfl rfl rfl (hac _) ?_
    simp -implicitDefEqProofs only [go_sem]
    rfl

theorem ev_resD (n : NgV) (e : Int) (pid : UInt8) (reply : PkV) : ∃ a s b t, rsV (evW n e pid reply) = .tup [.agg (ngC (evN n e)), .sl a false s (pkvs (evO n e pid reply)), .sl b false t (zv64 (evT n e))] ∧ IsSl (.sl a false s (pkvs (evO n e pid reply))) 3 (pkvs (evO n e pid reply)) ∧ IsSl (.sl b false t (zv64 (evT n e))) 1 (zv64 (evT n e)) := by
  obtain ⟨h1, h2⟩ := ev_sl n e pid reply
  obtain ⟨a, s, e1, hs⟩ := h1
  obtain ⟨b, t, e2, ht⟩ := h2
  refine ⟨a, s, b, t, ?_, ⟨a, s, rfl, hs⟩, ⟨b, t, rfl, ht⟩⟩
  unfold rsV
  rw [e1, e2]
  rfl
theorem c_rdo14 (n : NgV) (e : Int) (h : 0 ≤ n.a.cnt ∧ n.a.cnt ≤ 5) (hE : encOK n.ours = true) (σ : St) : VCalls Tryz.prog 31 [ngv n, .int .i64 e] σ fun r σ' => r = roR (doW n e, bif decide (0 ≤ e) && decide (e ≤ 3) then evLR n e else nilV) ∧ σ' = σ := by
  refine vcalls_intro (C := cfg Tryz.prog [] [] []) (cfg_ok mixed) Tryz.func31 rfl rfl rfl rfl rfl ?_
  have e1 : decide (e < 0) = !decide (0 ≤ e) := by rw [Bool.eq_iff_iff]; simp
  have e2 : decide ((3 : Int) < e) = !decide (e ≤ 3) := by rw [Bool.eq_iff_iff]; simp
  have hev := fun σ => c_revent n zPk e 0 h hE σ
  obtain ⟨a, s, b, t, hr, hu, hv⟩ := ev_resD n e 0 zPk
  have hro : ∃ x y z w, roR (evW n e 0 zPk, evLR n e) = .agg (roC (evN n e) (.sl a false s (pkvs (evO n e 0 zPk))) (.sl b false t (zv64 (evT n e))) (.sl x y z w)) := by
    have h1 : rsV (evW n e 0 zPk) = .tup [ngv (evN n e), (evW n e 0 zPk).2.1, (evW n e 0 zPk).2.2] := rfl
    rw [h1] at hr
    simp only [V.tup.injEq, List.cons.injEq, and_true] at hr
    unfold roR roV evLR
    cases doneB n e
    · exact ⟨true, false, 0, [], by rw [hr.2.1, hr.2.2]; rfl⟩
    · exact ⟨_, _, _, _, by rw [hr.2.1, hr.2.2]; rfl⟩
  obtain ⟨x, y, z, w, hro⟩ := hro
  have hev2 := hev
  rw [hro] at hev2
  unfold ngv ngC roC at hev2
  unfold doW
  simp -implicitDefEqProofs only [go_sem, ngv, ngC, e1]
  cases q1 : decide (0 ≤ e)
  · simp -implicitDefEqProofs only [go_sem, Bool.false_and, cond_false]
    rfl
  cases q2 : decide (e ≤ 3)
  · simp -implicitDefEqProofs only [go_sem, e2, q2, Bool.true_and, cond_false]
    rfl
  · simp -implicitDefEqProofs only [go_sem, e2, q2, Bool.true_and, cond_true]
    refine vgo_call rfl rfl rfl rfl (hev2 _) ?_
    simp -implicitDefEqProofs only [go_sem]
    exact hro.symm

/-! Turn. -/
end Go.VL

/- Contracts of this program's functions: who is asked. Conditions: none. -/
namespace Go.VL
open Go.Proofs

set_option maxHeartbeats 4000000 in
set_option maxRecDepth 20000 in
theorem c_cbegin (a : AuthV) (v : B16) (σ : St) : VCalls Tryz.prog 91 [auhv a, .agg (b16C v)] σ fun r σ' => r = .tup [auhv (askA (zAu a.id) v), pkv (chalP (a.id + 1) v)] ∧ σ' = σ := by
  refine vcalls_intro (C := cfg Tryz.prog [] [] []) (cfg_ok mixed) Tryz.func91 rfl rfl rfl rfl rfl ?_
  have hak := fun σ => c_cask (zAu a.id) v ⟨by show (0 : Int) ≤ 0; omega, by show (0 : Int) ≤ 100; omega⟩ σ
  have hid : (zAu a.id).id = a.id := rfl
  rw [hid] at hak
  obtain ⟨A', hA⟩ : ∃ A', A' = askA (zAu a.id) v := ⟨_, rfl⟩
  obtain ⟨P', hP⟩ : ∃ P', P' = chalP (a.id + 1) v := ⟨_, rfl⟩
  rw [← hA, ← hP] at hak ⊢
  clear hA hP
  unfold auhv auhC pkv pkC zAu z16 noS at hak
  unfold b16C at hak
  simp (maxSteps := 1000000) -implicitDefEqProofs only [go_sem, auhv, auhC, b16C]
  refine vgo_call rfl rfl rfl rfl (hak _) ?_
  simp (maxSteps := 1000000) -implicitDefEqProofs only [go_sem]
  rfl

/-- Noughts. -/
def zK : List V := [.int .i64 0, .sl true false 0 [], .bool false, .int .i64 0, .int .i64 0, .int .i64 0, .int .u8 0, .bool false, .int .u32 0, .int .u32 0, .int .u32 0, .int .u32 0, .sl true false 0 [], .int .i64 0, .sl true false 0 [], .int .i64 0, .int .i64 0, .int .i64 0, .int .u8 0, .bool false, .int .u32 0, .int .u32 0, .int .u32 0, .int .u32 0, .sl true false 0 [], .int .i64 0, .sl true false 0 [], .int .i64 0, .int .i64 0, .int .i64 0, .int .u8 0, .int .u8 0, .int .u8 0, .int .u8 0, .int .u8 0, .int .u8 0, .int .u8 0, .int .u8 0, .int .u8 0, .int .u8 0, .int .u8 0, .int .u8 0, .int .u8 0, .int .u8 0, .int .u8 0, .int .u8 0, .int .u8 0, .str ⟨#[]⟩, .int .u8 0, .int .u8 0, .int .u8 0, .int .u8 0, .int .u8 0, .int .u8 0, .int .u8 0, .int .u8 0, .int .u8 0, .int .u8 0, .int .u8 0, .int .u8 0, .int .u8 0, .int .u8 0, .int .u8 0, .int .u8 0, .int .u64 0, .int .u64 0, .int .i64 0, .int .i64 0, .int .u32 0]
def zO : List V := [.sl true false 0 [], .sl true false 0 [], .int .u8 0, .int .u8 0, .sl true false 0 [], .int .i64 0, .int .i64 0, .int .i64 0, .int .u32 0, .str ⟨#[]⟩, .int .u64 0, .int .u64 0, .int .i64 0, .int .i64 0, .sl true false 0 []]
/-- Who is there is asked. -/
def askW (k : LinkV) (v : B16) : WkV := bif phaseP k == 2 then chapW1 (beginW k) (askA (zAu k.a.id) v) [chalP (k.a.id + 1) v] else beginW k
set_option maxHeartbeats 8000000 in
set_option maxRecDepth 20000 in
theorem c_lask (k : LinkV) (v : B16) (σ : St) : VCalls Tryz.prog 34 [lkv k, .agg (b16C v)] σ fun r σ' => r = .tup [lkv (doneK (askW k v)), outW (askW k v)] ∧ σ' = σ := by
  refine vcalls_intro (C := cfg Tryz.prog [] [] []) (cfg_ok mixed) Tryz.func34 rfl rfl rfl rfl rfl ?_
  have hp := fun σ => c_lphase k σ
  unfold lkv lkC at hp
  have hc := fun σ => c_cbegin k.a v σ
  obtain ⟨A', hA⟩ : ∃ A', A' = askA (zAu k.a.id) v := ⟨_, rfl⟩
  obtain ⟨P', hP⟩ : ∃ P', P' = chalP (k.a.id + 1) v := ⟨_, rfl⟩
  have hPk : PkOK P' ∧ P'.d.length ≤ 1496 := by rw [hP]; exact ⟨.inl rfl, by show 26 ≤ 1496; omega⟩
  have hsd := c_lsend { beginW k with k := { k with a := A' } } 49699 false true [P'] (Nat.zero_le _) (by simp) (fun p hp => by rw [List.mem_singleton.1 hp]; exact hPk.1) (fun p hp => by rw [List.mem_singleton.1 hp]; exact hPk.2) σ
  have hask : askW k v = bif phaseP k == 2 then chapW1 (beginW k) A' [P'] else beginW k := by unfold askW; rw [← hA, ← hP]
  rw [hask]
  rw [← hA, ← hP] at hc
  clear hA hP hask
  unfold auhv auhC pkv pkC at hc
  unfold b16C at hc
  simp (maxSteps := 1000000) -implicitDefEqProofs only [go_sem, lkv, lkC, b16C]
  refine vgo_call' rfl rfl rfl (c_begun k σ) ?_
  rintro r σ' ⟨rfl, rfl⟩
  refine ⟨rfl, ?_⟩
  simp (maxSteps := 1000000) -implicitDefEqProofs only [go_sem]
  refine vgo_call rfl rfl rfl rfl (hp _) ?_
  simp (maxSteps := 1000000) -implicitDefEqProofs only [go_sem]
  cases q1 : phaseP k == 2
  · generalize beginW k = W
    simp (maxSteps := 1000000) -implicitDefEqProofs only [go_sem]
    refine vgo_call' rfl rfl rfl (c_ldone W σ) ?_
    rintro r σ' ⟨rfl, rfl⟩
    refine ⟨rfl, ?_⟩
    simp (maxSteps := 1000000) -implicitDefEqProofs only [go_sem, lkC, outC, wS, wF, wT]
    rw [frs_take, zv_take]
    rfl
  · simp (maxSteps := 1000000) -implicitDefEqProofs only [go_sem]
    have hb : wS σ (beginW k) = σ ++ .box (wkC k (.rsl (σ.length + 1) 0 0 0) (.rsl (σ.length + 2) 0 0 0) zPk zOp ⟨true, false, 0, []⟩) :: .arr true 0 2 [] :: .arr true 0 1 [] :: [] := rfl
    refine w_walkP (α := Unit) (fun _ => True) (fun _ => [(4, .cell zK), (5, .cell zO), (6, .ptr σ.length 0), (7, .cell (auhC A')), (8, .cell (pkC P'))]) (fun _ => wS σ (beginW k)) [10, 11] [10, 11, 12, 13] [15, 16, 17, 18, 19, 20, 21, 14, 22, 23] [] [([10, 11], [0, 1, 2, 3, 4, 5, 6, 7, 8, 9, 10, 11, 12, 13], [0, 1, 3, 7, 15, 0, 63, 127, 255, 255, 0, 1024, 3583, 8191]), ([11, 10], [0, 1, 2, 3, 4, 5, 6, 7, 8, 9, 11, 10, 12, 13], [0, 1, 3, 7, 15, 0, 63, 127, 255, 255, 2048, 0, 3583, 8191])] rfl rfl rfl rfl rfl rfl ?_ ?_
    · intro x hx
      simp only [List.mem_cons, List.not_mem_nil, or_false] at hx
      rcases hx with hx | hx <;> (
        subst hx
        rw [hb]
        simp (maxSteps := 1000000) -implicitDefEqProofs only [go_sem, wkC]
        refine vdgo_call rfl rfl rfl rfl (hc _) ?_
        simp (maxSteps := 1000000) -implicitDefEqProofs only [go_sem, auhC, pkC, zK, zO])
    · intro _ _
      rw [hb]
      simp (maxSteps := 1000000) -implicitDefEqProofs only [go_sem, auhC, pkC, wkC, zK, zO]
      refine vgo_call' rfl rfl rfl hsd ?_
      rintro r σ' ⟨rfl, rfl⟩
      refine ⟨rfl, ?_⟩
      have hw : chapW1 (beginW k) A' [P'] = sendW { beginW k with k := { k with a := A' } } 49699 [P'] := rfl
      rw [← hw]
      generalize chapW1 (beginW k) A' [P'] = W
      simp (maxSteps := 1000000) -implicitDefEqProofs only [go_sem]
      refine vgo_call' rfl rfl rfl (c_ldone W σ) ?_
      rintro r σ' ⟨rfl, rfl⟩
      refine ⟨rfl, ?_⟩
      simp (maxSteps := 1000000) -implicitDefEqProofs only [go_sem, lkC, outC, wS, wF, wT]
      rw [frs_take, zv_take]
      rfl

end Go.VL

/- Contracts of this program's functions: the document's CHAP. Conditions: none. -/
namespace Go.VL
open Go.Proofs

theorem bv_app2 (a b : List UInt8) : bv (a ++ b) = bv a ++ bv b := by unfold bv; rw [List.map_append]
theorem bv_imm : ∀ l : List UInt8, (bv l).all imm1 = true
  | [] => rfl
  | b :: l => by
    show (imm1 (.int .u8 b.toNat) && (bv l).all imm1) = true
    rw [bv_imm l]
    rfl
theorem bv_cell : ∀ l : List UInt8, (bv l).all cell1 = true
  | [] => rfl
  | b :: l => by
    show (cell1 (.int .u8 b.toNat) && (bv l).all cell1) = true
    rw [bv_cell l]
    rfl
set_option maxHeartbeats 2000000 in
set_option maxRecDepth 20000 in
theorem c_challenge (id : UInt8) (v : B16) (σ : St) : VCalls Tryz.prog 160 [.int .u8 id.toNat, .agg (b16C v)] σ fun r σ' => r = pkv (chalP id v) ∧ σ' = σ := by
  rw [b16_bv]
  refine vcalls_intro (C := cfg Tryz.prog [] [] [21]) (cfg_ok mixed) Tryz.func160 rfl rfl rfl rfl rfl ?_
  obtain ⟨B, hB, hBl⟩ : ∃ B, B = b16B v ∧ B.length = 16 := ⟨_, rfl, rfl⟩
  unfold chalP
  rw [← hB]
  clear hB
  have hbl : (bv B).length = 16 := by rw [bv_length, hBl]
  simp (maxSteps := 1000000) -implicitDefEqProofs only [go_sem, hbl, bv_imm, bv_cell]
  refine w_loopL (fun i => i ≤ 16) (fun i => [(6, .int .i64 (i : Nat)), (5, if i = 0 then .sl false true 1 [.int .u8 16] else .rsl σ.length (i - 1) 0 (i + 1)), (4, .cell [.int .u8 0, .int .u8 0, .sl true false 0 []]), (3, .ip (bv B)), (0, .int .u8 id.toNat)]) (fun i => if i = 0 then σ else σ ++ [.arr false (i - 1) 1 (.int .u8 16 :: bv (B.take i))]) (fun i => 16 - i) 0 (Nat.zero_le _) ?_ rfl ?_
  · simp (maxSteps := 1000000) -implicitDefEqProofs only [go_sem]
    rfl
  intro i hi L hnext hleave
  rcases Nat.lt_or_ge i 16 with h | h
  · have hw1 : IntKind.i64.wrap ((i : Int) + 1) = ((i + 1 : Nat) : Int) := wrap_ok (by omega) (by omega)
    have hd : decide ((i : Int) < 16) = true := by rw [decide_eq_true_iff]; omega
    have hiB : i < B.length := by omega
    have hgd : List.drop (i * 1) (bv B) = .int .u8 B[i].toNat :: bv (B.drop (i + 1)) := by
      rw [Nat.mul_one]
      unfold bv
      rw [← List.map_drop, List.drop_eq_getElem_cons hiB]
      rfl
    have htk : B.take (i + 1) = B.take i ++ [B[i]] := List.take_succ_eq_append_getElem hiB
    have htl : (bv (B.take i)).length = i := by rw [bv_length, List.length_take]; omega
    have next := fun fr' S' => hnext (i + 1) fr' S' h (by omega)
    clear hnext
    simp only [if_neg (Nat.succ_ne_zero i), Nat.add_sub_cancel, htk, bv_app2, if_neg (show ¬ (i + 1 = 0) by omega)] at next
    rcases Nat.eq_zero_or_pos i with h0 | h0
    · simp only [if_pos h0]
      simp (maxSteps := 1000000) -implicitDefEqProofs only [go_sem, hd, hgd, hbl, h]
      refine ⟨by unfold lim; omega, .inr (by simp), ?_⟩
      subst h0
      refine next _ _ ?_ rfl
      simp (maxSteps := 1000000) -implicitDefEqProofs only [go_sem, hw1]
    · simp only [if_neg (show ¬ (i = 0) by omega)]
      simp (maxSteps := 1000000) -implicitDefEqProofs only [go_sem, hd, hgd, hbl, h, htl]
      refine ⟨by unfold lim; omega, ?_⟩
      have e1 : i - 1 + 1 = i := by omega
      rw [e1]
      refine next _ _ ?_ rfl
      simp (maxSteps := 1000000) -implicitDefEqProofs only [go_sem, hw1]
  · have hd : decide ((i : Int) < 16) = false := by rw [decide_eq_false_iff_not]; omega
    obtain rfl : i = 16 := by omega
    have htk : B.take 16 = B := List.take_of_length_le (by omega)
    rw [htk]
    simp (maxSteps := 1000000) -implicitDefEqProofs only [go_sem, hd, hbl]
    refine hleave _ _ _ (fun h => by cases h) ?_
    clear hleave hnext
    simp (maxSteps := 1000000) -implicitDefEqProofs only [go_sem, hbl]
    refine ⟨by unfold lim; omega, ?_⟩
    have e : bv (16 :: (B ++ ownB)) = .int .u8 16 :: (bv B ++ bv ownB) := by
      show V.int .u8 16 :: bv (B ++ ownB) = _
      rw [bv_app2]
    unfold pkv pkC
    rw [e]
    rfl
set_option maxHeartbeats 4000000 in
set_option maxRecDepth 20000 in
theorem c_r15begin (a : AuthV) (v : B16) (σ : St) : VCalls Tryz.prog 95 [auhv a, .agg (b16C v)] σ fun r σ' => r = .tup [auhv (askA (zAu a.id) v), pkv (chalP (a.id + 1) v)] ∧ σ' = σ := by
  refine vcalls_intro (C := cfg Tryz.prog [] [] []) (cfg_ok mixed) Tryz.func95 rfl rfl rfl rfl rfl ?_
  have hi : IntKind.u8.wrap ((a.id.toNat : Int) + 1) = (((a.id + 1 : UInt8).toNat : Nat) : Int) := by
    have := a.id.toNat_lt
    rw [UInt8.toNat_add]
    unfold IntKind.wrap
    simp [IntKind.bits, IntKind.signed]
  have hc := fun σ => c_challenge (a.id + 1) v σ
  obtain ⟨P', hP⟩ : ∃ P', P' = chalP (a.id + 1) v := ⟨_, rfl⟩
  rw [← hP] at hc ⊢
  clear hP
  unfold pkv pkC at hc ⊢
  unfold b16C at hc
  simp (maxSteps := 1000000) -implicitDefEqProofs only [go_sem, auhv, auhC, b16C, hi]
  refine w_walk2 [6, 7] [0, 1, 2, 3, 4, 5, 6, 7] [10, 11, 12, 13, 14, 15] [0, 0, 3, 0, 0, 24, 63, 127] rfl rfl rfl rfl ?_
  simp (maxSteps := 1000000) -implicitDefEqProofs only [go_sem]
  refine vdgo_call rfl rfl rfl rfl (hc _) ?_
  simp (maxSteps := 1000000) -implicitDefEqProofs only [go_sem]
  rfl

end Go.VL
