/- RulesAnswer: at every rule, every row of options and every number of refusals the law answers true, and leaves its arguments as they were. Conditions: none. -/
import Derived.Test.YtbaomchgafpphaaSSc
set_option linter.unusedVariables false
set_option linter.unusedSimpArgs false
/- The law RulesAnswer, over values. Conditions: none. -/
namespace Go.VL
open Go.Proofs

set_option maxHeartbeats 1000000 in
set_option maxRecDepth 20000 in
theorem c_rulesAnswer (r : RV) (nl c : Bool) (l : List OV) (naks : Int) (σ : St) : VCalls Try.prog 7 [rv r, .sl nl c 2 (osv l), .int .i64 naks] σ fun x σ' => x = .bool true ∧ σ' = σ := by
  refine vcalls_intro (C := cfg Try.prog [] [] []) (cfg_ok mixed) Try.func7 rfl rfl rfl rfl rfl ?_
  simp only [go_sem, rv, rvC]
  refine vgo_call rfl rfl rfl rfl (c_shown13 σ) ?_
  simp only [go_sem]
  refine vgo_call rfl rfl rfl rfl (c_few nl c l σ) ?_
  cases hf : few l
  · simp only [go_sem]
  · obtain ⟨hl, hd⟩ := few_small hf
    obtain ⟨hal, had⟩ := ansP_small (r := r) (naks := naks) hl hd
    have hle := Nat.le_of_lt hl
    have hv : (numV (l.find? (knownB true))).isVal = true := by unfold numV; split <;> rfl
    simp only [go_sem]
    refine vgo_call rfl rfl rfl rfl (c_answer r nl c l naks hl hd σ) ?_
    have hw : ∃ nl' c', ansV nl c (ansP r l naks) = .tup [.int .u8 (ansP r l naks).1.toNat, .sl nl' c' 2 (osv (ansP r l naks).2)] := by
      unfold ansV
      cases (ansP r l naks).1 == 2
      · exact ⟨false, false, rfl⟩
      · exact ⟨nl, c, rfl⟩
    obtain ⟨nl', c', hw⟩ := hw
    simp only [hw, go_sem]
    refine vgo_call rfl rfl rfl rfl (c_ranswer r nl c l naks hl hd σ) ?_
    simp only [hw, go_sem]
    refine vgo_call rfl rfl rfl hv (c_address nl c l hle hd σ) ?_
    cases hq : l.find? (knownB true)
    all_goals simp only [numV, go_sem]
    all_goals rw [hq] at hv
    all_goals refine vgo_call rfl rfl rfl hv (hq ▸ c_raddress nl c l hle hd σ) ?_
    all_goals simp only [numV, go_sem]
    all_goals refine w_walk3 [] [0, 1, 2, 3, 4, 5, 6, 7, 8, 9, 10, 11, 12, 13, 14, 15, 16, 17, 18, 19, 20, 21, 22, 23, 24, 25, 26, 27, 28, 29, 30, 31, 32, 33, 34, 35] [45, 46, 47, 48, 49, 50, 51, 52, 53, 54, 55, 56, 57, 58, 59, 60, 61, 62, 63, 64, 65, 66, 67, 68, 69, 70, 71, 72, 73, 74, 75, 76, 77, 78, 79, 6] [0, 1, 3, 3, 15, 31, 63, 127, 127, 511, 1023, 2047, 4095, 8191, 4095, 32767, 65535, 131071, 262143, 524287, 1048575, 524287, 4194303, 8388607, 16777215, 33554431, 67108863, 67108863, 268435455, 536870911, 1073741823, 2147483647, 2147483647, 8589934591, 17179869183, 34359738367] [6] rfl rfl rfl rfl rfl ?_
    all_goals simp only [go_sem]
    all_goals refine vdgo_call rfl rfl rfl rfl (c_same' _ _ _ _ _ _ hal had σ) ?_
    all_goals simp only [same_refl, go_sem]
    all_goals refine vdgo_call rfl rfl rfl rfl (c_ask r σ) ?_
    all_goals simp only [go_sem]
    all_goals refine vdgo_call rfl rfl rfl rfl (c_rask r σ) ?_
    all_goals simp only [go_sem]
    all_goals refine vdgo_call rfl rfl rfl rfl (c_same' _ _ _ _ _ _ (by have := (rAsk_small r).1; unfold lim; omega) (fun o ho => by have := (rAsk_small r).2 o ho; unfold lim; omega) σ) ?_
    all_goals simp only [same_refl, go_sem]
    all_goals refine vdgo_call rfl rfl rfl rfl (c_learn nl c l hle hd σ) ?_
    all_goals simp only [go_sem]
    all_goals refine vdgo_call rfl rfl rfl rfl (c_rlearn nl c l hle hd σ) ?_
    all_goals simp only [learnV, mk, go_sem]

end Go.VL

/- RulesAnswer: at every rule, every row of options and every number of refusals the law answers true, and leaves its arguments as they were. Conditions: none. -/
namespace Go.Proofs.Ytbaomchgafpphaa
open Go.VL Go.ChangeShapes Go.WideShapes Go.RowKit

theorem rulesAnswer_calls (vs : List V) (h : argsV [shRule, shOpts, .int .i64] vs) : VCalls Try.prog 7 vs [] fun r _ => r = .bool true := by
  obtain ⟨c1, r1, rfl, h1, c2, r2, rfl, h2, c3, r3, rfl, ⟨n, rfl, _⟩, rfl⟩ := h
  obtain ⟨r, hr⟩ := rule_of h1
  obtain ⟨nl, l, rfl⟩ := opts_of h2
  show VCalls _ _ [.agg c1, _, _] _ _
  rw [hr]
  exact (c_rulesAnswer r nl false l n []).mono fun _ _ h => h.1

theorem rulesAnswer_lifted (os : Os) (started : os.Started) (H : Type) (enc : TypeId × Value → H) :
    ReturnsInHanded {} Try.checked os 7 .any (Rows.rulesAnswerSpec.pre6 enc Try.prog Try.f7 Rows.rulesAnswerRow.domain false) (Rows.rulesAnswerSpec.post enc Try.prog Try.f7 false true false false) := by
  refine returnsInHanded_of_change_sized (C := Try.checked) own started (by kernel_rfl) Try.func7
    (ChangeSpec.witness6 (enc := enc) (C := Try.checked) false ⟨#[], #[.agg #[.bool false, .int .u32 0, .int .u32 0, .int .u32 0, .int .u32 0], .slice none 0 0, .int .i64 0], []⟩ 8 (by kernel_rfl) (by kernel_rfl) (by kernel_rfl) (by kernel_rfl)) ?_
  intro W base args ds gs before hval0 hW hcnd hsz0 _
  have hW' := hW
  obtain ⟨p, q, hA0, hV, rfl, hfz, hnd⟩ := hW
  obtain ⟨rfl, rfl⟩ := trodVars_none hV
  have hval : ∀ (j : Nat) t v, (Try.f7.params.toList)[j]? = some t → args.toList[j]? = some v → Value.okWide Try.prog W .any base t v := fun j t v h1 h2 => hval0 j t v (by simpa using h1) (by simpa using h2)
  refine (law_calls (ss := [shRule, shOpts, .int .i64]) (by kernel_rfl) rulesAnswer_calls hval hA0).mono fun e W' ⟨he, bel⟩ => ?_
  subst he
  have hb := again_of' laidOut bel (by kernel_rfl) hA0
  obtain ⟨v0, vs0, d0, ds0, p0, q0, e0, rfl, e2, h0, r0⟩ := trodAll_cons (show DataW.TrodAll enc Try.prog W 0 (fun _ => true) true [47, 22, 3] args.toList ds p from hA0)
  obtain ⟨v1, vs1, d1, ds1, p1, q1, e3, rfl, e5, h1, r1⟩ := trodAll_cons r0
  obtain ⟨v2, vs2, d2, ds2, p2, q2, e6, rfl, e8, h2, r2⟩ := trodAll_cons r1
  obtain ⟨_, rfl, _⟩ := trodAll_nil r2
  exact ⟨_, rfl, _, _, _, [], _, [], hW', trodAll_mk1 (shut_bool Try.underlying4 _), hb, rfl, bel.frame _, fun h => by cases h⟩

theorem rulesAnswer_holds : Rows.RulesAnswerSaid :=
  OpenClaim.holds_of_wide 7 Try.f7 rfl rfl rfl rfl rfl rfl rfl ⟨rfl, rfl, rfl, rfl, rfl⟩ rfl rfl rfl rfl rfl (by kernel_rfl) Try.func7 (by kernel_rfl)
    (of_decide_eq_true (by kernel_rfl)) (by unfold Func.isWrapper; first | (rw [if_pos (by decide +kernel)]; kernel_rfl) | (rw [if_neg (by decide +kernel)]; exact ⟨rfl, rfl⟩))
    (fun os started H enc _ => rulesAnswer_lifted os started H enc)
#print axioms rulesAnswer_holds

end Go.Proofs.Ytbaomchgafpphaa
