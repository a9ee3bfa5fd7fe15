/- OptsNumbers: at every two numbers and all bytes ahead the law answers true, and leaves its arguments as they were. Conditions: none. -/
import Derived.Test.YtbaomchgafpphaaSSc
import Derived.Test.YtbaomchgafpphaaSSb
set_option linter.unusedVariables false
set_option linter.unusedSimpArgs false
namespace Go.Proofs.Ytbaomchgafpphaa
open Go.VL Go.ChangeShapes Go.WideShapes Go.RowKit

theorem optsNumbers_calls (vs : List V) (h : argsV [shU32, shU32, shBytes] vs) : VCalls Try.prog 6 vs [] fun r _ => r = .bool true := by
  obtain ⟨c1, r1, rfl, ⟨n, rfl, hn⟩, c2, r2, rfl, ⟨n', rfl, hn'⟩, c3, r3, rfl, h3, rfl⟩ := h
  obtain ⟨nl, l, rfl⟩ := bytes_of h3
  obtain ⟨a, rfl⟩ := wf_u32 hn
  obtain ⟨b, rfl⟩ := wf_u32 hn'
  exact (c_numbers nl false a b l []).mono fun _ _ h => h.1

theorem optsNumbers_lifted (os : Os) (started : os.Started) (H : Type) (enc : TypeId × Value → H) :
    ReturnsInHanded {} Try.checked os 6 .any (Rows.optsNumbersSpec.pre6 enc Try.prog Try.f6 Rows.optsNumbersRow.domain false) (Rows.optsNumbersSpec.post enc Try.prog Try.f6 false true false false) := by
  refine returnsInHanded_of_change_sized (C := Try.checked) own started (by kernel_rfl) Try.func6
    (ChangeSpec.witness6 (enc := enc) (C := Try.checked) false ⟨#[], #[.int .u32 0, .int .u32 0, .slice none 0 0], []⟩ 8 (by kernel_rfl) (by kernel_rfl) (by kernel_rfl) (by kernel_rfl)) ?_
  intro W base args ds gs before hval0 hW hcnd hsz0 _
  have hW' := hW
  obtain ⟨p, q, hA0, hV, rfl, hfz, hnd⟩ := hW
  obtain ⟨rfl, rfl⟩ := trodVars_none hV
  have hval : ∀ (j : Nat) t v, (Try.f6.params.toList)[j]? = some t → args.toList[j]? = some v → Value.okWide Try.prog W .any base t v := fun j t v h1 h2 => hval0 j t v (by simpa using h1) (by simpa using h2)
  refine (law_calls (ss := [shU32, shU32, shBytes]) (by kernel_rfl) optsNumbers_calls hval hA0).mono fun e W' ⟨he, bel⟩ => ?_
  subst he
  have hb := again_of' laidOut bel (by kernel_rfl) hA0
  obtain ⟨v0, vs0, d0, ds0, p0, q0, e0a, rfl, e0b, h0, r0⟩ := trodAll_cons (show DataW.TrodAll enc Try.prog W 0 (fun _ => true) true [24, 24, 23] args.toList ds p from hA0)
  obtain ⟨v1, vs1, d1, ds1, p1, q1, e1a, rfl, e1b, h1, r1⟩ := trodAll_cons r0
  obtain ⟨v2, vs2, d2, ds2, p2, q2, e2a, rfl, e2b, h2, r2⟩ := trodAll_cons r1
  obtain ⟨_, rfl, _⟩ := trodAll_nil r2
  exact ⟨_, rfl, _, _, _, [], _, [], hW', trodAll_mk1 (shut_bool Try.underlying4 _), hb, rfl, bel.frame _, fun h => by cases h⟩

theorem optsNumbers_holds : Rows.OptsNumbersSaid :=
  OpenClaim.holds_of_wide 6 Try.f6 rfl rfl rfl rfl rfl rfl rfl ⟨rfl, rfl, rfl, rfl, rfl⟩ rfl rfl rfl rfl rfl (by kernel_rfl) Try.func6 (by kernel_rfl)
    (of_decide_eq_true (by kernel_rfl)) (by unfold Func.isWrapper; first | (rw [if_pos (by decide +kernel)]; kernel_rfl) | (rw [if_neg (by decide +kernel)]; exact ⟨rfl, rfl⟩))
    (fun os started H enc _ => optsNumbers_lifted os started H enc)
#print axioms optsNumbers_holds

end Go.Proofs.Ytbaomchgafpphaa
