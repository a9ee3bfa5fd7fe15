/- OptsDrops: at every row of options, every two types and every option the law answers true, and leaves its argument as it was. Conditions: none. -/
import Derived.Test.YtbaomchgafpphaaSSc
import Derived.Test.YtbaomchgafpphaaSSb
set_option linter.unusedVariables false
set_option linter.unusedSimpArgs false
namespace Go.Proofs.Ytbaomchgafpphaa
open Go.VL Go.ChangeShapes Go.WideShapes Go.RowKit

theorem optsDrops_calls (vs : List V) (h : argsV [shDrops] vs) : VCalls Try.prog 5 vs [] fun r _ => r = .bool true := by
  obtain ⟨c1, r1, rfl, h1, rfl⟩ := h
  obtain ⟨nl, l, s, t, o, rfl, hn⟩ := drops_of h1
  exact (c_drops nl false l s t o hn []).mono fun _ _ h => h.1

theorem optsDrops_lifted (os : Os) (started : os.Started) (H : Type) (enc : TypeId × Value → H) :
    ReturnsInHanded {} Try.checked os 5 .any (Rows.optsDropsSpec.pre6 enc Try.prog Try.f5 Rows.optsDropsRow.domain false) (Rows.optsDropsSpec.post enc Try.prog Try.f5 false true false false) := by
  refine returnsInHanded_of_change_sized (C := Try.checked) own started (by kernel_rfl) Try.func5
    (ChangeSpec.witness6 (enc := enc) (C := Try.checked) false ⟨#[], #[.agg #[.slice none 0 0, .int .u8 0, .int .u8 0, .int .u8 0, .slice none 0 0]], []⟩ 8 (by kernel_rfl) (by kernel_rfl) (by kernel_rfl) (by kernel_rfl)) ?_
  intro W base args ds gs before hval0 hW hcnd hsz0 _
  have hW' := hW
  obtain ⟨p, q, hA0, hV, rfl, hfz, hnd⟩ := hW
  obtain ⟨rfl, rfl⟩ := trodVars_none hV
  have hval : ∀ (j : Nat) t v, (Try.f5.params.toList)[j]? = some t → args.toList[j]? = some v → Value.okWide Try.prog W .any base t v := fun j t v h1 h2 => hval0 j t v (by simpa using h1) (by simpa using h2)
  refine (law_calls (ss := [shDrops]) (by kernel_rfl) optsDrops_calls hval hA0).mono fun e W' ⟨he, bel⟩ => ?_
  subst he
  have hb := again_of' laidOut bel (by kernel_rfl) hA0
  obtain ⟨v0, vs0, d0, ds0, p0, q0, e0a, rfl, e0b, h0, r0⟩ := trodAll_cons (show DataW.TrodAll enc Try.prog W 0 (fun _ => true) true [40] args.toList ds p from hA0)
  obtain ⟨_, rfl, _⟩ := trodAll_nil r0
  exact ⟨_, rfl, _, _, _, [], _, [], hW', trodAll_mk1 (shut_bool Try.underlying4 _), hb, rfl, bel.frame _, fun h => by cases h⟩

theorem optsDrops_holds : Rows.OptsDropsSaid :=
  OpenClaim.holds_of_wide 5 Try.f5 rfl rfl rfl rfl rfl rfl rfl ⟨rfl, rfl, rfl, rfl, rfl⟩ rfl rfl rfl rfl rfl (by kernel_rfl) Try.func5 (by kernel_rfl)
    (of_decide_eq_true (by kernel_rfl)) (by unfold Func.isWrapper; first | (rw [if_pos (by decide +kernel)]; kernel_rfl) | (rw [if_neg (by decide +kernel)]; exact ⟨rfl, rfl⟩))
    (fun os started H enc _ => optsDrops_lifted os started H enc)
#print axioms optsDrops_holds

end Go.Proofs.Ytbaomchgafpphaa
