/- NegoRight: at every protocol, every event and every packet the law answers true, and leaves its arguments as they were. Conditions: none. -/
import Derived.Test.YtonjofnphkghcaaDoorSSd
import Derived.Test.YtonjofnphkghcaaDoorSSe
set_option linter.unusedVariables false
set_option linter.unusedSimpArgs false
namespace Go.Proofs.YtonjofnphkghcaaDoor
open Go.VL Go.ChangeShapes Go.WideShapes Go.RowKit

theorem negoRight_calls (vs : List V) (h : argsV [shNego, shI64, shPkt] vs) : VCalls Tryd.prog 3 vs [] fun r _ => r = .bool true := by
  obtain ⟨c1, r1, rfl, h1, c2, r2, rfl, ⟨m, rfl, _⟩, c3, r3, rfl, h3, rfl⟩ := h
  obtain ⟨n, e1, hps⟩ := nego_of h1
  obtain ⟨p, e3, hp⟩ := pkt_of h3
  show VCalls Tryd.prog _ [.agg c1, .int .i64 m, .agg c3] _ _
  rw [e1, e3]
  exact (c_lright n m p hps hp []).mono fun _ _ h => h.1

set_option maxRecDepth 100000 in
theorem negoRight_lifted (os : Os) (started : os.Started) (H : Type) (enc : TypeId × Value → H) :
    ReturnsInHanded {} Tryd.checked os 3 .any (fun w args => (Rows.negoRightSpec.pre enc Tryd.prog Tryd.f3 Rows.negoRightRow.domain false w args ∧ laidMetH Tryd.prog laidL w) ∧ sizedMet enc Tryd.prog Tryd.f3 (OpenSpec.ofChange Rows.negoRightSpec) false w args)
      (Rows.negoRightSpec.post enc Tryd.prog Tryd.f3 false true false false) := by
  refine returnsInHanded_of_change_and (C := Tryd.checked) (X := fun w _ => laidMetH Tryd.prog laidL w) (fun _ _ _ hh h => h.of_heap hh) own started (by kernel_rfl) Tryd.func3
    (ChangeSpec.witness_shaped (enc := enc) (C := Tryd.checked) (os := os) (X := fun w _ => laidMetH Tryd.prog laidL w) false (World.laidAll Tryd.prog os laidL) #[.agg #[.int .i64 0, .int .i64 0, .int .i64 0, .int .u8 0, .bool false, .int .u32 0, .int .u32 0, .int .u32 0, .int .u32 0, .slice none 0 0, .int .i64 0, .slice none 0 0], .int .i64 0, .agg #[.int .u8 0, .int .u8 0, .slice none 0 0]] 8 (World.laidAll_os _ _ _)
      (World.shaped_of_ZipB (by kernel_rfl) (by kernel_rfl)) (by kernel_rfl) (by kernel_rfl) (by kernel_rfl)
      (by rw [MakeChecks.laidMetH_plain _ _ _ (by kernel_rfl)]; exact laidMet_laidAll _ (by kernel_rfl) (by kernel_rfl))) ?_
  intro W base args ds gs before hval0 hW hcnd hsz0 hL _
  have hW' := hW
  obtain ⟨p, q, hA0, hV, rfl, hfz, hnd⟩ := hW
  obtain ⟨rfl, rfl⟩ := trodVars_none hV
  have hval : ∀ (j : Nat) t v, (Tryd.f3.params.toList)[j]? = some t → args.toList[j]? = some v → Value.okWide Tryd.prog W .any base t v := fun j t v h1 h2 => hval0 j t v (by simpa using h1) (by simpa using h2)
  refine (law_calls_g (ss := [shNego, shI64, shPkt]) (by kernel_rfl) negoRight_calls (glo_of hL) hval hA0 hsz0).mono fun e W' ⟨he, bel⟩ => ?_
  subst he
  have hb := again_of' laidOut bel (by kernel_rfl) hA0
  obtain ⟨v0, vs0, d0, ds0, p0, q0, e0a, rfl, e0b, h0, r0⟩ := trodAll_cons (show DataW.TrodAll enc Tryd.prog W 0 (fun _ => true) true [29, 3, 32] args.toList ds p from hA0)
  obtain ⟨v1, vs1, d1, ds1, p1, q1, e1a, rfl, e1b, h1, r1⟩ := trodAll_cons r0
  obtain ⟨v2, vs2, d2, ds2, p2, q2, e2a, rfl, e2b, h2, r2⟩ := trodAll_cons r1
  obtain ⟨_, rfl, _⟩ := trodAll_nil r2
  exact ⟨_, rfl, _, _, _, [], _, [], hW', trodAll_mk1 (shut_bool Tryd.underlying4 _), hb, rfl, bel.frame _, fun h => by cases h⟩

theorem negoRight_holds : Rows.NegoRightSaid :=
  OpenClaim.holds_of_wide 3 Tryd.f3 rfl rfl rfl rfl rfl rfl rfl ⟨rfl, rfl, rfl, rfl, rfl⟩ rfl rfl rfl rfl rfl (by kernel_rfl) Tryd.func3 (by kernel_rfl)
    (of_decide_eq_true (by kernel_rfl)) (by unfold Func.isWrapper; first | (rw [if_pos (by decide +kernel)]; kernel_rfl) | (rw [if_neg (by decide +kernel)]; exact ⟨rfl, rfl⟩))
    (fun os started H enc _ => negoRight_lifted os started H enc)
theorem negoRight_card : Rows.NegoRightCardSaid :=
  Claim7.holds_tied_plain_at .later [] [.listed, .data] true (true, "17513860bfd2e1a7c8681d4397f10b1ef564f10324ec62577607b0678db139ca") false
    negoRight_holds (fun _ h => by cases h) (by kernel_rfl) (fun _ h => by cases h) negoRight_row_tie rfl ⟨rfl, rfl⟩ (by kernel_rfl) rfl
    (fun f fn hf hfn => by
      obtain rfl : f = 3 := Option.some.inj ((show Tryd.prog.funcNamed "portreeve/portreevelaw14.NegoRight" = some 3 by kernel_rfl).symm.trans hf) |>.symm
      obtain rfl : fn = Tryd.f3 := (Option.some.inj (Tryd.func3.symm.trans hfn)).symm
      exact ⟨by kernel_rfl, fun j t ht => by
        have ht : (#[29, 3, 32] : Array TypeId)[j]? = some t := ht
        have hm : t ∈ [29, 3, 32] := by simpa using Array.mem_of_getElem? ht
        have hall : ([29, 3, 32].all fun u => !Tryd.prog.wantsStandIn u) = true := by kernel_rfl
        exact (show Tryd.prog.wantsStandIn t = false by simpa using List.all_eq_true.1 hall t hm)⟩)
    (by kernel_rfl)
#print axioms negoRight_holds
#print axioms negoRight_card

end Go.Proofs.YtonjofnphkghcaaDoor
