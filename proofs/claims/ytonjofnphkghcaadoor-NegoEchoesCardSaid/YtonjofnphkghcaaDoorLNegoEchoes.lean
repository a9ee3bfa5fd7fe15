/- NegoEchoes: at every protocol and every packet of bytes the law answers true, and leaves its arguments as they were. Conditions: none. -/
import Derived.Test.YtonjofnphkghcaaDoorSSd
set_option linter.unusedVariables false
set_option linter.unusedSimpArgs false
namespace Go.Proofs.YtonjofnphkghcaaDoor
open Go.VL Go.ChangeShapes Go.WideShapes Go.RowKit

theorem negoEchoes_calls (vs : List V) (h : argsV [shNego, shU8, shBytes] vs) : VCalls Tryd.prog 7 vs [] fun r _ => r = .bool true := by
  obtain ⟨c1, r1, rfl, h1, c2, r2, rfl, ⟨m, rfl, hm⟩, c3, r3, rfl, h3, rfl⟩ := h
  obtain ⟨n, e1, hps⟩ := nego_of h1
  obtain ⟨id, rfl⟩ := wf_u8 hm
  obtain ⟨nl, d, rfl⟩ := bytes_of h3
  show VCalls Tryd.prog _ [.agg c1, .int .u8 id.toNat, .sl nl false 1 (bv d)] _ _
  rw [e1]
  exact (c_lechoes n id nl false d hps []).mono fun _ _ h => h.1

set_option maxRecDepth 100000 in
theorem negoEchoes_lifted (os : Os) (started : os.Started) (H : Type) (enc : TypeId × Value → H) :
    ReturnsInHanded {} Tryd.checked os 7 .any (fun w args => (Rows.negoEchoesSpec.pre enc Tryd.prog Tryd.f7 Rows.negoEchoesRow.domain false w args ∧ laidMetH Tryd.prog laidL w) ∧ sizedMet enc Tryd.prog Tryd.f7 (OpenSpec.ofChange Rows.negoEchoesSpec) false w args)
      (Rows.negoEchoesSpec.post enc Tryd.prog Tryd.f7 false true false false) := by
  refine returnsInHanded_of_change_and (C := Tryd.checked) (X := fun w _ => laidMetH Tryd.prog laidL w) (fun _ _ _ hh h => h.of_heap hh) own started (by kernel_rfl) Tryd.func7
    (ChangeSpec.witness_shaped (enc := enc) (C := Tryd.checked) (os := os) (X := fun w _ => laidMetH Tryd.prog laidL w) false (World.laidAll Tryd.prog os laidL) #[.agg #[.int .i64 0, .int .i64 0, .int .i64 0, .int .u8 0, .bool false, .int .u32 0, .int .u32 0, .int .u32 0, .int .u32 0, .slice none 0 0, .int .i64 0, .slice none 0 0], .int .u8 0, .slice none 0 0] 8 (World.laidAll_os _ _ _)
      (World.shaped_of_ZipB (by kernel_rfl) (by kernel_rfl)) (by kernel_rfl) (by kernel_rfl) (by kernel_rfl)
      (by rw [MakeChecks.laidMetH_plain _ _ _ (by kernel_rfl)]; exact laidMet_laidAll _ (by kernel_rfl) (by kernel_rfl))) ?_
  intro W base args ds gs before hval0 hW hcnd hsz0 hL _
  have hW' := hW
  obtain ⟨p, q, hA0, hV, rfl, hfz, hnd⟩ := hW
  obtain ⟨rfl, rfl⟩ := trodVars_none hV
  have hval : ∀ (j : Nat) t v, (Tryd.f7.params.toList)[j]? = some t → args.toList[j]? = some v → Value.okWide Tryd.prog W .any base t v := fun j t v h1 h2 => hval0 j t v (by simpa using h1) (by simpa using h2)
  refine (law_calls_g (ss := [shNego, shU8, shBytes]) (by kernel_rfl) negoEchoes_calls (glo_of hL) hval hA0 hsz0).mono fun e W' ⟨he, bel⟩ => ?_
  subst he
  have hb := again_of' laidOut bel (by kernel_rfl) hA0
  obtain ⟨v0, vs0, d0, ds0, p0, q0, e0a, rfl, e0b, h0, r0⟩ := trodAll_cons (show DataW.TrodAll enc Tryd.prog W 0 (fun _ => true) true [29, 5, 30] args.toList ds p from hA0)
  obtain ⟨v1, vs1, d1, ds1, p1, q1, e1a, rfl, e1b, h1, r1⟩ := trodAll_cons r0
  obtain ⟨v2, vs2, d2, ds2, p2, q2, e2a, rfl, e2b, h2, r2⟩ := trodAll_cons r1
  obtain ⟨_, rfl, _⟩ := trodAll_nil r2
  exact ⟨_, rfl, _, _, _, [], _, [], hW', trodAll_mk1 (shut_bool Tryd.underlying4 _), hb, rfl, bel.frame _, fun h => by cases h⟩

theorem negoEchoes_holds : Rows.NegoEchoesSaid :=
  OpenClaim.holds_of_wide 7 Tryd.f7 rfl rfl rfl rfl rfl rfl rfl ⟨rfl, rfl, rfl, rfl, rfl⟩ rfl rfl rfl rfl rfl (by kernel_rfl) Tryd.func7 (by kernel_rfl)
    (of_decide_eq_true (by kernel_rfl)) (by unfold Func.isWrapper; first | (rw [if_pos (by decide +kernel)]; kernel_rfl) | (rw [if_neg (by decide +kernel)]; exact ⟨rfl, rfl⟩))
    (fun os started H enc _ => negoEchoes_lifted os started H enc)
theorem negoEchoes_card : Rows.NegoEchoesCardSaid :=
  Claim7.holds_tied_plain_at .later [] [.listed, .data] true (true, "17513860bfd2e1a7c8681d4397f10b1ef564f10324ec62577607b0678db139ca") false
    negoEchoes_holds (fun _ h => by cases h) (by kernel_rfl) (fun _ h => by cases h) negoEchoes_row_tie rfl ⟨rfl, rfl⟩ (by kernel_rfl) rfl
    (fun f fn hf hfn => by
      obtain rfl : f = 7 := Option.some.inj ((show Tryd.prog.funcNamed "portreeve/portreevelaw14.NegoEchoes" = some 7 by kernel_rfl).symm.trans hf) |>.symm
      obtain rfl : fn = Tryd.f7 := (Option.some.inj (Tryd.func7.symm.trans hfn)).symm
      exact ⟨by kernel_rfl, fun j t ht => by
        have ht : (#[29, 5, 30] : Array TypeId)[j]? = some t := ht
        have hm : t ∈ [29, 5, 30] := by simpa using Array.mem_of_getElem? ht
        have hall : ([29, 5, 30].all fun u => !Tryd.prog.wantsStandIn u) = true := by kernel_rfl
        exact (show Tryd.prog.wantsStandIn t = false by simpa using List.all_eq_true.1 hall t hm)⟩)
    (by kernel_rfl)
#print axioms negoEchoes_holds
#print axioms negoEchoes_card

end Go.Proofs.YtonjofnphkghcaaDoor
