/- LinkPlug: at every link, and every two magic numbers the law answers true, and leaves its arguments as they were. Conditions: none. -/
import Derived.Test.YtonjofnphkghcaaGreatDoorSSn
import Derived.Test.YtonjofnphkghcaaGreatDoorSSx
set_option linter.unusedVariables false
set_option linter.unusedSimpArgs false
/- LinkPlug's law. Conditions: none. -/
namespace Go.VL
open Go.Proofs

theorem u32_wrap (n : Int) : ∃ m : UInt32, IntKind.u32.wrap n = (m.toNat : Int) := by
  refine ⟨UInt32.ofNat (IntKind.u32.wrap n).toNat, ?_⟩
  have h : 0 ≤ IntKind.u32.wrap n ∧ IntKind.u32.wrap n < 4294967296 := by
    unfold IntKind.wrap
    simp [IntKind.bits, IntKind.signed]
    omega
  simp
  omega
theorem was_line (k : LinkV) : (wasK k).line = k.line := by unfold wasK; cases k.l.a.st == 9 <;> rfl
theorem was_n (k : LinkV) : (wasK k).n = k.n ∨ (wasK k).n = freshN := by
  unfold wasK
  cases k.l.a.st == 9
  · exact .inl rfl
  · exact .inr rfl
theorem was_sess {k : LinkV} (hg : GoodK k) : (wasK k).sess = -1 := by
  unfold wasK
  cases h : k.l.a.st == 9
  · have h9 : k.l.a.st ≠ 9 := by simpa using h
    have := hg.low
    rcases Int.lt_or_le k.sess 0 with h0 | h0
    · show k.sess = -1
      omega
    · exact absurd (hg.st9 h0) h9
  · rfl
/-- What is plugged where nothing is. -/
def plugK (u : LinkV) (m o : UInt32) : LinkV := { u with l := plN m o, phase := 1 }
theorem plug_u {u : LinkV} (h : u.l.a.st = 0) (m o : UInt32) : doneK (plugW u m o) = plugK u m o ∧ (plugW u m o).sent = [frmOf 49185 (reqP (plN m o))] := by
  rw [plug_is h m o]
  exact ⟨rfl, rfl⟩
theorem plug_again (u : LinkV) (m o m' : UInt32) : doneK (plugW (plugK u m o) m' o) = plugK u m o ∧ (plugW (plugK u m o) m' o).sent = [] := ⟨rfl, rfl⟩

set_option maxHeartbeats 8000000 in
set_option maxRecDepth 20000 in
theorem c_linkPlug (k : LinkV) (hz : k.line.sz = 1) (h1 : k.l.ps = 2) (h2 : k.n.ps = 2) (m o : UInt32) (σ : St) :
    VCalls Tryz.prog 3 [lkv k, .int .u32 m.toNat, .int .u32 o.toNat] σ fun r σ' => r = .bool true ∧ σ' = σ := by
  refine vcalls_intro (C := cfg Tryz.prog [] [] []) (cfg_ok mixed) Tryz.func3 rfl rfl rfl rfl rfl ?_
  simp (maxSteps := 1000000) -implicitDefEqProofs only [go_sem, lkv, lk_len, lk_take, lk_cell, lk_imm, set_lk]
  refine vgo_call rfl rfl rfl rfl (c_shown18 σ) ?_
  simp (maxSteps := 1000000) -implicitDefEqProofs only [go_sem, lkv, lk_len, lk_take, lk_cell, lk_imm, set_lk]
  refine vgo_call rfl rfl rfl rfl (c_r18small k h1 h2 σ) ?_
  cases hs : smallK k
  · simp (maxSteps := 1000000) -implicitDefEqProofs only [go_sem, lkv, lk_len, lk_take, lk_cell, lk_imm, set_lk]
  have hsN : smallN k.l = true ∧ smallN k.n = true := by
    unfold smallK at hs
    simp only [Bool.and_eq_true] at hs
    exact ⟨hs.1.1.1, hs.1.1.2⟩
  have hf1 : few k.l.ours = true := by have := hsN.1; unfold smallN at this; simp only [Bool.and_eq_true] at this; exact this.1
  have hf2 : few k.n.ours = true := by have := hsN.2; unfold smallN at this; simp only [Bool.and_eq_true] at this; exact this.1
  have hL := fun σ => c_rright14 k.l hf1 σ
  have hN := fun σ => c_rright14 k.n hf2 σ
  simp (maxSteps := 1000000) -implicitDefEqProofs only [go_sem, lkv, lk_len, lk_take, lk_cell, lk_imm, set_lk]
  refine vgo_call rfl rfl rfl rfl (c_r18right1 k hz hL hN σ) ?_
  cases hr : rightK k
  · simp (maxSteps := 1000000) -implicitDefEqProofs only [go_sem, lkv, lk_len, lk_take, lk_cell, lk_imm, set_lk]
  have hg := goodK_of hs hr
  have hu := c_lunplug k hg.l σ
  have hu0 := unplug_st (k := k) hg.l.st
  have huk := unplug_k (k := k) hg.l.st
  have hU : (doneK (unplugW k)).phase = 0 ∧ (doneK (unplugW k)).l.a.st = 0 ∧ (doneK (unplugW k)).sess = -1 ∧ (doneK (unplugW k)).line = k.line ∧ ((doneK (unplugW k)).n = k.n ∨ (doneK (unplugW k)).n = freshN) := by
    refine ⟨phase0 hu0, hu0, ?_, ?_, ?_⟩
    · show (unplugW k).k.sess = -1
      rw [huk]
      exact was_sess hg
    · show (unplugW k).k.line = k.line
      rw [huk]
      exact was_line k
    · show (unplugW k).k.n = k.n ∨ (unplugW k).k.n = freshN
      rw [huk]
      exact was_n k
  unfold outW outC at hu
  generalize doneK (unplugW k) = U at hu hU
  generalize unplugW k = X at hu
  obtain ⟨u1, u2, u3, u4, u5⟩ := hU
  have hp := c_lplug U m o σ
  rw [(plug_u u2 m o).1] at hp
  have hps := (plug_u u2 m o).2
  unfold outW outC at hp
  generalize plugW U m o = W at hp hps
  obtain ⟨m', hm'⟩ := u32_wrap ((m.toNat : Int) + 1)
  have hq := c_lplug (plugK U m o) m' o σ
  rw [(plug_again U m o m').1] at hq
  have hqs := (plug_again U m o m').2
  unfold outW outC at hq
  generalize plugW (plugK U m o) m' o = Y at hq hqs
  have hf : frs W.sent = [.agg [.int .u16 49185, .sl false false 1 (bv (pkB (reqP (plN m o))))]] := by
    rw [hps]
    rfl
  have he : W.sent.isEmpty = false := by rw [hps]; rfl
  have hye : Y.sent.isEmpty = true := by rw [hqs]; rfl
  have hyf : frs Y.sent = [] := by rw [hqs]; rfl
  rw [hf, he] at hp
  rw [hyf, hye] at hq
  have hP1 : (plugK U m o).phase = 1 := rfl
  have hPm : (plugK U m o).l.r.magic = m := rfl
  have hPo : LkOK (plugK U m o) := by
    refine ⟨?_, .inr ⟨rfl, rfl⟩, ?_⟩
    · show LnOK U.line
      rw [u4]
      exact .inl hz
    · show NgOK U.n
      rcases u5 with e | e
      · rw [e]; exact .inl h2
      · rw [e]; exact new_ok ipR
  have hPl : (plugK U m o).line.b.length ≤ lim := by
    show U.line.b.length ≤ lim
    rw [u4]
    unfold smallK at hs
    simp only [Bool.and_eq_true, decide_eq_true_eq] at hs
    unfold lim
    omega
  have hPL : CmpN (plugK U m o).l := ⟨(new_cmp (plugR m o)).o, (new_cmp (plugR m o)).p⟩
  have hPN : CmpN (plugK U m o).n := by
    show CmpN U.n
    rcases u5 with e | e
    · rw [e]; exact cmp_small hsN.2
    · rw [e]; exact new_cmp ipR
  have hsm := c_r18same (plugK U m o) (plugK U m o) hPo hPo hPl hPL hPN σ
  rw [sameK_self] at hsm
  generalize plugK U m o = P at *
  simp (maxSteps := 1000000) -implicitDefEqProofs only [go_sem, lkv, lk_len, lk_take, lk_cell, lk_imm, set_lk]
  refine vgo_call rfl rfl rfl rfl hu ?_
  simp (maxSteps := 1000000) -implicitDefEqProofs only [go_sem, lkv, lk_len, lk_take, lk_cell, lk_imm, set_lk]
  refine vgo_call rfl rfl rfl rfl hp ?_
  simp (maxSteps := 1000000) -implicitDefEqProofs only [go_sem, lkv, lk_len, lk_take, lk_cell, lk_imm, set_lk, hm']
  refine vgo_call rfl rfl rfl rfl hq ?_
  simp (maxSteps := 1000000) -implicitDefEqProofs only [go_sem, lkv, lk_len, lk_take, lk_cell, lk_imm, set_lk]
  have n1 : (((1 : Nat) : Int) == 1) = true := rfl
  have n0 : (((0 : Nat) : Int) == 0) = true := rfl
  have e1 : (U.phase == 0) = true := by rw [u1]; rfl
  have e2 : decide (U.sess < 0) = true := by rw [u3]; rfl
  have e3 : (U.l.a.st == 0) = true := by rw [u2]; rfl
  have e4 : (P.phase == 1) = true := by rw [hP1]; rfl
  have e5 : ((P.l.r.magic.toNat : Int) == (m.toNat : Int)) = true := by rw [hPm]; simp
  unfold lkv at hsm
  unfold lkC at hsm ⊢
  simp (maxSteps := 1000000) -implicitDefEqProofs only [go_sem, n1, n0, e1, e2, e3, e4, e5]
  repeat (refine ⟨by omega, ?_⟩)
  refine vgo_call rfl rfl rfl rfl hsm ?_
  simp (maxSteps := 1000000) -implicitDefEqProofs only [go_sem, n1, n0, e1, e2, e3, e4, e5]

end Go.VL

/- LinkPlug: at every link, and every two magic numbers the law answers true, and leaves its arguments as they were. Conditions: none. -/
namespace Go.Proofs.YtonjofnphkghcaaGreatDoor
open Go.VL Go.ChangeShapes Go.WideShapes Go.RowKit

theorem linkPlug_calls (vs : List V) (h : argsV [shLink, shU32, shU32] vs) : VCalls Tryz.prog 3 vs [] fun r _ => r = .bool true := by
  obtain ⟨c1, r1, rfl, h1, c2, r2, rfl, ⟨m, rfl, h2⟩, c3, r3, rfl, ⟨o, rfl, h3⟩, rfl⟩ := h
  obtain ⟨k, rfl, hk⟩ := link_of h1
  obtain ⟨m, rfl⟩ := wf_u32 h2
  obtain ⟨o, rfl⟩ := wf_u32 h3
  exact (c_linkPlug k hk.z hk.l hk.n m o []).mono fun _ _ h => h.1

set_option maxRecDepth 100000 in
theorem linkPlug_lifted (os : Os) (started : os.Started) (H : Type) (enc : TypeId × Value → H) :
    ReturnsInHanded {} Tryz.checked os 3 .any (fun w args => (Rows.linkPlugSpec.pre enc Tryz.prog Tryz.f3 Rows.linkPlugRow.domain false w args ∧ laidMetH Tryz.prog laidL w) ∧ sizedMet enc Tryz.prog Tryz.f3 (OpenSpec.ofChange Rows.linkPlugSpec) false w args)
      (Rows.linkPlugSpec.post enc Tryz.prog Tryz.f3 false true false false) := by
  refine returnsInHanded_of_change_and (C := Tryz.checked) (X := fun w _ => laidMetH Tryz.prog laidL w) (fun _ _ _ hh h => h.of_heap hh) own started (by kernel_rfl) Tryz.func3
    (ChangeSpec.witness_shaped (enc := enc) (C := Tryz.checked) (os := os) (X := fun w _ => laidMetH Tryz.prog laidL w) false (World.laidAll Tryz.prog os laidL) #[.agg #[.int .i64 0, .slice none 0 0, .bool false, .int .i64 0, .int .i64 0, .int .i64 0, .int .u8 0, .bool false, .int .u32 0, .int .u32 0, .int .u32 0, .int .u32 0, .slice none 0 0, .int .i64 0, .slice none 0 0, .int .i64 0, .int .i64 0, .int .i64 0, .int .u8 0, .bool false, .int .u32 0, .int .u32 0, .int .u32 0, .int .u32 0, .slice none 0 0, .int .i64 0, .slice none 0 0, .int .i64 0, .int .i64 0, .int .i64 0, .int .u8 0, .int .u8 0, .int .u8 0, .int .u8 0, .int .u8 0, .int .u8 0, .int .u8 0, .int .u8 0, .int .u8 0, .int .u8 0, .int .u8 0, .int .u8 0, .int .u8 0, .int .u8 0, .int .u8 0, .int .u8 0, .int .u8 0, .string ⟨#[]⟩, .int .u8 0, .int .u8 0, .int .u8 0, .int .u8 0, .int .u8 0, .int .u8 0, .int .u8 0, .int .u8 0, .int .u8 0, .int .u8 0, .int .u8 0, .int .u8 0, .int .u8 0, .int .u8 0, .int .u8 0, .int .u8 0, .int .u64 0, .int .u64 0, .int .i64 0, .int .i64 0, .int .u32 0], .int .u32 0, .int .u32 0] 8 (World.laidAll_os _ _ _)
      (World.shaped_of_ZipB (by kernel_rfl) (by kernel_rfl)) (by kernel_rfl) (by kernel_rfl) (by kernel_rfl)
      (by rw [MakeChecks.laidMetH_plain _ _ _ (by kernel_rfl)]; exact laidMet_laidAll _ (by kernel_rfl) (by kernel_rfl))) ?_
  intro W base args ds gs before hval0 hW hcnd hsz0 hL _
  have hW' := hW
  obtain ⟨p, q, hA0, hV, rfl, hfz, hnd⟩ := hW
  obtain ⟨rfl, rfl⟩ := trodVars_none hV
  have hval : ∀ (j : Nat) t v, (Tryz.f3.params.toList)[j]? = some t → args.toList[j]? = some v → Value.okWide Tryz.prog W .any base t v := fun j t v h1 h2 => hval0 j t v (by simpa using h1) (by simpa using h2)
  refine (law_calls_g (ss := [shLink, shU32, shU32]) (by kernel_rfl) linkPlug_calls (glo_of hL) hval hA0 hsz0).mono fun e W' ⟨he, bel⟩ => ?_
  subst he
  have hb := again_of' laidOut bel (by kernel_rfl) hA0
  obtain ⟨v0, vs0, d0, ds0, p0, q0, e0a, rfl, e0b, h0, r0⟩ := trodAll_cons (show DataW.TrodAll enc Tryz.prog W 0 (fun _ => true) true [40, 27, 27] args.toList ds p from hA0)
  obtain ⟨v1, vs1, d1, ds1, p1, q1, e1a, rfl, e1b, h1, r1⟩ := trodAll_cons r0
  obtain ⟨v2, vs2, d2, ds2, p2, q2, e2a, rfl, e2b, h2, r2⟩ := trodAll_cons r1
  obtain ⟨_, rfl, _⟩ := trodAll_nil r2
  exact ⟨_, rfl, _, _, _, [], _, [], hW', trodAll_mk1 (shut_bool Tryz.underlying4 _), hb, rfl, bel.frame _, fun h => by cases h⟩

theorem linkPlug_holds : Rows.LinkPlugSaid :=
  OpenClaim.holds_of_wide 3 Tryz.f3 rfl rfl rfl rfl rfl rfl rfl ⟨rfl, rfl, rfl, rfl, rfl⟩ rfl rfl rfl rfl rfl (by kernel_rfl) Tryz.func3 (by kernel_rfl)
    (of_decide_eq_true (by kernel_rfl)) (by unfold Func.isWrapper; first | (rw [if_pos (by decide +kernel)]; kernel_rfl) | (rw [if_neg (by decide +kernel)]; exact ⟨rfl, rfl⟩))
    (fun os started H enc _ => linkPlug_lifted os started H enc)
theorem linkPlug_card : Rows.LinkPlugCardSaid :=
  Claim7.holds_tied_plain_at .later [] [.listed, .data] true (true, "c0a8c998641c89cad588d90fec08d04a5e256d923978a8ee92bd971b1ad12cd0") false
    linkPlug_holds (fun _ h => by cases h) (by kernel_rfl) (fun _ h => by cases h) linkPlug_row_tie rfl ⟨rfl, rfl⟩ (by kernel_rfl) rfl
    (fun f fn hf hfn => by
      obtain rfl : f = 3 := Option.some.inj ((show Tryz.prog.funcNamed "portreeve/portreevelaw18.LinkPlug" = some 3 by kernel_rfl).symm.trans hf) |>.symm
      obtain rfl : fn = Tryz.f3 := (Option.some.inj (Tryz.func3.symm.trans hfn)).symm
      exact ⟨by kernel_rfl, fun j t ht => by
        have ht : (#[40, 27, 27] : Array TypeId)[j]? = some t := ht
        have hm : t ∈ [40, 27, 27] := by simpa using Array.mem_of_getElem? ht
        have hall : ([40, 27, 27].all fun u => !Tryz.prog.wantsStandIn u) = true := by kernel_rfl
        exact (show Tryz.prog.wantsStandIn t = false by simpa using List.all_eq_true.1 hall t hm)⟩)
    (by kernel_rfl)
#print axioms linkPlug_holds
#print axioms linkPlug_card

end Go.Proofs.YtonjofnphkghcaaGreatDoor
