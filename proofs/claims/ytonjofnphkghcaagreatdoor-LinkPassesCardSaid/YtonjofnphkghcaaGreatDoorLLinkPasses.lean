/- LinkPasses: at every link and every packet the law answers true, and leaves its arguments as they were. Conditions: none. -/
import Derived.Test.YtonjofnphkghcaaGreatDoorSSo
import Derived.Test.YtonjofnphkghcaaGreatDoorSSx
set_option linter.unusedVariables false
set_option linter.unusedSimpArgs false
/- LinkPasses' law. Conditions: none. -/
namespace Go.VL
open Go.Proofs

/-! More of a link's cells. -/
section
variable (k : LinkV) (m : MeterV)
theorem lk_ph : (lkC k).take 1 = [.int .i64 k.phase] := rfl
theorem lk_lst : ((lkC k).drop 3).take 1 = [.int .i64 k.l.a.st] := rfl
theorem lk_nst : ((lkC k).drop 15).take 1 = [.int .i64 k.n.a.st] := rfl
theorem lk_m : ((lkC k).drop 64).take 3 = meC k.m := rfl
theorem lk_min : ((lkC k).drop 64).take 1 = [.int .u64 k.m.inn.toNat] := rfl
theorem lk_mout : ((lkC k).drop 65).take 1 = [.int .u64 k.m.out.toNat] := rfl
theorem lk_mleft : ((lkC k).drop 66).take 1 = [.int .i64 k.m.left] := rfl
theorem lk_sess : ((lkC k).drop 67).take 1 = [.int .i64 k.sess] := rfl
theorem me_len : (meC m).length = 3 := rfl
theorem me_cell : (meC m).all cell1 = true := rfl
theorem me_imm : (meC m).all imm1 = true := rfl
theorem set_m : setCells (lkC k) 64 (meC m) = lkC { k with m := m } := rfl
end

/-! Plain: a packet of IP passes. -/
theorem peerF_of {n : NgV} (hs : smallN n = true) (hz : n.ps = 2) : PeerF n := ⟨.inl hz, (cmp_small hs).p.1, (cmp_small hs).p.2⟩
theorem pass_res {k : LinkV} (hg : GoodK k) (ho : openB k = true) {f : FrV} (h : f.proto = 33) {M : List VO} {W' : WkV} (hR : HearR (beginM k M) f W') : doneK W' = { k with m := countM k.m f.d.length 0 } ∧ outW W' = .agg (outC (.sl true false 2 []) (.sl true false 1 []) zPk zOp ⟨false, false, 1, [.sl f.nl f.c f.sz (bv f.d)]⟩) := by
  cases hR with
  | lcp h1 _ _ => rw [h] at h1; exact absurd h1 (by decide)
  | chap h1 => rw [h] at h1; exact absurd h1 (by decide)
  | ipcp h1 _ _ => rw [h] at h1; exact absurd h1 (by decide)
  | other _ _ _ h4 => exact absurd h h4
  | ip _ =>
    have e : openB (beginM k M).k = true := ho
    unfold hearIpW
    rw [e]
    refine ⟨?_, rfl⟩
    show ({ k with m := countM k.m f.d.length 0, phase := phaseP k } : LinkV) = _
    rw [← hg.phase]
def ipF (b : List UInt8) (nl c : Bool) : FrV := ⟨33, nl, c, 1, b⟩
theorem c_pass {k : LinkV} (hg : GoodK k) (hfl : PeerF k.l) (hfn : PeerF k.n) (ho : openB k = true) (nl c : Bool) (b : List UInt8) (hb : b.length ≤ 1500) (σ : St) : VCalls Tryz.prog 41 [lkv k, .agg [.int .u16 33, .sl nl c 1 (bv b)]] σ fun r σ' => r = .tup [lkv { k with m := countM k.m b.length 0 }, .agg (outC (.sl true false 2 []) (.sl true false 1 []) zPk zOp ⟨false, false, 1, [.sl nl c 1 (bv b)]⟩)] ∧ σ' = σ := by
  refine (c_lhear k (ipF b nl c) rfl hb hg.l hg.n hfl hfn σ).mono ?_
  rintro r σ' ⟨⟨M, W', hR, rfl⟩, rfl⟩
  obtain ⟨h1, h2⟩ := pass_res hg ho rfl hR
  exact ⟨by rw [h1, h2]; rfl, rfl⟩
theorem count_in (m : MeterV) (n : Nat) : m.inn.toNat ≤ (countM m n 0).inn.toNat := by
  show _ ≤ (sumU _ _).toNat
  rw [sumU_nat]
  have := m.inn.toNat_lt
  omega
theorem count_out (m : MeterV) (n : Nat) : (countM m n 0).out.toNat = m.out.toNat := by
  show (sumU _ _).toNat = _
  rw [sumU_nat]
  have := m.out.toNat_lt
  omega

set_option maxHeartbeats 16000000 in
set_option maxRecDepth 20000 in
theorem c_linkPasses (k : LinkV) (hz : k.line.sz = 1) (h1 : k.l.ps = 2) (h2 : k.n.ps = 2) (nl c : Bool) (b : List UInt8) (σ : St) :
    VCalls Tryz.prog 9 [lkv k, .sl nl c 1 (bv b)] σ fun r σ' => r = .bool true ∧ σ' = σ := by
  refine vcalls_intro (C := cfg Tryz.prog [] [] []) (cfg_ok mixed) Tryz.func9 rfl rfl rfl rfl rfl ?_
  simp (maxSteps := 1000000) -implicitDefEqProofs only [go_sem, lkv, lk_len, lk_take, lk_cell, lk_imm, set_lk]
  refine vgo_call rfl rfl rfl rfl (c_shown18 σ) ?_
  simp (maxSteps := 1000000) -implicitDefEqProofs only [go_sem, lkv, lk_len, lk_take, lk_cell, lk_imm, set_lk]
  refine vgo_call rfl rfl rfl rfl (c_r18small k h1 h2 σ) ?_
  cases hs : smallK k
  · simp (maxSteps := 1000000) -implicitDefEqProofs only [go_sem, lkv, lk_len, lk_take, lk_cell, lk_imm, set_lk]
  have hsN : smallN k.l = true ∧ smallN k.n = true := by
    unfold smallK at hs
    simp only [Bool.and_eq_true] at hs
    exact ⟨hs.1.1.1, hs.1.1.2⟩
  have hf1 : few k.l.ours = true := by have := hsN.1; unfold smallN at this; simp only [Bool.and_eq_true] at this; exact this.1
  have hf2 : few k.n.ours = true := by have := hsN.2; unfold smallN at this; simp only [Bool.and_eq_true] at this; exact this.1
  have hL := fun σ => c_rright14 k.l hf1 σ
  have hN := fun σ => c_rright14 k.n hf2 σ
  have hb : k.line.b.length ≤ lim := by
    unfold smallK at hs
    simp only [Bool.and_eq_true, decide_eq_true_eq] at hs
    unfold lim
    omega
  simp (maxSteps := 1000000) -implicitDefEqProofs only [go_sem, lkv, lk_len, lk_take, lk_cell, lk_imm, set_lk]
  refine vgo_call rfl rfl rfl rfl (c_r18right1 k hz hL hN σ) ?_
  cases hr : rightK k
  · simp (maxSteps := 1000000) -implicitDefEqProofs only [go_sem, lkv, lk_len, lk_take, lk_cell, lk_imm, set_lk]
  have hg := goodK_of hs hr
  have n1 : (((1 : Nat) : Int) == 1) = true := rfl
  have n0 : (((0 : Nat) : Int) == 0) = true := rfl
  have hsm : VCalls Tryz.prog 16 [lkv { k with m := countM k.m b.length 0 }, lkv { k with m := countM k.m b.length 0 }] σ fun r σ' => r = .bool true ∧ σ' = σ := by
    have h := c_r18same { k with m := countM k.m b.length 0 } { k with m := countM k.m b.length 0 } ⟨.inl hz, .inl h1, .inl h2⟩ ⟨.inl hz, .inl h1, .inl h2⟩ hb (cmp_small hsN.1) (cmp_small hsN.2) σ
    rw [sameK_self] at h
    exact h
  have hpass := fun ho hl => c_pass hg (peerF_of hsN.1 h1) (peerF_of hsN.2 h2) ho nl c b hl σ
  have hin := count_in k.m b.length
  have hout := count_out k.m b.length
  have hleft : (countM k.m b.length 0).left = k.m.left := rfl
  generalize countM k.m b.length 0 = M1 at *
  unfold lkv at hsm hpass
  unfold lkC at hsm hpass
  unfold outC at hpass
  cases ql : decide ((1500 : Int) < (b.length : Int))
  · have hl : b.length ≤ 1500 := by simp only [decide_eq_false_iff_not] at ql; omega
    cases q1 : k.phase == 3
    · unfold lkC
      simp (maxSteps := 1000000) -implicitDefEqProofs only [go_sem, bv_length, ql, bne, q1]
    cases q2 : k.n.a.st == 9
    · unfold lkC
      simp (maxSteps := 1000000) -implicitDefEqProofs only [go_sem, bv_length, ql, bne, q1, q2]
    have ho : openB k = true := by unfold openB; rw [← hg.phase, q1, q2]; rfl
    have hpa := hpass ho hl
    unfold lkC
    simp (maxSteps := 1000000) -implicitDefEqProofs only [go_sem, bv_length, ql, bne, q1, q2]
    refine vgo_call rfl rfl rfl rfl hpa ?_
    have hrow := fun σ => c_row nl c nl c b b (by unfold lim; omega) σ
    have hd : decide (b = b) = true := by simp
    have e1 : decide (k.m.inn.toNat ≤ M1.inn.toNat) = true := by rw [decide_eq_true_eq]; exact hin
    have e2 : ((M1.out.toNat : Int) == (k.m.out.toNat : Int)) = true := by rw [hout]; simp
    have e3 : (M1.left == k.m.left) = true := by rw [hleft]; simp
    simp (maxSteps := 1000000) -implicitDefEqProofs only [go_sem, n1]
    repeat (refine ⟨by omega, ?_⟩)
    refine vgo_call rfl rfl rfl rfl (hrow _) ?_
    simp (maxSteps := 1000000) -implicitDefEqProofs only [go_sem, hd, n0]
    refine vgo_call rfl rfl rfl rfl hsm ?_
    simp (maxSteps := 1000000) -implicitDefEqProofs only [go_sem, e1, e2, e3]
  · simp (maxSteps := 1000000) -implicitDefEqProofs only [go_sem, bv_length, ql, lk_len, lk_take, lk_cell, lk_imm, set_lk]

end Go.VL

/- LinkPasses: at every link and every packet the law answers true, and leaves its arguments as they were. Conditions: none. -/
namespace Go.Proofs.YtonjofnphkghcaaGreatDoor
open Go.VL Go.ChangeShapes Go.WideShapes Go.RowKit

theorem linkPasses_calls (vs : List V) (h : argsV [shLink, shBytes] vs) : VCalls Tryz.prog 9 vs [] fun r _ => r = .bool true := by
  obtain ⟨c1, r1, rfl, h1, c2, r2, rfl, h2, rfl⟩ := h
  obtain ⟨k, rfl, hk⟩ := link_of h1
  obtain ⟨nl, b, rfl, _⟩ := bytes_of' h2
  exact (c_linkPasses k hk.z hk.l hk.n nl false b []).mono fun _ _ h => h.1

set_option maxRecDepth 100000 in
theorem linkPasses_lifted (os : Os) (started : os.Started) (H : Type) (enc : TypeId × Value → H) :
    ReturnsInHanded {} Tryz.checked os 9 .any (fun w args => (Rows.linkPassesSpec.pre enc Tryz.prog Tryz.f9 Rows.linkPassesRow.domain false w args ∧ laidMetH Tryz.prog laidL w) ∧ sizedMet enc Tryz.prog Tryz.f9 (OpenSpec.ofChange Rows.linkPassesSpec) false w args)
      (Rows.linkPassesSpec.post enc Tryz.prog Tryz.f9 false true false false) := by
  refine returnsInHanded_of_change_and (C := Tryz.checked) (X := fun w _ => laidMetH Tryz.prog laidL w) (fun _ _ _ hh h => h.of_heap hh) own started (by kernel_rfl) Tryz.func9
    (ChangeSpec.witness_shaped (enc := enc) (C := Tryz.checked) (os := os) (X := fun w _ => laidMetH Tryz.prog laidL w) false (World.laidAll Tryz.prog os laidL) #[.agg #[.int .i64 0, .slice none 0 0, .bool false, .int .i64 0, .int .i64 0, .int .i64 0, .int .u8 0, .bool false, .int .u32 0, .int .u32 0, .int .u32 0, .int .u32 0, .slice none 0 0, .int .i64 0, .slice none 0 0, .int .i64 0, .int .i64 0, .int .i64 0, .int .u8 0, .bool false, .int .u32 0, .int .u32 0, .int .u32 0, .int .u32 0, .slice none 0 0, .int .i64 0, .slice none 0 0, .int .i64 0, .int .i64 0, .int .i64 0, .int .u8 0, .int .u8 0, .int .u8 0, .int .u8 0, .int .u8 0, .int .u8 0, .int .u8 0, .int .u8 0, .int .u8 0, .int .u8 0, .int .u8 0, .int .u8 0, .int .u8 0, .int .u8 0, .int .u8 0, .int .u8 0, .int .u8 0, .string ⟨#[]⟩, .int .u8 0, .int .u8 0, .int .u8 0, .int .u8 0, .int .u8 0, .int .u8 0, .int .u8 0, .int .u8 0, .int .u8 0, .int .u8 0, .int .u8 0, .int .u8 0, .int .u8 0, .int .u8 0, .int .u8 0, .int .u8 0, .int .u64 0, .int .u64 0, .int .i64 0, .int .i64 0, .int .u32 0], .slice none 0 0] 8 (World.laidAll_os _ _ _)
      (World.shaped_of_ZipB (by kernel_rfl) (by kernel_rfl)) (by kernel_rfl) (by kernel_rfl) (by kernel_rfl)
      (by rw [MakeChecks.laidMetH_plain _ _ _ (by kernel_rfl)]; exact laidMet_laidAll _ (by kernel_rfl) (by kernel_rfl))) ?_
  intro W base args ds gs before hval0 hW hcnd hsz0 hL _
  have hW' := hW
  obtain ⟨p, q, hA0, hV, rfl, hfz, hnd⟩ := hW
  obtain ⟨rfl, rfl⟩ := trodVars_none hV
  have hval : ∀ (j : Nat) t v, (Tryz.f9.params.toList)[j]? = some t → args.toList[j]? = some v → Value.okWide Tryz.prog W .any base t v := fun j t v h1 h2 => hval0 j t v (by simpa using h1) (by simpa using h2)
  refine (law_calls_g (ss := [shLink, shBytes]) (by kernel_rfl) linkPasses_calls (glo_of hL) hval hA0 hsz0).mono fun e W' ⟨he, bel⟩ => ?_
  subst he
  have hb := again_of' laidOut bel (by kernel_rfl) hA0
  obtain ⟨v0, vs0, d0, ds0, p0, q0, e0a, rfl, e0b, h0, r0⟩ := trodAll_cons (show DataW.TrodAll enc Tryz.prog W 0 (fun _ => true) true [40, 22] args.toList ds p from hA0)
  obtain ⟨v1, vs1, d1, ds1, p1, q1, e1a, rfl, e1b, h1, r1⟩ := trodAll_cons r0
  obtain ⟨_, rfl, _⟩ := trodAll_nil r1
  exact ⟨_, rfl, _, _, _, [], _, [], hW', trodAll_mk1 (shut_bool Tryz.underlying4 _), hb, rfl, bel.frame _, fun h => by cases h⟩

theorem linkPasses_holds : Rows.LinkPassesSaid :=
  OpenClaim.holds_of_wide 9 Tryz.f9 rfl rfl rfl rfl rfl rfl rfl ⟨rfl, rfl, rfl, rfl, rfl⟩ rfl rfl rfl rfl rfl (by kernel_rfl) Tryz.func9 (by kernel_rfl)
    (of_decide_eq_true (by kernel_rfl)) (by unfold Func.isWrapper; first | (rw [if_pos (by decide +kernel)]; kernel_rfl) | (rw [if_neg (by decide +kernel)]; exact ⟨rfl, rfl⟩))
    (fun os started H enc _ => linkPasses_lifted os started H enc)
theorem linkPasses_card : Rows.LinkPassesCardSaid :=
  Claim7.holds_tied_plain_at .later [] [.listed, .data] true (true, "c0a8c998641c89cad588d90fec08d04a5e256d923978a8ee92bd971b1ad12cd0") false
    linkPasses_holds (fun _ h => by cases h) (by kernel_rfl) (fun _ h => by cases h) linkPasses_row_tie rfl ⟨rfl, rfl⟩ (by kernel_rfl) rfl
    (fun f fn hf hfn => by
      obtain rfl : f = 9 := Option.some.inj ((show Tryz.prog.funcNamed "portreeve/portreevelaw18.LinkPasses" = some 9 by kernel_rfl).symm.trans hf) |>.symm
      obtain rfl : fn = Tryz.f9 := (Option.some.inj (Tryz.func9.symm.trans hfn)).symm
      exact ⟨by kernel_rfl, fun j t ht => by
        have ht : (#[40, 22] : Array TypeId)[j]? = some t := ht
        have hm : t ∈ [40, 22] := by simpa using Array.mem_of_getElem? ht
        have hall : ([40, 22].all fun u => !Tryz.prog.wantsStandIn u) = true := by kernel_rfl
        exact (show Tryz.prog.wantsStandIn t = false by simpa using List.all_eq_true.1 hall t hm)⟩)
    (by kernel_rfl)
#print axioms linkPasses_holds
#print axioms linkPasses_card

end Go.Proofs.YtonjofnphkghcaaGreatDoor
