/- LinkSilent: at every link and every frame the law answers true, and leaves its arguments as they were. Conditions: none. -/
import Derived.Test.YtonjofnphkghcaaGreatDoorSSo
import Derived.Test.YtonjofnphkghcaaGreatDoorSSx
set_option linter.unusedVariables false
set_option linter.unusedSimpArgs false
/- LinkPasses' law. Conditions: none. -/
namespace Go.VL
open Go.Proofs

/-! More of a link's cells. -/
section
variable (k : LinkV) (m : MeterV)
theorem lk_ph : (lkC k).take 1 = [.int .i64 k.phase] := rfl
theorem lk_lst : ((lkC k).drop 3).take 1 = [.int .i64 k.l.a.st] := rfl
theorem lk_nst : ((lkC k).drop 15).take 1 = [.int .i64 k.n.a.st] := rfl
theorem lk_m : ((lkC k).drop 64).take 3 = meC k.m := rfl
theorem lk_min : ((lkC k).drop 64).take 1 = [.int .u64 k.m.inn.toNat] := rfl
theorem lk_mout : ((lkC k).drop 65).take 1 = [.int .u64 k.m.out.toNat] := rfl
theorem lk_mleft : ((lkC k).drop 66).take 1 = [.int .i64 k.m.left] := rfl
theorem lk_sess : ((lkC k).drop 67).take 1 = [.int .i64 k.sess] := rfl
theorem me_len : (meC m).length = 3 := rfl
theorem me_cell : (meC m).all cell1 = true := rfl
theorem me_imm : (meC m).all imm1 = true := rfl
theorem set_m : setCells (lkC k) 64 (meC m) = lkC { k with m := m } := rfl
end

/-! Plain: a packet of IP passes. -/
theorem peerF_of {n : NgV} (hs : smallN n = true) (hz : n.ps = 2) : PeerF n := ⟨.inl hz, (cmp_small hs).p.1, (cmp_small hs).p.2⟩
theorem pass_res {k : LinkV} (hg : GoodK k) (ho : openB k = true) {f : FrV} (h : f.proto = 33) {M : List VO} {W' : WkV} (hR : HearR (beginM k M) f W') : doneK W' = { k with m := countM k.m f.d.length 0 } ∧ outW W' = .agg (outC (.sl true false 2 []) (.sl true false 1 []) zPk zOp ⟨false, false, 1, [.sl f.nl f.c f.sz (bv f.d)]⟩) := by
  cases hR with
  | lcp h1 _ _ => rw [h] at h1; exact absurd h1 (by decide)
  | chap h1 => rw [h] at h1; exact absurd h1 (by decide)
  | ipcp h1 _ _ => rw [h] at h1; exact absurd h1 (by decide)
  | other _ _ _ h4 => exact absurd h h4
  | ip _ =>
    have e : openB (beginM k M).k = true := ho
    unfold hearIpW
    rw [e]
    refine ⟨?_, rfl⟩
    show ({ k with m := countM k.m f.d.length 0, phase := phaseP k } : LinkV) = _
    rw [← hg.phase]
def ipF (b : List UInt8) (nl c : Bool) : FrV := ⟨33, nl, c, 1, b⟩
theorem c_pass {k : LinkV} (hg : GoodK k) (hfl : PeerF k.l) (hfn : PeerF k.n) (ho : openB k = true) (nl c : Bool) (b : List UInt8) (hb : b.length ≤ 1500) (σ : St) : VCalls Tryz.prog 41 [lkv k, .agg [.int .u16 33, .sl nl c 1 (bv b)]] σ fun r σ' => r = .tup [lkv { k with m := countM k.m b.length 0 }, .agg (outC (.sl true false 2 []) (.sl true false 1 []) zPk zOp ⟨false, false, 1, [.sl nl c 1 (bv b)]⟩)] ∧ σ' = σ := by
  refine (c_lhear k (ipF b nl c) rfl hb hg.l hg.n hfl hfn σ).mono ?_
  rintro r σ' ⟨⟨M, W', hR, rfl⟩, rfl⟩
  obtain ⟨h1, h2⟩ := pass_res hg ho rfl hR
  exact ⟨by rw [h1, h2]; rfl, rfl⟩
theorem count_in (m : MeterV) (n : Nat) : m.inn.toNat ≤ (countM m n 0).inn.toNat := by
  show _ ≤ (sumU _ _).toNat
  rw [sumU_nat]
  have := m.inn.toNat_lt
  omega
theorem count_out (m : MeterV) (n : Nat) : (countM m n 0).out.toNat = m.out.toNat := by
  show (sumU _ _).toNat = _
  rw [sumU_nat]
  have := m.out.toNat_lt
  omega

set_option maxHeartbeats 16000000 in
set_option maxRecDepth 20000 in
theorem c_linkPasses (k : LinkV) (hz : k.line.sz = 1) (h1 : k.l.ps = 2) (h2 : k.n.ps = 2) (nl c : Bool) (b : List UInt8) (σ : St) :
    VCalls Tryz.prog 9 [lkv k, .sl nl c 1 (bv b)] σ fun r σ' => r = .bool true ∧ σ' = σ := by
  refine vcalls_intro (C := cfg Tryz.prog [] [] []) (cfg_ok mixed) Tryz.func9 rfl rfl rfl rfl rfl ?_
  simp (maxSteps := 1000000) -implicitDefEqProofs only [go_sem, lkv, lk_len, lk_take, lk_cell, lk_imm, set_lk]
  refine vgo_call rfl rfl rfl rfl (c_shown18 σ) ?_
  simp (maxSteps := 1000000) -implicitDefEqProofs only [go_sem, lkv, lk_len, lk_take, lk_cell, lk_imm, set_lk]
  refine vgo_call rfl rfl rfl rfl (c_r18small k h1 h2 σ) ?_
  cases hs : smallK k
  · simp (maxSteps := 1000000) -implicitDefEqProofs only [go_sem, lkv, lk_len, lk_take, lk_cell, lk_imm, set_lk]
  have hsN : smallN k.l = true ∧ smallN k.n = true := by
    unfold smallK at hs
    simp only [Bool.and_eq_true] at hs
    exact ⟨hs.1.1.1, hs.1.1.2⟩
  have hf1 : few k.l.ours = true := by have := hsN.1; unfold smallN at this; simp only [Bool.and_eq_true] at this; exact this.1
  have hf2 : few k.n.ours = true := by have := hsN.2; unfold smallN at this; simp only [Bool.and_eq_true] at this; exact this.1
  have hL := fun σ => c_rright14 k.l hf1 σ
  have hN := fun σ => c_rright14 k.n hf2 σ
  have hb : k.line.b.length ≤ lim := by
    unfold smallK at hs
    simp only [Bool.and_eq_true, decide_eq_true_eq] at hs
    unfold lim
    omega
  simp (maxSteps := 1000000) -implicitDefEqProofs only [go_sem, lkv, lk_len, lk_take, lk_cell, lk_imm, set_lk]
  refine vgo_call rfl rfl rfl rfl (c_r18right1 k hz hL hN σ) ?_
  cases hr : rightK k
  · simp (maxSteps := 1000000) -implicitDefEqProofs only [go_sem, lkv, lk_len, lk_take, lk_cell, lk_imm, set_lk]
  have hg := goodK_of hs hr
  have n1 : (((1 : Nat) : Int) == 1) = true := rfl
  have n0 : (((0 : Nat) : Int) == 0) = true := rfl
  have hsm : VCalls Tryz.prog 16 [lkv { k with m := countM k.m b.length 0 }, lkv { k with m := countM k.m b.length 0 }] σ fun r σ' => r = .bool true ∧ σ' = σ := by
    have h := c_r18same { k with m := countM k.m b.length 0 } { k with m := countM k.m b.length 0 } ⟨.inl hz, .inl h1, .inl h2⟩ ⟨.inl hz, .inl h1, .inl h2⟩ hb (cmp_small hsN.1) (cmp_small hsN.2) σ
    rw [sameK_self] at h
    exact h
  have hpass := fun ho hl => c_pass hg (peerF_of hsN.1 h1) (peerF_of hsN.2 h2) ho nl c b hl σ
  have hin := count_in k.m b.length
  have hout := count_out k.m b.length
  have hleft : (countM k.m b.length 0).left = k.m.left := rfl
  generalize countM k.m b.length 0 = M1 at *
  unfold lkv at hsm hpass
  unfold lkC at hsm hpass
  unfold outC at hpass
  cases ql : decide ((1500 : Int) < (b.length : Int))
  · have hl : b.length ≤ 1500 := by simp only [decide_eq_false_iff_not] at ql; omega
    cases q1 : k.phase == 3
    · unfold lkC
      simp (maxSteps := 1000000) -implicitDefEqProofs only [go_sem, bv_length, ql, bne, q1]
    cases q2 : k.n.a.st == 9
    · unfold lkC
      simp (maxSteps := 1000000) -implicitDefEqProofs only [go_sem, bv_length, ql, bne, q1, q2]
    have ho : openB k = true := by unfold openB; rw [← hg.phase, q1, q2]; rfl
    have hpa := hpass ho hl
    unfold lkC
    simp (maxSteps := 1000000) -implicitDefEqProofs only [go_sem, bv_length, ql, bne, q1, q2]
    refine vgo_call rfl rfl rfl rfl hpa ?_
    have hrow := fun σ => c_row nl c nl c b b (by unfold lim; omega) σ
    have hd : decide (b = b) = true := by simp
    have e1 : decide (k.m.inn.toNat ≤ M1.inn.toNat) = true := by rw [decide_eq_true_eq]; exact hin
    have e2 : ((M1.out.toNat : Int) == (k.m.out.toNat : Int)) = true := by rw [hout]; simp
    have e3 : (M1.left == k.m.left) = true := by rw [hleft]; simp
    simp (maxSteps := 1000000) -implicitDefEqProofs only [go_sem, n1]
    repeat (refine ⟨by omega, ?_⟩)
    refine vgo_call rfl rfl rfl rfl (hrow _) ?_
    simp (maxSteps := 1000000) -implicitDefEqProofs only [go_sem, hd, n0]
    refine vgo_call rfl rfl rfl rfl hsm ?_
    simp (maxSteps := 1000000) -implicitDefEqProofs only [go_sem, e1, e2, e3]
  · simp (maxSteps := 1000000) -implicitDefEqProofs only [go_sem, bv_length, ql, lk_len, lk_take, lk_cell, lk_imm, set_lk]

end Go.VL

/- LinkSilent's law. Conditions: none. -/
namespace Go.VL
open Go.Proofs

/-! Plain: what a frame does, phase by phase. -/
def knownF (f : FrV) : Prop := f.proto = 49185 ∨ f.proto = 49699 ∨ f.proto = 32801 ∨ f.proto = 33
inductive SilR (k : LinkV) (f : FrV) : LinkV → WkV → Prop
  | calm (W : WkV) (hs : W.sent = []) (hw : W.want = []) (hi : W.ip.es = []) (h : knownF f ∨ k.l.a.st ≠ 9) : SilR k f k W
  | chap (W : WkV) (h : f.proto = 49699) (hp : k.phase = 2) (hs : W.sent = []) (hw : W.want = [2]) : SilR k f k W
  | net (m : LinkV) (W : WkV) (h : f.proto = 32801 ∨ f.proto = 33) (hp : k.phase = 3) : SilR k f m W
  | lcp (m : LinkV) (W : WkV) (h : f.proto = 49185) (hi : W.ip.es = []) : SilR k f m W
  | rej (W : WkV) (h : ¬ knownF f) (h9 : k.l.a.st = 9) (hs : W.sent = [frmOf 49185 (refuseP f k.l.a.id)]) : SilR k f k W
theorem done_m {k : LinkV} (hg : GoodK k) (W : WkV) (h : W.k = k) : doneK W = k := by
  show ({ W.k with phase := phaseP W.k } : LinkV) = k
  rw [h, ← hg.phase]
theorem sil_of {k : LinkV} (hg : GoodK k) {f : FrV} {M : List VO} {W : WkV} (hR : HearR (beginM k M) f W) : SilR k f (doneK W) W := by
  have hb : doneK (beginM k M) = k := done_m hg _ rfl
  have hcalm : knownF f ∨ k.l.a.st ≠ 9 → SilR k f (doneK (beginM k M)) (beginM k M) := fun h => by
    rw [hb]
    exact .calm _ rfl rfl rfl h
  cases hR with
  | lcp h W' hr =>
    cases hr with
    | no => exact hcalm (.inl (.inl h))
    | yes p m os ts hp ht hs =>
      refine .lcp _ _ h ?_
      rw [(lcp_l _ _ _ _).2.2.2.1]
      rfl
  | chap h =>
    have hk : knownF f := .inr (.inl h)
    unfold hearChapW
    split
    · rename_i p _
      cases q : (p.code == 2) && (phaseP (beginM k M).k == 2)
      · exact hcalm (.inl hk)
      · simp only [Bool.and_eq_true, beq_iff_eq] at q
        have e : doneK { wantW (beginM k M) 2 with p := p } = k := done_m hg _ rfl
        show SilR k f (doneK { wantW (beginM k M) 2 with p := p }) _
        rw [e]
        exact .chap _ h (hg.phase.trans q.2) rfl rfl
    · exact hcalm (.inl hk)
  | ipcp h W' hr =>
    cases hr with
    | no => exact hcalm (.inl (.inr (.inr (.inl h))))
    | yes p m os ts h3 hp ht hs => exact .net _ _ (.inl h) (hg.phase.trans h3)
  | ip h =>
    unfold hearIpW
    cases ho : openB (beginM k M).k
    · exact hcalm (.inl (.inr (.inr (.inr h))))
    · unfold openB at ho
      simp only [Bool.and_eq_true, beq_iff_eq] at ho
      exact .net _ _ (.inr h) (hg.phase.trans ho.1)
  | other h1 h2 h3 h4 =>
    have hk : ¬ knownF f := fun h => by
      rcases h with h | h | h | h
      · exact h1 h
      · exact h2 h
      · exact h3 h
      · exact h4 h
    cases q : (beginM k M).k.l.a.st == 9
    · exact hcalm (.inr (fun h => by rw [show (beginM k M).k = k from rfl, h] at q; cases q))
    · have e : doneK (sendW (beginM k M) 49185 [refuseP f (beginM k M).k.l.a.id]) = k := done_m hg _ rfl
      show SilR k f (doneK (sendW (beginM k M) 49185 [refuseP f (beginM k M).k.l.a.id])) _
      rw [e]
      exact .rej _ hk (by have q' : (k.l.a.st == 9) = true := q; simpa using q') rfl
theorem refuse_bytes (f : FrV) (id : UInt8) : ∃ r, pkB (refuseP f id) = 8 :: r ∧ 5 < (8 :: r).length := by
  refine ⟨_, rfl, ?_⟩
  show 5 < (pkB (refuseP f id)).length
  unfold pkB
  simp only [List.length_append, List.length_cons, List.length_nil]
  show 5 < _ + (shortB (hiLo f.proto ++ f.d)).length
  unfold shortB hiLo
  simp only [List.length_take, List.length_append, List.length_cons, List.length_nil]
  omega

theorem c_rproto (p : UInt16) (σ : St) : VCalls Tryz.prog 40 [.int .u16 p.toNat] σ fun r σ' => (∃ b, r = .bool b) ∧ σ' = σ := by
  refine vcalls_intro (C := cfg Tryz.prog [] [] []) (cfg_ok mixed) Tryz.func40 rfl rfl rfl rfl rfl ?_
  simp (maxSteps := 1000000) -implicitDefEqProofs only [go_sem]
  cases q1 : ((p.toNat : Int).tmod 2 == 1)
  · simp (maxSteps := 1000000) -implicitDefEqProofs only [go_sem, bne]
    exact ⟨_, rfl⟩
  · simp (maxSteps := 1000000) -implicitDefEqProofs only [go_sem, bne]
    cases q2 : ((IntKind.u16.wrap ((p.toNat : Int).tdiv 256)).tmod 2 == 0)
    · simp (maxSteps := 1000000) -implicitDefEqProofs only [go_sem, bne, q2]
      exact ⟨_, rfl⟩
    · simp (maxSteps := 1000000) -implicitDefEqProofs only [go_sem, bne, q2]
      exact ⟨_, rfl⟩

set_option maxHeartbeats 16000000 in
set_option maxRecDepth 20000 in
theorem c_linkSilent (k : LinkV) (hz : k.line.sz = 1) (h1 : k.l.ps = 2) (h2 : k.n.ps = 2) (f : FrV) (hfz : f.sz = 1) (σ : St) :
    VCalls Tryz.prog 8 [lkv k, frv f] σ fun r σ' => r = .bool true ∧ σ' = σ := by
  refine vcalls_intro (C := cfg Tryz.prog [] [] []) (cfg_ok mixed) Tryz.func8 rfl rfl rfl rfl rfl ?_
  simp (maxSteps := 1000000) -implicitDefEqProofs only [go_sem, lkv, frv, frC, lk_len, lk_take, lk_cell, lk_imm, set_lk]
  refine vgo_call rfl rfl rfl rfl (c_shown18 σ) ?_
  simp (maxSteps := 1000000) -implicitDefEqProofs only [go_sem, lkv, lk_len, lk_take, lk_cell, lk_imm, set_lk]
  refine vgo_call rfl rfl rfl rfl (c_r18small k h1 h2 σ) ?_
  cases hs : smallK k
  · simp (maxSteps := 1000000) -implicitDefEqProofs only [go_sem, lkv, lk_len, lk_take, lk_cell, lk_imm, set_lk]
  have hsN : smallN k.l = true ∧ smallN k.n = true := by
    unfold smallK at hs
    simp only [Bool.and_eq_true] at hs
    exact ⟨hs.1.1.1, hs.1.1.2⟩
  have hf1 : few k.l.ours = true := by have := hsN.1; unfold smallN at this; simp only [Bool.and_eq_true] at this; exact this.1
  have hf2 : few k.n.ours = true := by have := hsN.2; unfold smallN at this; simp only [Bool.and_eq_true] at this; exact this.1
  have hL := fun σ => c_rright14 k.l hf1 σ
  have hN := fun σ => c_rright14 k.n hf2 σ
  have hb : k.line.b.length ≤ lim := by
    unfold smallK at hs
    simp only [Bool.and_eq_true, decide_eq_true_eq] at hs
    unfold lim
    omega
  simp (maxSteps := 1000000) -implicitDefEqProofs only [go_sem, lkv, lk_len, lk_take, lk_cell, lk_imm, set_lk]
  refine vgo_call rfl rfl rfl rfl (c_r18right1 k hz hL hN σ) ?_
  cases hr : rightK k
  · simp (maxSteps := 1000000) -implicitDefEqProofs only [go_sem, lkv, lk_len, lk_take, lk_cell, lk_imm, set_lk]
  have hg := goodK_of hs hr
  simp (maxSteps := 1000000) -implicitDefEqProofs only [go_sem, lkv, lk_len, lk_take, lk_cell, lk_imm, set_lk]
  refine vgo_call' rfl rfl rfl (c_rproto f.proto σ) ?_
  rintro r σ' ⟨⟨pb, rfl⟩, hσ⟩
  have hσ := hσ.symm
  subst hσ
  refine ⟨rfl, ?_⟩
  cases pb
  · simp (maxSteps := 1000000) -implicitDefEqProofs only [go_sem, lkv, lk_len, lk_take, lk_cell, lk_imm, set_lk]
  simp (maxSteps := 1000000) -implicitDefEqProofs only [go_sem, bv_length]
  cases ql : decide ((1500 : Int) < (f.d.length : Int))
  · have hl : f.d.length ≤ 1500 := by simp only [decide_eq_false_iff_not] at ql; omega
    have hfl := peerF_of hsN.1 h1
    have hfn := peerF_of hsN.2 h2
    have hh := c_lhear k f hfz hl hg.l hg.n hfl hfn σ
    unfold lkv frv frC at hh
    simp (maxSteps := 1000000) -implicitDefEqProofs only [go_sem, lk_len, lk_take, lk_cell, lk_imm, set_lk]
    refine vgo_call' rfl rfl rfl hh ?_
    rintro r σ' ⟨⟨M, W, hR, rfl⟩, hσ⟩
    have hσ := hσ.symm
    subst hσ
    refine ⟨rfl, ?_⟩
    have hK := keep_hear (keep_begin hg hfl hfn M) hl hR
    have hsm := c_r18same (doneK W) k ⟨by show LnOK W.k.line; rw [hK.line]; exact .inl hz, hK.fl.ok, hK.fn.ok⟩ ⟨.inl hz, .inl h1, .inl h2⟩ (by show W.k.line.b.length ≤ lim; rw [hK.line]; exact hb) (hK.fl.cmp hK.l) (hK.fn.cmp hK.n) σ
    have hS := sil_of hg hR
    have hself := sameK_self k
    clear hh hR hK
    generalize doneK W = m at *
    unfold outW outC
    simp (maxSteps := 1000000) -implicitDefEqProofs only [go_sem, lk_len, lk_take, lk_cell, lk_imm, set_lk]
    unfold lkv at hsm
    unfold lkC at hsm ⊢
    have n0 : (((0 : Nat) : Int) == 0) = true := rfl
    have n1 : (((1 : Nat) : Int) == 1) = true := rfl
    have n10 : (((1 : Nat) : Int) == 0) = false := rfl
    have fl0 : (frs ([] : List FrV)).length = 0 := rfl
    have zl0 : (zv64 ([] : List Int)).length = 0 := rfl
    have zl1 : (zv64 [(2 : Int)]).length = 1 := rfl
    have il0 : ([] : List V).length = 0 := rfl
    cases hS with
    | calm W hs hw hi h =>
      rw [hself] at hsm
      simp (maxSteps := 1000000) -implicitDefEqProofs only [go_sem, hs, hw, hi, fl0, zl0, il0, n0]
      refine vgo_call rfl rfl rfl rfl hsm ?_
      simp (maxSteps := 1000000) -implicitDefEqProofs only [go_sem]
      cases p1 : (f.proto.toNat : Int) == 49699
      · simp (maxSteps := 1000000) -implicitDefEqProofs only [go_sem, p1]
        cases p2 : (f.proto.toNat : Int) == 32801
        · simp (maxSteps := 1000000) -implicitDefEqProofs only [go_sem, p2]
          cases p3 : (f.proto.toNat : Int) == 33
          · simp (maxSteps := 1000000) -implicitDefEqProofs only [go_sem, p3]
            cases p4 : (f.proto.toNat : Int) == 49185
            · have h9 : (k.l.a.st == 9) = false := by
                rcases h with h | h
                · exfalso
                  rcases h with h | h | h | h
                  · rw [h] at p4; cases p4
                  · rw [h] at p1; cases p1
                  · rw [h] at p2; cases p2
                  · rw [h] at p3; cases p3
                · simpa using h
              simp (maxSteps := 1000000) -implicitDefEqProofs only [go_sem, p4, h9, bne]
            · simp (maxSteps := 1000000) -implicitDefEqProofs only [go_sem, p4, hi, il0, n0]
          · simp (maxSteps := 1000000) -implicitDefEqProofs only [go_sem, p3]
            cases q3 : k.phase == 3
            · simp (maxSteps := 1000000) -implicitDefEqProofs only [go_sem, q3]
            · simp (maxSteps := 1000000) -implicitDefEqProofs only [go_sem, q3]
        · simp (maxSteps := 1000000) -implicitDefEqProofs only [go_sem, p2]
          cases q3 : k.phase == 3
          · simp (maxSteps := 1000000) -implicitDefEqProofs only [go_sem, q3]
          · simp (maxSteps := 1000000) -implicitDefEqProofs only [go_sem, q3]
      · simp (maxSteps := 1000000) -implicitDefEqProofs only [go_sem, p1]
        cases q2 : k.phase == 2
        · simp (maxSteps := 1000000) -implicitDefEqProofs only [go_sem, q2]
          refine vgo_call rfl rfl rfl rfl hsm ?_
          simp (maxSteps := 1000000) -implicitDefEqProofs only [go_sem, hs, fl0, n0]
        · simp (maxSteps := 1000000) -implicitDefEqProofs only [go_sem, q2]
          refine vgo_call rfl rfl rfl rfl hsm ?_
          simp (maxSteps := 1000000) -implicitDefEqProofs only [go_sem, hs, fl0, n0]
    | chap W h hp hs hw =>
      rw [hself] at hsm
      have p1 : ((f.proto.toNat : Int) == 49699) = true := by rw [h]; rfl
      have q2 : (k.phase == 2) = true := by rw [hp]; rfl
      simp (maxSteps := 1000000) -implicitDefEqProofs only [go_sem, hs, hw, fl0, zl1, n0, n10, p1, q2]
      refine vgo_call rfl rfl rfl rfl hsm ?_
      simp (maxSteps := 1000000) -implicitDefEqProofs only [go_sem, hs, fl0, n0]
    | net m W h hp =>
      have p1 : ((f.proto.toNat : Int) == 49699) = false := by rcases h with h | h <;> (rw [h]; rfl)
      have q3 : (k.phase == 3) = true := by rw [hp]; rfl
      rcases h with h | h
      · have p2 : ((f.proto.toNat : Int) == 32801) = true := by rw [h]; rfl
        cases a1 : ((frs W.sent).length : Int) == 0
        · simp (maxSteps := 1000000) -implicitDefEqProofs only [go_sem, a1, p1, p2, q3]
        cases a2 : ((zv64 W.want).length : Int) == 0
        · simp (maxSteps := 1000000) -implicitDefEqProofs only [go_sem, a1, a2, p1, p2, q3]
        cases a3 : (W.ip.es.length : Int) == 0
        · simp (maxSteps := 1000000) -implicitDefEqProofs only [go_sem, a1, a2, a3, p1, p2, q3]
        simp (maxSteps := 1000000) -implicitDefEqProofs only [go_sem, a1, a2, a3, p1, p2, q3]
        refine vgo_call rfl rfl rfl rfl hsm ?_
        simp (maxSteps := 1000000) -implicitDefEqProofs only [go_sem, p1, p2, q3]
      · have p2 : ((f.proto.toNat : Int) == 32801) = false := by rw [h]; rfl
        have p3 : ((f.proto.toNat : Int) == 33) = true := by rw [h]; rfl
        cases a1 : ((frs W.sent).length : Int) == 0
        · simp (maxSteps := 1000000) -implicitDefEqProofs only [go_sem, a1, p1, p2, p3, q3]
        cases a2 : ((zv64 W.want).length : Int) == 0
        · simp (maxSteps := 1000000) -implicitDefEqProofs only [go_sem, a1, a2, p1, p2, p3, q3]
        cases a3 : (W.ip.es.length : Int) == 0
        · simp (maxSteps := 1000000) -implicitDefEqProofs only [go_sem, a1, a2, a3, p1, p2, p3, q3]
        simp (maxSteps := 1000000) -implicitDefEqProofs only [go_sem, a1, a2, a3, p1, p2, p3, q3]
        refine vgo_call rfl rfl rfl rfl hsm ?_
        simp (maxSteps := 1000000) -implicitDefEqProofs only [go_sem, p1, p2, p3, q3]
    | lcp m W h hi =>
      have p1 : ((f.proto.toNat : Int) == 49699) = false := by rw [h]; rfl
      have p2 : ((f.proto.toNat : Int) == 32801) = false := by rw [h]; rfl
      have p3 : ((f.proto.toNat : Int) == 33) = false := by rw [h]; rfl
      have p4 : ((f.proto.toNat : Int) == 49185) = true := by rw [h]; rfl
      cases a1 : ((frs W.sent).length : Int) == 0
      · simp (maxSteps := 1000000) -implicitDefEqProofs only [go_sem, a1, hi, il0, n0, p1, p2, p3, p4]
      cases a2 : ((zv64 W.want).length : Int) == 0
      · simp (maxSteps := 1000000) -implicitDefEqProofs only [go_sem, a1, a2, hi, il0, n0, p1, p2, p3, p4]
      simp (maxSteps := 1000000) -implicitDefEqProofs only [go_sem, a1, a2, hi, il0, n0, p1, p2, p3, p4]
      refine vgo_call rfl rfl rfl rfl hsm ?_
      simp (maxSteps := 1000000) -implicitDefEqProofs only [go_sem, hi, il0, n0, p1, p2, p3, p4]
    | rej W h h9 hs =>
      rw [hself] at hsm
      have pn : ∀ y : UInt16, f.proto ≠ y → ((f.proto.toNat : Int) == (y.toNat : Int)) = false := fun y hy => by
        rw [beq_eq_false_iff_ne]
        intro e
        exact hy (UInt16.toNat_inj.1 (by omega))
      have p1 : ((f.proto.toNat : Int) == 49699) = false := pn 49699 fun e => h (.inr (.inl e))
      have p2 : ((f.proto.toNat : Int) == 32801) = false := pn 32801 fun e => h (.inr (.inr (.inl e)))
      have p3 : ((f.proto.toNat : Int) == 33) = false := pn 33 fun e => h (.inr (.inr (.inr e)))
      have p4 : ((f.proto.toNat : Int) == 49185) = false := pn 49185 fun e => h (.inl e)
      have q9 : (k.l.a.st == 9) = true := by rw [h9]; rfl
      obtain ⟨r, hr8, hl5⟩ := refuse_bytes f k.l.a.id
      have hfs : frs W.sent = [.agg [.int .u16 49185, .sl false false 1 (.int .u8 8 :: bv r)]] := by
        rw [hs]
        show [frv (frmOf 49185 (refuseP f k.l.a.id))] = _
        unfold frv frC frmOf
        rw [hr8]
        rfl
      have he : W.sent.isEmpty = false := by rw [hs]; rfl
      have b5 : decide ((5 : Int) < (((bv r).length + 1 : Nat) : Int)) = true := by
        rw [decide_eq_true_eq, bv_length]
        simp only [List.length_cons] at hl5
        omega
      simp (maxSteps := 1000000) -implicitDefEqProofs only [go_sem, hfs, he, n1, n10, p1, p2, p3, p4, q9, bne, b5]
      repeat (refine ⟨by omega, ?_⟩)
      refine vgo_call rfl rfl rfl rfl hsm ?_
      simp (maxSteps := 1000000) -implicitDefEqProofs only [go_sem]
  · simp (maxSteps := 1000000) -implicitDefEqProofs only [go_sem, lkv, lk_len, lk_take, lk_cell, lk_imm, set_lk]

end Go.VL

/- LinkSilent: at every link and every frame the law answers true, and leaves its arguments as they were. Conditions: none. -/
namespace Go.Proofs.YtonjofnphkghcaaGreatDoor
open Go.VL Go.ChangeShapes Go.WideShapes Go.RowKit

theorem linkSilent_calls (vs : List V) (h : argsV [shLink, shFrame] vs) : VCalls Tryz.prog 8 vs [] fun r _ => r = .bool true := by
  obtain ⟨c1, r1, rfl, h1, c2, r2, rfl, h2, rfl⟩ := h
  obtain ⟨k, rfl, hk⟩ := link_of h1
  obtain ⟨f, rfl, hf, _⟩ := frame_of h2
  exact (c_linkSilent k hk.z hk.l hk.n f hf []).mono fun _ _ h => h.1

set_option maxRecDepth 100000 in
theorem linkSilent_lifted (os : Os) (started : os.Started) (H : Type) (enc : TypeId × Value → H) :
    ReturnsInHanded {} Tryz.checked os 8 .any (fun w args => (Rows.linkSilentSpec.pre enc Tryz.prog Tryz.f8 Rows.linkSilentRow.domain false w args ∧ laidMetH Tryz.prog laidL w) ∧ sizedMet enc Tryz.prog Tryz.f8 (OpenSpec.ofChange Rows.linkSilentSpec) false w args)
      (Rows.linkSilentSpec.post enc Tryz.prog Tryz.f8 false true false false) := by
  refine returnsInHanded_of_change_and (C := Tryz.checked) (X := fun w _ => laidMetH Tryz.prog laidL w) (fun _ _ _ hh h => h.of_heap hh) own started (by kernel_rfl) Tryz.func8
    (ChangeSpec.witness_shaped (enc := enc) (C := Tryz.checked) (os := os) (X := fun w _ => laidMetH Tryz.prog laidL w) false (World.laidAll Tryz.prog os laidL) #[.agg #[.int .i64 0, .slice none 0 0, .bool false, .int .i64 0, .int .i64 0, .int .i64 0, .int .u8 0, .bool false, .int .u32 0, .int .u32 0, .int .u32 0, .int .u32 0, .slice none 0 0, .int .i64 0, .slice none 0 0, .int .i64 0, .int .i64 0, .int .i64 0, .int .u8 0, .bool false, .int .u32 0, .int .u32 0, .int .u32 0, .int .u32 0, .slice none 0 0, .int .i64 0, .slice none 0 0, .int .i64 0, .int .i64 0, .int .i64 0, .int .u8 0, .int .u8 0, .int .u8 0, .int .u8 0, .int .u8 0, .int .u8 0, .int .u8 0, .int .u8 0, .int .u8 0, .int .u8 0, .int .u8 0, .int .u8 0, .int .u8 0, .int .u8 0, .int .u8 0, .int .u8 0, .int .u8 0, .string ⟨#[]⟩, .int .u8 0, .int .u8 0, .int .u8 0, .int .u8 0, .int .u8 0, .int .u8 0, .int .u8 0, .int .u8 0, .int .u8 0, .int .u8 0, .int .u8 0, .int .u8 0, .int .u8 0, .int .u8 0, .int .u8 0, .int .u8 0, .int .u64 0, .int .u64 0, .int .i64 0, .int .i64 0, .int .u32 0], .agg #[.int .u16 0, .slice none 0 0]] 8 (World.laidAll_os _ _ _)
      (World.shaped_of_ZipB (by kernel_rfl) (by kernel_rfl)) (by kernel_rfl) (by kernel_rfl) (by kernel_rfl)
      (by rw [MakeChecks.laidMetH_plain _ _ _ (by kernel_rfl)]; exact laidMet_laidAll _ (by kernel_rfl) (by kernel_rfl))) ?_
  intro W base args ds gs before hval0 hW hcnd hsz0 hL _
  have hW' := hW
  obtain ⟨p, q, hA0, hV, rfl, hfz, hnd⟩ := hW
  obtain ⟨rfl, rfl⟩ := trodVars_none hV
  have hval : ∀ (j : Nat) t v, (Tryz.f8.params.toList)[j]? = some t → args.toList[j]? = some v → Value.okWide Tryz.prog W .any base t v := fun j t v h1 h2 => hval0 j t v (by simpa using h1) (by simpa using h2)
  refine (law_calls_g (ss := [shLink, shFrame]) (by kernel_rfl) linkSilent_calls (glo_of hL) hval hA0 hsz0).mono fun e W' ⟨he, bel⟩ => ?_
  subst he
  have hb := again_of' laidOut bel (by kernel_rfl) hA0
  obtain ⟨v0, vs0, d0, ds0, p0, q0, e0a, rfl, e0b, h0, r0⟩ := trodAll_cons (show DataW.TrodAll enc Tryz.prog W 0 (fun _ => true) true [40, 57] args.toList ds p from hA0)
  obtain ⟨v1, vs1, d1, ds1, p1, q1, e1a, rfl, e1b, h1, r1⟩ := trodAll_cons r0
  obtain ⟨_, rfl, _⟩ := trodAll_nil r1
  exact ⟨_, rfl, _, _, _, [], _, [], hW', trodAll_mk1 (shut_bool Tryz.underlying4 _), hb, rfl, bel.frame _, fun h => by cases h⟩

theorem linkSilent_holds : Rows.LinkSilentSaid :=
  OpenClaim.holds_of_wide 8 Tryz.f8 rfl rfl rfl rfl rfl rfl rfl ⟨rfl, rfl, rfl, rfl, rfl⟩ rfl rfl rfl rfl rfl (by kernel_rfl) Tryz.func8 (by kernel_rfl)
    (of_decide_eq_true (by kernel_rfl)) (by unfold Func.isWrapper; first | (rw [if_pos (by decide +kernel)]; kernel_rfl) | (rw [if_neg (by decide +kernel)]; exact ⟨rfl, rfl⟩))
    (fun os started H enc _ => linkSilent_lifted os started H enc)
theorem linkSilent_card : Rows.LinkSilentCardSaid :=
  Claim7.holds_tied_plain_at .later [] [.listed, .data] true (true, "c0a8c998641c89cad588d90fec08d04a5e256d923978a8ee92bd971b1ad12cd0") false
    linkSilent_holds (fun _ h => by cases h) (by kernel_rfl) (fun _ h => by cases h) linkSilent_row_tie rfl ⟨rfl, rfl⟩ (by kernel_rfl) rfl
    (fun f fn hf hfn => by
      obtain rfl : f = 8 := Option.some.inj ((show Tryz.prog.funcNamed "portreeve/portreevelaw18.LinkSilent" = some 8 by kernel_rfl).symm.trans hf) |>.symm
      obtain rfl : fn = Tryz.f8 := (Option.some.inj (Tryz.func8.symm.trans hfn)).symm
      exact ⟨by kernel_rfl, fun j t ht => by
        have ht : (#[40, 57] : Array TypeId)[j]? = some t := ht
        have hm : t ∈ [40, 57] := by simpa using Array.mem_of_getElem? ht
        have hall : ([40, 57].all fun u => !Tryz.prog.wantsStandIn u) = true := by kernel_rfl
        exact (show Tryz.prog.wantsStandIn t = false by simpa using List.all_eq_true.1 hall t hm)⟩)
    (by kernel_rfl)
#print axioms linkSilent_holds
#print axioms linkSilent_card

end Go.Proofs.YtonjofnphkghcaaGreatDoor
