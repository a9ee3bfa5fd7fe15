/- Contracts of this program's functions over values, joined texts. Conditions: none. -/
import Derived.Test.YtonjofnphkghcaaGreatDoorSSo
import Derived.Test.YtonjofnphkghcaaGreatDoorSSq
set_option linter.unusedVariables false
set_option linter.unusedSimpArgs false
/- Contracts of this program's functions: how the document ends CHAP. Conditions: none. -/
namespace Go.VL
open Go.Proofs

set_option maxHeartbeats 1000000 in
set_option maxRecDepth 20000 in
theorem c_r15end (a : AuthV) (who : ByteArray) (proof : B16) (good : Bool) (σ : St) : VCalls Tryz.prog 162 [auhv a, .str who, .agg (b16C proof), .bool good] σ fun r σ' => r = .tup [auhv (endA a who proof good), pkv (endP a good)] ∧ σ' = σ := by
  refine vcalls_intro (C := cfg Tryz.prog [] [] []) (cfg_ok mixed) Tryz.func162 rfl rfl rfl rfl rfl ?_
  cases good
  · generalize hR : V.tup [auhv (endA a who proof false), pkv (endP a false)] = R
    simp (maxSteps := 1000000) -implicitDefEqProofs only [go_sem, auhv, auhC, b16C]
    refine w_walk2 [4, 5] [0, 1, 2, 3, 4, 5] [20, 21, 22, 23] [0, 0, 2, 6, 1, 31] rfl rfl rfl rfl ?_
    simp (maxSteps := 1000000) -implicitDefEqProofs only [go_sem]
    rw [← hR]
    rfl
  · generalize hR : V.tup [auhv (endA a who proof true), pkv (endP a true)] = R
    simp (maxSteps := 1000000) -implicitDefEqProofs only [go_sem, auhv, auhC, b16C]
    refine w_walk2 [4, 5] [0, 1, 2, 3, 4, 5] [29, 30, 31, 32] [0, 0, 2, 6, 1, 31] rfl rfl rfl rfl ?_
    simp (maxSteps := 1000000) -implicitDefEqProofs only [go_sem]
    rw [← hR]
    rfl

end Go.VL

/- Contracts of this program's functions: the document's links at work. Conditions: none. -/
namespace Go.VL
open Go.Proofs

/-! A link at work, as the document's value. -/
def slF (l : List FrV) : V := bif l.isEmpty then .sl true false 0 [] else .sl false false 2 (frs l)
def slT (l : List Int) : V := bif l.isEmpty then .sl true false 0 [] else .sl false false 1 (zv64 l)
def rnC (W : WkV) : List V := lkC W.k ++ outC (slF W.sent) (slT W.want) W.p W.stop W.ip
def rnv (W : WkV) : V := .agg (rnC W)
theorem slF_sl (l : List FrV) : ∃ a z, slF l = .sl a false z (frs l) ∧ (z = 2 ∨ (frs l = [] ∧ a = true)) := by
  cases l with
  | nil => exact ⟨true, 0, rfl, .inr ⟨rfl, rfl⟩⟩
  | cons x l => exact ⟨false, 2, rfl, .inl rfl⟩
theorem slT_sl (l : List Int) : ∃ a z, slT l = .sl a false z (zv64 l) ∧ (z = 1 ∨ (zv64 l = [] ∧ a = true)) := by
  cases l with
  | nil => exact ⟨true, 0, rfl, .inr ⟨rfl, rfl⟩⟩
  | cons x l => exact ⟨false, 1, rfl, .inl rfl⟩
theorem slF_snoc (l : List FrV) (f : FrV) : slF (l ++ [f]) = .sl false false 2 (frs l ++ [frv f]) := by
  have h : (l ++ [f]).isEmpty = false := by cases l <;> rfl
  unfold slF
  rw [h]
  show V.sl false false 2 (frs (l ++ [f])) = _
  unfold frs
  rw [List.map_append]
  rfl
set_option maxHeartbeats 2000000 in
set_option maxRecDepth 20000 in
theorem c_r18done (W : WkV) (hst : 0 ≤ W.k.l.a.st ∧ W.k.l.a.st ≤ 9) (σ : St) : VCalls Tryz.prog 94 [rnv W] σ fun r σ' => r = rnv { W with k := doneK W } ∧ σ' = σ := by
  refine vcalls_intro (C := cfg Tryz.prog [] [1] []) (cfg_ok mixed) Tryz.func94 rfl rfl rfl rfl rfl ?_
  have hp := fun σ => c_r18phase W.k σ
  rw [phase_same hst] at hp
  have hd : rnv { W with k := doneK W } = .agg (lkC (doneK W) ++ outC (slF W.sent) (slT W.want) W.p W.stop W.ip) := rfl
  rw [hd]
  unfold rnv rnC
  obtain ⟨a, z, e1, _⟩ := slF_sl W.sent
  obtain ⟨b, y, e2, _⟩ := slT_sl W.want
  rw [e1, e2]
  unfold lkv lkC at hp
  unfold lkC outC
  simp (maxSteps := 1000000) -implicitDefEqProofs only [go_sem, List.cons_append, List.nil_append]
  refine vgo_call rfl rfl rfl rfl (hp _) ?_
  simp (maxSteps := 1000000) -implicitDefEqProofs only [go_sem]
  rfl

theorem c_rpbytesK (p : PkV) (hp : PkOK p) (h : p.d.length ≤ 1496) (σ : St) : VCalls Tryz.prog 152 [pkv p] σ fun r σ' => r = .tup [.sl false false 1 (bv (pkB p)), .int .i64 0] ∧ σ' = σ :=
  (c_rpbytes { p with sz := 1 } rfl h σ).ne ⟨pk_ne hp, trivial⟩
/-- The cells ahead of what is sent, and behind. -/
def sndC (W : WkV) (E0 E1 T : V) (i : Nat) : List V := bif Nat.beq i 0 then lkC W.k ++ outC E0 T W.p W.stop W.ip else lkC W.k ++ outC E1 T W.p W.stop W.ip
theorem sndC_0 (W : WkV) (E0 E1 T : V) : sndC W E0 E1 T 0 = lkC W.k ++ outC E0 T W.p W.stop W.ip := rfl
theorem sndC_1 (W : WkV) (E0 E1 T : V) : sndC W E0 E1 T 1 = lkC W.k ++ outC E1 T W.p W.stop W.ip := rfl
set_option maxHeartbeats 4000000 in
set_option maxRecDepth 20000 in
/-- A packet is sent. -/
theorem c_r18sent (W : WkV) (proto : UInt16) (nl c : Bool) (p : PkV) (hs : W.sent.length ≤ 1000) (hp : PkOK p) (hd : p.d.length ≤ 1496) (σ : St) : VCalls Tryz.prog 96 [rnv W, .int .u16 proto.toNat, .sl nl c 3 [pkv p]] σ fun r σ' => r = rnv (sendW W proto [p]) ∧ σ' = σ := by
  refine vcalls_intro (C := cfg Tryz.prog [] [3] [33]) (cfg_ok mixed) Tryz.func96 rfl rfl rfl rfl rfl ?_
  have hb := fun σ => c_rpbytesK p hp hd σ
  obtain ⟨a, z, e1, hz⟩ := slF_sl W.sent
  obtain ⟨b, y, e2, _⟩ := slT_sl W.want
  have hX : rnC (sendW W proto [p]) = lkC W.k ++ outC (.sl false false 2 (frs W.sent ++ [.agg [.int .u16 proto.toNat, .sl false false 1 (bv (pkB p))]])) (slT W.want) W.p W.stop W.ip := by
    show lkC W.k ++ outC (slF (W.sent ++ [frmOf proto p])) _ _ _ _ = _
    rw [slF_snoc]
    rfl
  have hY : rnC W = lkC W.k ++ outC (.sl a false z (frs W.sent)) (.sl b false y (zv64 W.want)) W.p W.stop W.ip := by unfold rnC; rw [e1, e2]
  rw [e2] at hX
  unfold rnv
  rw [hX, hY]
  have hfl : (frs W.sent).length ≤ 1000 := by rw [frs_length]; exact hs
  clear hX hY e1
  generalize frs W.sent = FS at *
  unfold pkv pkC at hb ⊢
  obtain ⟨E1, hE1⟩ : ∃ E1 : V, E1 = .sl false false 2 (FS ++ [.agg [.int .u16 proto.toNat, .sl false false 1 (bv (pkB p))]]) := ⟨_, rfl⟩
  obtain ⟨E0, hE0⟩ : ∃ E0 : V, E0 = .sl a false z FS := ⟨_, rfl⟩
  obtain ⟨T, hT⟩ : ∃ T : V, T = .sl b false y (zv64 W.want) := ⟨_, rfl⟩
  rw [← hE1, ← hE0, ← hT, ← sndC_0 W E0 E1 T, ← sndC_1 W E0 E1 T]
  have hl : ∀ i, (sndC W E0 E1 T i).length = 84 := fun i => by rw [hE0, hE1, hT]; unfold sndC; cases Nat.beq i 0 <;> rfl
  have hc : ∀ i, (sndC W E0 E1 T i).all cell1 = true := fun i => by rw [hE0, hE1, hT]; unfold sndC; cases Nat.beq i 0 <;> rfl
  have him : ∀ i, (sndC W E0 E1 T i).all imm1 = true := fun i => by rw [hE0, hE1, hT]; unfold sndC; cases Nat.beq i 0 <;> rfl
  obtain ⟨X, hX⟩ : ∃ X, X = sndC W E0 E1 T := ⟨_, rfl⟩
  rw [← hX] at hl hc him ⊢
  have ht : ∀ i, (X i).take 84 = X i := fun i => List.take_of_length_le (Nat.le_of_eq (hl i))
  simp (maxSteps := 1000000) -implicitDefEqProofs only [go_sem, hl, hc, him, ht]
  refine w_loopL (fun i => i ≤ 1) (fun i => [(7, .int .i64 (i : Nat)), (6, .cell (zK ++ zO)), (3, .cell (X i)), (2, .sl nl c 3 [.agg [.int .u8 p.code.toNat, .int .u8 p.id.toNat, .sl p.nl p.c p.sz (bv p.d)]]), (1, .int .u16 proto.toNat)]) (fun i => bif Nat.beq i 0 then σ else σ ++ [VO.dead]) (fun i => 1 - i) 0 (Nat.zero_le _) ?_ rfl ?_
  · simp (maxSteps := 1000000) -implicitDefEqProofs only [go_sem]
    exact ⟨rfl, rfl⟩
  have hX1 : X 1 = lkC W.k ++ outC (.sl false false 2 (FS ++ [.agg [.int .u16 proto.toNat, .sl false false 1 (bv (pkB p))]])) (.sl b false y (zv64 W.want)) W.p W.stop W.ip := by rw [hX, hE1, hT]; rfl
  intro i hi L hnext hleave
  rcases Nat.lt_or_ge i 1 with h | h
  · obtain rfl : i = 0 := by omega
    have hw1 : IntKind.i64.wrap (((0 : Nat) : Int) + 1) = ((1 : Nat) : Int) := by decide
    have g0 : decide (((0 : Nat) : Int) < 1) = true := by decide
    have next := fun fr' S' => hnext 1 fr' S' (by omega) (by omega)
    clear hnext
    have hX0 : X 0 = lkC W.k ++ outC (.sl a false z FS) (.sl b false y (zv64 W.want)) W.p W.stop W.ip := by rw [hX, hE0, hT]; rfl
    simp (maxSteps := 1000000) -implicitDefEqProofs only [go_sem, g0]
    refine vgo_call rfl rfl rfl rfl (hb _) ?_
    rw [hX0]
    unfold lkC outC
    simp (maxSteps := 1000000) -implicitDefEqProofs only [go_sem, List.cons_append, List.nil_append]
    refine ⟨hz.symm.imp (fun h => h.1) id, by unfold lim; omega, by omega, by unfold lim; omega, ?_⟩
    refine next _ _ ?_ rfl
    rw [hX1]
    unfold lkC outC
    simp (maxSteps := 1000000) -implicitDefEqProofs only [go_sem, hw1, List.cons_append, List.nil_append]
  · obtain rfl : i = 1 := by omega
    have hn0 : Nat.beq 1 0 = false := rfl
    simp (maxSteps := 1000000) -implicitDefEqProofs only [go_sem, hn0]
    refine hleave _ _ _ (fun h => by cases h) ?_
    rw [hX1]
    unfold lkC outC zK zO
    simp (maxSteps := 1000000) -implicitDefEqProofs only [go_sem, List.cons_append, List.nil_append]

end Go.VL
