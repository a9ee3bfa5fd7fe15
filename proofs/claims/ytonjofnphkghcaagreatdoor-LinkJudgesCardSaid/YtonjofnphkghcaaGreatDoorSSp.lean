/- Contracts of this program's functions over values, joined texts. Conditions: none. -/
import Derived.Test.YtonjofnphkghcaaGreatDoorSSo
set_option linter.unusedVariables false
set_option linter.unusedSimpArgs false
/- LinkPasses' law. Conditions: none. -/
namespace Go.VL
open Go.Proofs

/-! More of a link's cells. -/
section
variable (k : LinkV) (m : MeterV)
end

/-! Plain: a packet of IP passes. -/
theorem peerF_of {n : NgV} (hs : smallN n = true) (hz : n.ps = 2) : PeerF n := ⟨.inl hz, (cmp_small hs).p.1, (cmp_small hs).p.2⟩
end Go.VL

/- LinkSilent's law. Conditions: none. -/
namespace Go.VL
open Go.Proofs

/-! Plain: what a frame does, phase by phase. -/
def knownF (f : FrV) : Prop := f.proto = 49185 ∨ f.proto = 49699 ∨ f.proto = 32801 ∨ f.proto = 33
inductive SilR (k : LinkV) (f : FrV) : LinkV → WkV → Prop
  | calm (W : WkV) (hs : W.sent = []) (hw : W.want = []) (hi : W.ip.es = []) (h : knownF f ∨ k.l.a.st ≠ 9) : SilR k f k W
  | chap (W : WkV) (h : f.proto = 49699) (hp : k.phase = 2) (hs : W.sent = []) (hw : W.want = [2]) : SilR k f k W
  | net (m : LinkV) (W : WkV) (h : f.proto = 32801 ∨ f.proto = 33) (hp : k.phase = 3) : SilR k f m W
  | lcp (m : LinkV) (W : WkV) (h : f.proto = 49185) (hi : W.ip.es = []) : SilR k f m W
  | rej (W : WkV) (h : ¬ knownF f) (h9 : k.l.a.st = 9) (hs : W.sent = [frmOf 49185 (refuseP f k.l.a.id)]) : SilR k f k W
end Go.VL

/- Ticks, and what they keep, in plain Lean. Conditions: none. -/
namespace Go.VL
open Go.Proofs

/-! CHAP. -/
def b16B (x : B16) : List UInt8 := [x.b0, x.b1, x.b2, x.b3, x.b4, x.b5, x.b6, x.b7, x.b8, x.b9, x.b10, x.b11, x.b12, x.b13, x.b14, x.b15]
def ownB : List UInt8 := [112, 111, 114, 116, 114, 101, 101, 118, 101]
theorem b16_bv (x : B16) : b16C x = bv (b16B x) := rfl
def chalP (id : UInt8) (v : B16) : PkV := ⟨1, id, false, false, 1, 16 :: (b16B v ++ ownB)⟩
def askA (a : AuthV) (v : B16) : AuthV := { a with id := a.id + 1, tries := a.tries + 1, st := 1, left := 4, val := v }
def chapW1 (W : WkV) (a : AuthV) (os : List PkV) : WkV := sendW { W with k := { W.k with a := a } } 49699 os
theorem phase2 {k : LinkV} (h : phaseP k = 2) : k.sess < 0 := by
  rcases Int.lt_or_le k.sess 0 with hs | hs
  · exact hs
  · unfold phaseP at h
    have e : decide (0 ≤ k.sess) = true := by simpa using hs
    rw [e] at h
    cases h9 : k.l.a.st == 9
    · rw [h9] at h
      simp only [Bool.false_and, cond_false] at h
      cases h6 : decide (6 ≤ k.l.a.st)
      · rw [h6] at h
        simp only [cond_false] at h
        cases h4 : decide (4 ≤ k.l.a.st) <;> rw [h4] at h <;> cases h
      · rw [h6] at h; cases h
    · rw [h9] at h; cases h
theorem KeepW.auth {k : LinkV} {W : WkV} {c : Nat} (h : KeepW k W c) (h2 : phaseP W.k = 2) (a : AuthV) (ha : authB a = true) (os : List PkV) (hol : os.length ≤ 10) : KeepW k (chapW1 W a os) (c + 10) := by
  have hs := phase2 h2
  refine ⟨h.l, h.n, h.fl, h.fn, h.lip, h.nip, h.low, h.line, ha, h.me, fun hs' => ?_, ?_, h.want, h.stop, h.ip, ?_, ?_⟩
  · have hs'' : 0 ≤ W.k.sess := hs'
    omega
  · intro x hx hp
    have hx' : x ∈ W.sent ++ os.map (frmOf 49699) := hx
    rcases List.mem_append.1 hx' with hx | hx
    · exact h.sent x hx hp
    · obtain ⟨p, _, rfl⟩ := List.mem_map.1 hx
      rcases hp with hp | hp
      · exact absurd (show (49699 : UInt16) = 32801 from hp) (by decide)
      · exact absurd (show (49699 : UInt16) = 33 from hp) (by decide)
  · show (W.sent ++ os.map (frmOf 49699)).length ≤ c + 10
    rw [List.length_append, List.length_map]
    have := h.sl
    omega
  · have := h.wl
    show W.want.length ≤ c + 10
    omega
/-! Octets. -/
/-! Who is let in, or not; what is sent. -/
theorem end_auth {a : AuthV} (h : authB a = true) (who : ByteArray) (proof : B16) (good : Bool) : authB (endA a who proof good) = true := by
  unfold authB at h
  simp only [Bool.and_eq_true, decide_eq_true_eq] at h
  unfold endA
  cases good
  · show (decide (0 ≤ a.tries) && decide (a.tries ≤ 4) && true) = true
    simp only [Bool.and_true, Bool.and_eq_true, decide_eq_true_eq]
    exact h.1
  · show (decide (0 ≤ a.tries) && decide (a.tries ≤ 4) && true) = true
    simp only [Bool.and_true, Bool.and_eq_true, decide_eq_true_eq]
    exact h.1
theorem asked2 {k : LinkV} (h : askedB k = true) : phaseP k = 2 := by
  unfold askedB at h
  simp only [Bool.and_eq_true, beq_iff_eq] at h
  exact h.1
theorem keep_told {k : LinkV} (h : KeepW k (beginW k) 0) (who : ByteArray) (proof : B16) (good : Bool) : KeepW k (toldW1 k who proof good) 20 := by
  unfold toldW1
  cases ha : askedB k
  · exact h.up _ (by omega)
  · exact (h.auth (asked2 ha) (endA k.a who proof good) (end_auth h.au _ _ _) [endP k.a good] (by show 1 ≤ 10; omega)).close
/-! Calm. -/
structure CalmF (k m : LinkV) (W : WkV) : Prop where
  good : GoodK m
  line : m.line = k.line
  sent : ∀ x ∈ W.sent, x.proto = 32801 ∨ x.proto = 33 → phaseP k = 3 ∨ phaseP m = 3
  want : (3 : Int) ∈ W.want ↔ phaseP k = 3 ∧ m.phase ≠ 3
  stop : phaseP k = 3 → m.phase ≠ 3 → W.stop.kind = 3 ∧ W.stop.id = k.sess ∧ k.m.inn.toNat ≤ W.stop.inn.toNat ∧ k.m.out.toNat ≤ W.stop.out.toNat
  ip : W.ip.es = [] ∨ phaseP k = 3 ∨ phaseP m = 3
  sl : W.sent.length ≤ 200
  wl : W.want.length ≤ 200
end Go.VL

/- Contracts of this program's functions: what is said, and ticks. Conditions: none. -/
namespace Go.VL
open Go.Proofs

set_option maxHeartbeats 2000000 in
set_option maxRecDepth 20000 in
theorem c_cask (a : AuthV) (v : B16) (ht : 0 ≤ a.tries ∧ a.tries ≤ 100) (σ : St) : VCalls Tryz.prog 158 [auhv a, .agg (b16C v)] σ fun r σ' => r = .tup [auhv (askA a v), pkv (chalP (a.id + 1) v)] ∧ σ' = σ := by
  refine vcalls_intro (C := cfg Tryz.prog [] [2] []) (cfg_ok mixed) Tryz.func158 rfl rfl rfl rfl rfl ?_
  have hw : IntKind.i64.wrap (a.tries + 1) = a.tries + 1 := by rw [IntKind.wrap_i64]; omega
  have hi : IntKind.u8.wrap ((a.id.toNat : Int) + 1) = (((a.id + 1 : UInt8).toNat : Nat) : Int) := by
    have := a.id.toNat_lt
    rw [UInt8.toNat_add]
    unfold IntKind.wrap
    simp [IntKind.bits, IntKind.signed]
  have hcc := fun x y z w σ => c_concat false x [(false, y, [16]), (false, z, b16B v), (false, w, ownB)] (by simp) (by simp [catB]) (by simp [catB, b16B, ownB]) σ
  have hcat : ∀ y z w, catB [(false, y, [16]), (false, z, b16B v), (false, w, ownB)] = 16 :: (b16B v ++ ownB) := fun y z w => by simp [catB]
  simp only [hcat] at hcc
  simp (maxSteps := 1000000) -implicitDefEqProofs only [go_sem, auhv, auhC, b16C, hw, hi]
  refine w_walk2 [2, 4, 6] [0, 1, 2, 3, 4, 5, 6] [14, 15, 16, 17] [0, 0, 2, 6, 14, 31, 63] rfl rfl rfl rfl ?_
  simp (maxSteps := 1000000) -implicitDefEqProofs only [go_sem]
  refine w_walk2 [5, 6, 10, 11] [0, 1, 2, 3, 4, 5, 6, 7, 8, 9, 10, 11] [18, 19, 20, 21, 22, 25, 26, 27] [0, 0, 2, 0, 0, 0, 32, 120, 248, 510, 505, 2047] rfl rfl rfl rfl ?_
  simp (maxSteps := 1000000) -implicitDefEqProofs only [go_sem]
  refine vdgo_call rfl rfl rfl rfl (hcc true true true false _) ?_
  simp (maxSteps := 1000000) -implicitDefEqProofs only [go_sem]
  rfl

end Go.VL
