/- LinkJudged: at every link, proof, number and address the law answers true, and leaves its arguments as they were. Conditions: none. -/
import Derived.Test.YtonjofnphkghcaaGreatDoorSSn
import Derived.Test.YtonjofnphkghcaaGreatDoorSSx
set_option linter.unusedVariables false
set_option linter.unusedSimpArgs false
/- LinkPlug's law. Conditions: none. -/
namespace Go.VL
open Go.Proofs

theorem u32_wrap (n : Int) : ∃ m : UInt32, IntKind.u32.wrap n = (m.toNat : Int) := by
  refine ⟨UInt32.ofNat (IntKind.u32.wrap n).toNat, ?_⟩
  have h : 0 ≤ IntKind.u32.wrap n ∧ IntKind.u32.wrap n < 4294967296 := by
    unfold IntKind.wrap
    simp [IntKind.bits, IntKind.signed]
    omega
  simp
  omega
theorem was_line (k : LinkV) : (wasK k).line = k.line := by unfold wasK; cases k.l.a.st == 9 <;> rfl
theorem was_n (k : LinkV) : (wasK k).n = k.n ∨ (wasK k).n = freshN := by
  unfold wasK
  cases k.l.a.st == 9
  · exact .inl rfl
  · exact .inr rfl
theorem was_sess {k : LinkV} (hg : GoodK k) : (wasK k).sess = -1 := by
  unfold wasK
  cases h : k.l.a.st == 9
  · have h9 : k.l.a.st ≠ 9 := by simpa using h
    have := hg.low
    rcases Int.lt_or_le k.sess 0 with h0 | h0
    · show k.sess = -1
      omega
    · exact absurd (hg.st9 h0) h9
  · rfl
/-- What is plugged where nothing is. -/
def plugK (u : LinkV) (m o : UInt32) : LinkV := { u with l := plN m o, phase := 1 }
theorem plug_u {u : LinkV} (h : u.l.a.st = 0) (m o : UInt32) : doneK (plugW u m o) = plugK u m o ∧ (plugW u m o).sent = [frmOf 49185 (reqP (plN m o))] := by
  rw [plug_is h m o]
  exact ⟨rfl, rfl⟩
theorem plug_again (u : LinkV) (m o m' : UInt32) : doneK (plugW (plugK u m o) m' o) = plugK u m o ∧ (plugW (plugK u m o) m' o).sent = [] := ⟨rfl, rfl⟩

set_option maxHeartbeats 8000000 in
set_option maxRecDepth 20000 in
theorem c_linkPlug (k : LinkV) (hz : k.line.sz = 1) (h1 : k.l.ps = 2) (h2 : k.n.ps = 2) (m o : UInt32) (σ : St) :
    VCalls Tryz.prog 3 [lkv k, .int .u32 m.toNat, .int .u32 o.toNat] σ fun r σ' => r = .bool true ∧ σ' = σ := by
  refine vcalls_intro (C := cfg Tryz.prog [] [] []) (cfg_ok mixed) Tryz.func3 rfl rfl rfl rfl rfl ?_
  simp (maxSteps := 1000000) -implicitDefEqProofs only [go_sem, lkv, lk_len, lk_take, lk_cell, lk_imm, set_lk]
  refine vgo_call rfl rfl rfl rfl (c_shown18 σ) ?_
  simp (maxSteps := 1000000) -implicitDefEqProofs only [go_sem, lkv, lk_len, lk_take, lk_cell, lk_imm, set_lk]
  refine vgo_call rfl rfl rfl rfl (c_r18small k h1 h2 σ) ?_
  cases hs : smallK k
  · simp (maxSteps := 1000000) -implicitDefEqProofs only [go_sem, lkv, lk_len, lk_take, lk_cell, lk_imm, set_lk]
  have hsN : smallN k.l = true ∧ smallN k.n = true := by
    unfold smallK at hs
    simp only [Bool.and_eq_true] at hs
    exact ⟨hs.1.1.1, hs.1.1.2⟩
  have hf1 : few k.l.ours = true := by have := hsN.1; unfold smallN at this; simp only [Bool.and_eq_true] at this; exact this.1
  have hf2 : few k.n.ours = true := by have := hsN.2; unfold smallN at this; simp only [Bool.and_eq_true] at this; exact this.1
  have hL := fun σ => c_rright14 k.l hf1 σ
  have hN := fun σ => c_rright14 k.n hf2 σ
  simp (maxSteps := 1000000) -implicitDefEqProofs only [go_sem, lkv, lk_len, lk_take, lk_cell, lk_imm, set_lk]
  refine vgo_call rfl rfl rfl rfl (c_r18right1 k hz hL hN σ) ?_
  cases hr : rightK k
  · simp (maxSteps := 1000000) -implicitDefEqProofs only [go_sem, lkv, lk_len, lk_take, lk_cell, lk_imm, set_lk]
  have hg := goodK_of hs hr
  have hu := c_lunplug k hg.l σ
  have hu0 := unplug_st (k := k) hg.l.st
  have huk := unplug_k (k := k) hg.l.st
  have hU : (doneK (unplugW k)).phase = 0 ∧ (doneK (unplugW k)).l.a.st = 0 ∧ (doneK (unplugW k)).sess = -1 ∧ (doneK (unplugW k)).line = k.line ∧ ((doneK (unplugW k)).n = k.n ∨ (doneK (unplugW k)).n = freshN) := by
    refine ⟨phase0 hu0, hu0, ?_, ?_, ?_⟩
    · show (unplugW k).k.sess = -1
      rw [huk]
      exact was_sess hg
    · show (unplugW k).k.line = k.line
      rw [huk]
      exact was_line k
    · show (unplugW k).k.n = k.n ∨ (unplugW k).k.n = freshN
      rw [huk]
      exact was_n k
  unfold outW outC at hu
  generalize doneK (unplugW k) = U at hu hU
  generalize unplugW k = X at hu
  obtain ⟨u1, u2, u3, u4, u5⟩ := hU
  have hp := c_lplug U m o σ
  rw [(plug_u u2 m o).1] at hp
  have hps := (plug_u u2 m o).2
  unfold outW outC at hp
  generalize plugW U m o = W at hp hps
  obtain ⟨m', hm'⟩ := u32_wrap ((m.toNat : Int) + 1)
  have hq := c_lplug (plugK U m o) m' o σ
  rw [(plug_again U m o m').1] at hq
  have hqs := (plug_again U m o m').2
  unfold outW outC at hq
  generalize plugW (plugK U m o) m' o = Y at hq hqs
  have hf : frs W.sent = [.agg [.int .u16 49185, .sl false false 1 (bv (pkB (reqP (plN m o))))]] := by
    rw [hps]
    rfl
  have he : W.sent.isEmpty = false := by rw [hps]; rfl
  have hye : Y.sent.isEmpty = true := by rw [hqs]; rfl
  have hyf : frs Y.sent = [] := by rw [hqs]; rfl
  rw [hf, he] at hp
  rw [hyf, hye] at hq
  have hP1 : (plugK U m o).phase = 1 := rfl
  have hPm : (plugK U m o).l.r.magic = m := rfl
  have hPo : LkOK (plugK U m o) := by
    refine ⟨?_, .inr ⟨rfl, rfl⟩, ?_⟩
    · show LnOK U.line
      rw [u4]
      exact .inl hz
    · show NgOK U.n
      rcases u5 with e | e
      · rw [e]; exact .inl h2
      · rw [e]; exact new_ok ipR
  have hPl : (plugK U m o).line.b.length ≤ lim := by
    show U.line.b.length ≤ lim
    rw [u4]
    unfold smallK at hs
    simp only [Bool.and_eq_true, decide_eq_true_eq] at hs
    unfold lim
    omega
  have hPL : CmpN (plugK U m o).l := ⟨(new_cmp (plugR m o)).o, (new_cmp (plugR m o)).p⟩
  have hPN : CmpN (plugK U m o).n := by
    show CmpN U.n
    rcases u5 with e | e
    · rw [e]; exact cmp_small hsN.2
    · rw [e]; exact new_cmp ipR
  have hsm := c_r18same (plugK U m o) (plugK U m o) hPo hPo hPl hPL hPN σ
  rw [sameK_self] at hsm
  generalize plugK U m o = P at *
  simp (maxSteps := 1000000) -implicitDefEqProofs only [go_sem, lkv, lk_len, lk_take, lk_cell, lk_imm, set_lk]
  refine vgo_call rfl rfl rfl rfl hu ?_
  simp (maxSteps := 1000000) -implicitDefEqProofs only [go_sem, lkv, lk_len, lk_take, lk_cell, lk_imm, set_lk]
  refine vgo_call rfl rfl rfl rfl hp ?_
  simp (maxSteps := 1000000) -implicitDefEqProofs only [go_sem, lkv, lk_len, lk_take, lk_cell, lk_imm, set_lk, hm']
  refine vgo_call rfl rfl rfl rfl hq ?_
  simp (maxSteps := 1000000) -implicitDefEqProofs only [go_sem, lkv, lk_len, lk_take, lk_cell, lk_imm, set_lk]
  have n1 : (((1 : Nat) : Int) == 1) = true := rfl
  have n0 : (((0 : Nat) : Int) == 0) = true := rfl
  have e1 : (U.phase == 0) = true := by rw [u1]; rfl
  have e2 : decide (U.sess < 0) = true := by rw [u3]; rfl
  have e3 : (U.l.a.st == 0) = true := by rw [u2]; rfl
  have e4 : (P.phase == 1) = true := by rw [hP1]; rfl
  have e5 : ((P.l.r.magic.toNat : Int) == (m.toNat : Int)) = true := by rw [hPm]; simp
  unfold lkv at hsm
  unfold lkC at hsm ⊢
  simp (maxSteps := 1000000) -implicitDefEqProofs only [go_sem, n1, n0, e1, e2, e3, e4, e5]
  repeat (refine ⟨by omega, ?_⟩)
  refine vgo_call rfl rfl rfl rfl hsm ?_
  simp (maxSteps := 1000000) -implicitDefEqProofs only [go_sem, n1, n0, e1, e2, e3, e4, e5]

end Go.VL

/- Contracts of this program's functions: who is told so: refused, no room, welcome. Conditions: none. -/
namespace Go.VL
open Go.Proofs

/-! An authentication ends. -/
def endA (a : AuthV) (who : ByteArray) (proof : B16) (good : Bool) : AuthV := bif good then { a with left := 0, st := 2, who := who, proof := proof } else { a with left := 0, st := 3, who := noS, proof := z16 }
def endP (a : AuthV) (good : Bool) : PkV := ⟨bif good then 3 else 4, a.id, true, false, 0, []⟩
set_option maxHeartbeats 1000000 in
set_option maxRecDepth 20000 in
theorem c_cend (a : AuthV) (who : ByteArray) (proof : B16) (good : Bool) (σ : St) : VCalls Tryz.prog 125 [auhv a, .str who, .agg (b16C proof), .bool good] σ fun r σ' => r = .tup [auhv (endA a who proof good), pkv (endP a good)] ∧ σ' = σ := by
  refine vcalls_intro (C := cfg Tryz.prog [] [4] []) (cfg_ok mixed) Tryz.func125 rfl rfl rfl rfl rfl ?_
  unfold endA endP
  cases good
  · simp (maxSteps := 1000000) -implicitDefEqProofs only [go_sem, auhv, auhC, b16C, pkv, pkC, noS, z16]
    refine w_walk2 [4, 5] [0, 1, 2, 3, 4, 5] [17, 18, 19, 20] [0, 0, 2, 6, 1, 31] rfl rfl rfl rfl ?_
    simp (maxSteps := 1000000) -implicitDefEqProofs only [go_sem]
    rfl
  · simp (maxSteps := 1000000) -implicitDefEqProofs only [go_sem, auhv, auhC, b16C, pkv, pkC]
    refine w_walk2 [3, 5, 7] [0, 1, 2, 3, 4, 5, 6, 7] [21, 22, 23, 24, 25] [0, 0, 0, 4, 13, 29, 63, 127] rfl rfl rfl rfl ?_
    simp (maxSteps := 1000000) -implicitDefEqProofs only [go_sem]
    refine w_walk2 [4, 5] [0, 1, 2, 3, 4, 5] [26, 27, 28, 29] [0, 0, 2, 6, 1, 31] rfl rfl rfl rfl ?_
    simp (maxSteps := 1000000) -implicitDefEqProofs only [go_sem]
    rfl

def meterN : MeterV := ⟨0, 0, 6⟩
theorem c_mnew (σ : St) : VCalls Tryz.prog 66 [] σ fun r σ' => r = mev meterN ∧ σ' = σ := by
  refine vcalls_intro (C := cfg Tryz.prog [] [] []) (cfg_ok mixed) Tryz.func66 rfl rfl rfl rfl rfl ?_
  simp (maxSteps := 1000000) -implicitDefEqProofs only [go_sem]
  rfl

/-- Who is there is asked: it may be told so. -/
def askedB (k : LinkV) : Bool := (phaseP k == 2) && (k.a.st == 1)
def endW1 (W : WkV) (who : ByteArray) (proof : B16) (good : Bool) : WkV := sendW { W with k := { W.k with a := endA W.k.a who proof good } } 49699 [endP W.k.a good]
def endW2 (W : WkV) (who : ByteArray) (proof : B16) (good : Bool) : WkV := bif askedB W.k then endW1 W who proof good else W
theorem pk_nil (c i : UInt8) : PkOK ⟨c, i, true, false, 0, []⟩ := .inr ⟨rfl, rfl⟩
set_option maxHeartbeats 8000000 in
set_option maxRecDepth 20000 in
theorem c_lend (W : WkV) (who : ByteArray) (proof : B16) (good : Bool) (hs : W.sent.length ≤ 1000) (σ : St) : VCalls Tryz.prog 65 [.ptr σ.length 0, .str who, .agg (b16C proof), .bool good] (wS σ W) fun r σ' => r = .bool (askedB W.k) ∧ σ' = wS σ (endW2 W who proof good) := by
  refine vcalls_keep (C := cfg Tryz.prog [] [] []) (cfg_ok mixed) Tryz.func65 rfl rfl rfl rfl rfl ?_
  have hp := fun σ => c_lphase W.k σ
  unfold lkv lkC at hp
  have hc := fun σ => c_cend W.k.a who proof good σ
  obtain ⟨A', hA⟩ : ∃ A', A' = endA W.k.a who proof good := ⟨_, rfl⟩
  obtain ⟨P', hP⟩ : ∃ P', P' = endP W.k.a good := ⟨_, rfl⟩
  have hsd := fun (W' : WkV) (hW : W'.sent = W.sent) => c_lsend W' 49699 false true [P'] (by rw [hW]; omega) (by simp) (fun p hp => by rw [List.mem_singleton.1 hp, hP]; exact pk_nil _ _) (fun p hp => by rw [List.mem_singleton.1 hp, hP]; exact Nat.zero_le _) σ
  generalize hFS : wS σ (endW2 W who proof good) = FS
  unfold endW2 endW1 askedB at hFS
  rw [← hA, ← hP] at hFS hc
  clear hA hP
  unfold auhv auhC pkv pkC at hc
  unfold b16C at hc ⊢
  unfold askedB
  simp (maxSteps := 1000000) -implicitDefEqProofs only [go_sem, wS, wB, wkC]
  refine vgo_call rfl rfl rfl rfl (hp _) ?_
  simp (maxSteps := 1000000) -implicitDefEqProofs only [go_sem, bne]
  cases q1 : phaseP W.k == 2
  · rw [q1] at hFS
    simp (maxSteps := 1000000) -implicitDefEqProofs only [go_sem, vendK]
    exact hFS
  simp (maxSteps := 1000000) -implicitDefEqProofs only [go_sem, bne]
  cases q2 : W.k.a.st == 1
  · rw [q1, q2] at hFS
    simp (maxSteps := 1000000) -implicitDefEqProofs only [go_sem, vendK]
    exact hFS
  rw [q1, q2] at hFS
  simp (maxSteps := 1000000) -implicitDefEqProofs only [go_sem]
  refine w_walkP (α := Unit) (fun _ => True) (fun _ => [(0, .ptr σ.length 0), (9, .cell (auhC A')), (10, .cell (pkC P'))]) (fun _ => wS σ W) [12, 13] [12, 13, 14, 15] [27, 28, 29, 30, 31, 32, 33, 34, 35, 26, 36, 37] [] [([12, 13], [0, 1, 2, 3, 4, 5, 6, 7, 8, 9, 10, 11, 12, 13, 14, 15], [0, 1, 3, 7, 15, 0, 0, 0, 255, 511, 1023, 1023, 0, 4096, 14335, 32767]), ([13, 12], [0, 1, 2, 3, 4, 5, 6, 7, 8, 9, 10, 11, 13, 12, 14, 15], [0, 1, 3, 7, 15, 0, 0, 0, 255, 511, 1023, 1023, 8192, 0, 14335, 32767])] rfl rfl rfl rfl rfl rfl ?_ ?_
  · intro x hx
    simp only [List.mem_cons, List.not_mem_nil, or_false] at hx
    rcases hx with hx | hx <;> (
      subst hx
      simp (maxSteps := 1000000) -implicitDefEqProofs only [go_sem]
      refine vdgo_call rfl rfl rfl rfl (hc _) ?_
      simp (maxSteps := 1000000) -implicitDefEqProofs only [go_sem, auhC, pkC]
      rfl)
  · intro _ _
    simp (maxSteps := 1000000) -implicitDefEqProofs only [go_sem, auhC, pkC, wS, wB, wkC]
    refine vgo_call' rfl rfl rfl (hsd { W with k := { W.k with a := A' } } rfl) ?_
    rintro r σ' ⟨rfl, rfl⟩
    refine ⟨rfl, ?_⟩
    simp (maxSteps := 1000000) -implicitDefEqProofs only [go_sem, vendK]
    exact hFS

theorem ipcp_l (W : WkV) (n : NgV) (os : List PkV) (ts : List Int) (h : decide ((4 : Int) ∈ ts) = false) : ipcpW W n os ts = sendW { W with k := { W.k with n := n } } 32801 os := by
  unfold ipcpW
  rw [h]
  rfl
set_option maxHeartbeats 8000000 in
set_option maxRecDepth 20000 in
theorem c_lipcp (W : WkV) (n : NgV) (n1 c1 n2 c2 : Bool) (os : List PkV) (ts : List Int) (hg : Good W.k.l) (hs : W.sent.length ≤ 900) (hw : W.want.length ≤ 900) (ho : os.length ≤ 100) (ht : ts.length ≤ 100) (hz : ∀ p ∈ os, PkOK p) (hd : ∀ p ∈ os, p.d.length ≤ 1496) (σ : St) :
    VCalls Tryz.prog 67 [.ptr σ.length 0, ngv n, .sl n1 c1 3 (pkvs os), .sl n2 c2 1 (zv64 ts)] (wS σ W) fun r σ' => r = .tup [] ∧ σ' = wS σ (ipcpW W n os ts) := by
  refine vcalls_keep (C := cfg Tryz.prog [] [] []) (cfg_ok mixed) Tryz.func67 rfl rfl rfl rfl rfl ?_
  have hsd := c_lsend { W with k := { W.k with n := n } } 32801 n1 c1 os (by show W.sent.length ≤ _; omega) (by omega) hz hd σ
  have hcl := c_lclose (sendW { W with k := { W.k with n := n } } 32801 os) hg (by show (W.sent ++ os.map _).length ≤ _; rw [List.length_append, List.length_map]; omega) (by show W.want.length ≤ _; omega) σ
  generalize hFS : wS σ (ipcpW W n os ts) = FS
  unfold ipcpW at hFS
  have hct := fun σ => c_contains n2 c2 ts 4 (by unfold lim; omega) σ
  simp (maxSteps := 1000000) -implicitDefEqProofs only [go_sem, wS, wB, wkC, ngv, ngC]
  refine vgo_call' rfl rfl rfl hsd ?_
  rintro r σ' ⟨rfl, rfl⟩
  refine ⟨rfl, ?_⟩
  generalize sendW { W with k := { W.k with n := n } } 32801 os = W2 at *
  simp (maxSteps := 1000000) -implicitDefEqProofs only [go_sem]
  refine vgo_call rfl rfl rfl rfl (hct _) ?_
  cases q : decide ((4 : Int) ∈ ts)
  · rw [q] at hFS
    simp (maxSteps := 1000000) -implicitDefEqProofs only [go_sem, vendK]
    exact hFS
  · rw [q] at hFS
    simp (maxSteps := 1000000) -implicitDefEqProofs only [go_sem]
    refine vgo_call' rfl rfl rfl hcl ?_
    rintro r σ' ⟨rfl, rfl⟩
    refine ⟨rfl, ?_⟩
    simp (maxSteps := 1000000) -implicitDefEqProofs only [go_sem, vendK]
    exact hFS

end Go.VL

/- Contracts of this program's functions: Refuse, Full, Welcome. Conditions: none. -/
namespace Go.VL
open Go.Proofs

def toldW1 (k : LinkV) (who : ByteArray) (proof : B16) (good : Bool) : WkV := bif askedB k then closeW (endW1 (beginW k) who proof good) else beginW k
def gateR (addr : UInt32) : RV := ⟨true, 0, 0, addr, 167772167⟩
def letW (W : WkV) (id : Int) (addr : UInt32) : WkV := { W with k := { W.k with sess := id, addr := addr, m := meterN, n := newN (gateR addr) } }
def ipcpE (W : WkV) (e : Int) : WkV := ipcpW W (evN W.k.n e) (doO W.k.n e) (evT W.k.n e)
def welcomeW (k : LinkV) (who : ByteArray) (proof : B16) (id : Int) (addr : UInt32) : WkV := bif askedB k then ipcpE (ipcpE (letW (endW1 (beginW k) who proof true) id addr) 2) 0 else beginW k
theorem end1_l (W : WkV) (who : ByteArray) (proof : B16) (good : Bool) : (endW1 W who proof good).k.l = W.k.l ∧ (endW1 W who proof good).sent.length = W.sent.length + 1 ∧ (endW1 W who proof good).want = W.want := by
  refine ⟨rfl, ?_, rfl⟩
  show (W.sent ++ [_]).length = _
  simp
set_option maxHeartbeats 8000000 in
set_option maxRecDepth 20000 in
theorem c_lrefuse (k : LinkV) (hg : Good k.l) (σ : St) : VCalls Tryz.prog 21 [lkv k] σ fun r σ' => r = .tup [lkv (doneK (toldW1 k noS z16 false)), outW (toldW1 k noS z16 false)] ∧ σ' = σ := by
  refine vcalls_intro (C := cfg Tryz.prog [] [] []) (cfg_ok mixed) Tryz.func21 rfl rfl rfl rfl rfl ?_
  simp (maxSteps := 1000000) -implicitDefEqProofs only [go_sem, lkv, lkC]
  refine vgo_call' rfl rfl rfl (c_begun k σ) ?_
  rintro r σ' ⟨rfl, rfl⟩
  refine ⟨rfl, ?_⟩
  simp (maxSteps := 1000000) -implicitDefEqProofs only [go_sem]
  refine vgo_call' rfl rfl rfl (c_lend (beginW k) noS z16 false (Nat.zero_le _) σ) ?_
  rintro r σ' ⟨rfl, rfl⟩
  refine ⟨rfl, ?_⟩
  have ha : askedB (beginW k).k = askedB k := rfl
  rw [ha]
  unfold endW2 toldW1
  rw [ha]
  obtain ⟨q1, q2, q3⟩ := end1_l (beginW k) noS z16 false
  have z1 : (beginW k).sent.length = 0 := rfl
  have z2 : (beginW k).want.length = 0 := rfl
  have hcl := c_lclose (endW1 (beginW k) noS z16 false) (by rw [q1]; exact hg) (by omega) (by rw [q3]; omega) σ
  cases askedB k
  · simp (maxSteps := 1000000) -implicitDefEqProofs only [go_sem]
    refine vgo_call' rfl rfl rfl (c_ldone (beginW k) σ) ?_
    rintro r σ' ⟨rfl, rfl⟩
    refine ⟨rfl, ?_⟩
    generalize beginW k = W
    simp (maxSteps := 1000000) -implicitDefEqProofs only [go_sem, lkC, outC, wS, wF, wT]
    rw [frs_take, zv_take]
    rfl
  · simp (maxSteps := 1000000) -implicitDefEqProofs only [go_sem]
    generalize endW1 (beginW k) noS z16 false = W1 at *
    refine vgo_call' rfl rfl rfl hcl ?_
    rintro r σ' ⟨rfl, rfl⟩
    refine ⟨rfl, ?_⟩
    simp (maxSteps := 1000000) -implicitDefEqProofs only [go_sem]
    refine vgo_call' rfl rfl rfl (c_ldone (closeW W1) σ) ?_
    rintro r σ' ⟨rfl, rfl⟩
    refine ⟨rfl, ?_⟩
    generalize closeW W1 = W
    simp (maxSteps := 1000000) -implicitDefEqProofs only [go_sem, lkC, outC, wS, wF, wT]
    rw [frs_take, zv_take]
    rfl
set_option maxHeartbeats 8000000 in
set_option maxRecDepth 20000 in
theorem c_lfull (k : LinkV) (who : ByteArray) (proof : B16) (hg : Good k.l) (σ : St) : VCalls Tryz.prog 22 [lkv k, .str who, .agg (b16C proof)] σ fun r σ' => r = .tup [lkv (doneK (toldW1 k who proof true)), outW (toldW1 k who proof true)] ∧ σ' = σ := by
  refine vcalls_intro (C := cfg Tryz.prog [] [] []) (cfg_ok mixed) Tryz.func22 rfl rfl rfl rfl rfl ?_
  simp (maxSteps := 1000000) -implicitDefEqProofs only [go_sem, lkv, lkC, b16C]
  refine vgo_call' rfl rfl rfl (c_begun k σ) ?_
  rintro r σ' ⟨rfl, rfl⟩
  refine ⟨rfl, ?_⟩
  simp (maxSteps := 1000000) -implicitDefEqProofs only [go_sem]
  refine vgo_call' rfl rfl rfl (c_lend (beginW k) who proof true (Nat.zero_le _) σ) ?_
  rintro r σ' ⟨rfl, rfl⟩
  refine ⟨rfl, ?_⟩
  have ha : askedB (beginW k).k = askedB k := rfl
  rw [ha]
  unfold endW2 toldW1
  rw [ha]
  obtain ⟨q1, q2, q3⟩ := end1_l (beginW k) who proof true
  have z1 : (beginW k).sent.length = 0 := rfl
  have z2 : (beginW k).want.length = 0 := rfl
  have hcl := c_lclose (endW1 (beginW k) who proof true) (by rw [q1]; exact hg) (by omega) (by rw [q3]; omega) σ
  cases askedB k
  · simp (maxSteps := 1000000) -implicitDefEqProofs only [go_sem]
    refine vgo_call' rfl rfl rfl (c_ldone (beginW k) σ) ?_
    rintro r σ' ⟨rfl, rfl⟩
    refine ⟨rfl, ?_⟩
    generalize beginW k = W
    simp (maxSteps := 1000000) -implicitDefEqProofs only [go_sem, lkC, outC, wS, wF, wT]
    rw [frs_take, zv_take]
    rfl
  · simp (maxSteps := 1000000) -implicitDefEqProofs only [go_sem]
    generalize endW1 (beginW k) who proof true = W1 at *
    refine vgo_call' rfl rfl rfl hcl ?_
    rintro r σ' ⟨rfl, rfl⟩
    refine ⟨rfl, ?_⟩
    simp (maxSteps := 1000000) -implicitDefEqProofs only [go_sem]
    refine vgo_call' rfl rfl rfl (c_ldone (closeW W1) σ) ?_
    rintro r σ' ⟨rfl, rfl⟩
    refine ⟨rfl, ?_⟩
    generalize closeW W1 = W
    simp (maxSteps := 1000000) -implicitDefEqProofs only [go_sem, lkC, outC, wS, wF, wT]
    rw [frs_take, zv_take]
    rfl

theorem c_lipcpS (W : WkV) (n : NgV) (os : List PkV) (ts : List Int) (hg : Good W.k.l) (hs : W.sent.length ≤ 900) (hw : W.want.length ≤ 900) (ho : os.length ≤ 100) (ht : ts.length ≤ 100) (hz : ∀ p ∈ os, PkOK p) (hd : ∀ p ∈ os, p.d.length ≤ 1496) {u v : V} (hu : IsSl u 3 (pkvs os)) (hv : IsSl v 1 (zv64 ts)) (σ : St) :
    VCalls Tryz.prog 67 [.ptr σ.length 0, ngv n, u, v] (wS σ W) fun r σ' => r = .tup [] ∧ σ' = wS σ (ipcpW W n os ts) := by
  obtain ⟨n1, h1⟩ := hu.ne
  obtain ⟨n2, h2⟩ := hv.ne
  exact (c_lipcp W n n1 false n2 false os ts hg hs hw ho ht hz hd σ).ne ⟨.refl _, .refl _, h1, h2, trivial⟩

end Go.VL

/- Contracts of this program's functions: Welcome; what comes of an authentication's end, in plain Lean. Conditions: none. -/
namespace Go.VL
open Go.Proofs

def upN (r : RV) : NgV := { newN r with a := ⟨6, 4, 3, 1⟩ }
def midN (r : RV) : NgV := { newN r with a := ⟨1, 0, 0, 0⟩ }
theorem new_up (r : RV) : evN (newN r) 2 = midN r ∧ doO (newN r) 2 = [] ∧ evT (newN r) 2 = [3] := by
  have h := ev_of (n := newN r) (e := 2) 0 zPk x_a1 x_a2 (m := midN r) rfl
  have hd : doneB (newN r) 2 = true := x_a1
  have ha : doA (newN r).a 2 = (⟨1, 0, 0, 0⟩, [3], 0) := x_a2
  refine ⟨congrArg (fun x => x.1) h, ?_, ?_⟩
  · unfold doO evO
    rw [hd, ha]
    rfl
  · unfold evT
    rw [hd, ha]
    rfl
theorem new_up2 (r : RV) : evN (midN r) 0 = upN r ∧ doO (midN r) 0 = [reqP (upN r)] ∧ evT (midN r) 0 = [] := by
  have h := ev_of (n := midN r) (e := 0) 0 zPk x_b1 x_b2 (m := upN r) rfl
  have hd : doneB (midN r) 0 = true := x_b1
  have ha : doA (midN r).a 0 = (⟨6, 4, 3, 1⟩, [5, 7], 0) := x_b2
  have h1 : evN (midN r) 0 = upN r := congrArg (fun x => x.1) h
  refine ⟨h1, ?_, ?_⟩
  · unfold doO evO
    rw [h1, hd, ha]
    rfl
  · unfold evT
    rw [hd, ha]
    rfl
theorem mid_good (r : RV) : Good (midN r) := by
  have h := Good_new r
  exact ⟨by show aokB ⟨1, 0, 0, 0⟩ = true; decide +kernel, h.k, h.e, h.o⟩
theorem up_good (r : RV) : Good (upN r) := by
  have h := Good_new r
  exact ⟨by show aokB ⟨6, 4, 3, 1⟩ = true; decide +kernel, h.k, h.e, h.o⟩
def setN (W : WkV) (n : NgV) : WkV := { W with k := { W.k with n := n } }
theorem ipcpE_2 {W : WkV} {r : RV} (h : W.k.n = newN r) : ipcpE W 2 = setN W (midN r) := by
  obtain ⟨a1, a2, a3⟩ := new_up r
  unfold ipcpE
  rw [h, a1, a2, a3]
  unfold ipcpW sendW setN
  simp
theorem ipcpE_0 {W : WkV} {r : RV} (h : W.k.n = midN r) : ipcpE W 0 = sendW (setN W (upN r)) 32801 [reqP (upN r)] := by
  obtain ⟨a1, a2, a3⟩ := new_up2 r
  unfold ipcpE
  rw [h, a1, a2, a3]
  unfold ipcpW setN
  simp
/-- Who is let in. -/
def inW (k : LinkV) (who : ByteArray) (proof : B16) (id : Int) (addr : UInt32) : WkV := sendW (setN (letW (endW1 (beginW k) who proof true) id addr) (upN (gateR addr))) 32801 [reqP (upN (gateR addr))]
theorem welcome_is {k : LinkV} (h : askedB k = true) (who : ByteArray) (proof : B16) (id : Int) (addr : UInt32) : welcomeW k who proof id addr = inW k who proof id addr := by
  unfold welcomeW inW
  rw [h]
  show ipcpE (ipcpE _ 2) 0 = _
  rw [ipcpE_2 (W := letW _ id addr) (r := gateR addr) rfl, ipcpE_0 (r := gateR addr) rfl]
  rfl

set_option maxHeartbeats 16000000 in
set_option maxRecDepth 20000 in
theorem c_lwelcome (k : LinkV) (who : ByteArray) (proof : B16) (id : Int) (addr : UInt32) (hg : Good k.l) (σ : St) : VCalls Tryz.prog 23 [lkv k, .str who, .agg (b16C proof), .int .i64 id, .int .u32 addr.toNat] σ fun r σ' => r = .tup [lkv (doneK (welcomeW k who proof id addr)), outW (welcomeW k who proof id addr)] ∧ σ' = σ := by
  refine vcalls_intro (C := cfg Tryz.prog [] [] []) (cfg_ok mixed) Tryz.func23 rfl rfl rfl rfl rfl ?_
  simp (maxSteps := 1000000) -implicitDefEqProofs only [go_sem, lkv, lkC, b16C]
  refine vgo_call' rfl rfl rfl (c_begun k σ) ?_
  rintro r σ' ⟨rfl, rfl⟩
  refine ⟨rfl, ?_⟩
  simp (maxSteps := 1000000) -implicitDefEqProofs only [go_sem]
  refine vgo_call' rfl rfl rfl (c_lend (beginW k) who proof true (Nat.zero_le _) σ) ?_
  rintro r σ' ⟨rfl, rfl⟩
  refine ⟨rfl, ?_⟩
  have ha : askedB (beginW k).k = askedB k := rfl
  rw [ha]
  unfold endW2 welcomeW
  rw [ha]
  obtain ⟨q1, q2, q3⟩ := end1_l (beginW k) who proof true
  have z1 : (beginW k).sent.length = 0 := rfl
  have z2 : (beginW k).want.length = 0 := rfl
  cases askedB k
  · simp (maxSteps := 1000000) -implicitDefEqProofs only [go_sem]
    refine vgo_call' rfl rfl rfl (c_ldone (beginW k) σ) ?_
    rintro r σ' ⟨rfl, rfl⟩
    refine ⟨rfl, ?_⟩
    generalize beginW k = W
    simp (maxSteps := 1000000) -implicitDefEqProofs only [go_sem, lkC, outC, wS, wF, wT]
    rw [frs_take, zv_take]
    rfl
  · have hmn := fun σ => c_mnew σ
    unfold mev meC at hmn
    have hnw := fun σ => c_new (gateR addr) σ
    unfold rv rvC at hnw
    have hl1 : (endW1 (beginW k) who proof true).sent.length ≤ 1 ∧ (endW1 (beginW k) who proof true).want.length ≤ 1 := ⟨by omega, by rw [q3]; omega⟩
    have hgl : Good (endW1 (beginW k) who proof true).k.l := by rw [q1]; exact hg
    generalize endW1 (beginW k) who proof true = W1 at *
    have hw2 : (letW W1 id addr).k.n = newN (gateR addr) := rfl
    have hg2 : Good (letW W1 id addr).k.l := hgl
    have hl2 : (letW W1 id addr).sent.length ≤ 1 ∧ (letW W1 id addr).want.length ≤ 1 := hl1
    obtain ⟨a1, s1, b1, t1, hr1, hu1, hv1⟩ := ev_res (newN (gateR addr)) 2 0 zPk
    have hd1 := fun σ => c_ndo (newN (gateR addr)) 2 (Good_new _).cnt (Good_new _).e σ
    rw [do_ev (by decide), hr1] at hd1
    have hi1 := c_lipcpS (letW W1 id addr) (evN (newN (gateR addr)) 2) (doO (newN (gateR addr)) 2) (evT (newN (gateR addr)) 2) hg2 (by omega) (by omega) (by rw [(new_up _).2.1]; exact Nat.zero_le _) (by rw [(new_up _).2.2]; simp) (fun p hp => (doO_ok (Good_new _) 2 p hp).1) (fun p hp => (doO_ok (Good_new _) 2 p hp).2) hu1 hv1 σ
    have e1 : ipcpW (letW W1 id addr) (evN (newN (gateR addr)) 2) (doO (newN (gateR addr)) 2) (evT (newN (gateR addr)) 2) = ipcpE (letW W1 id addr) 2 := rfl
    rw [e1, ipcpE_2 (r := gateR addr) hw2] at hi1
    rw [ipcpE_2 (r := gateR addr) hw2]
    have hw3 : (setN (letW W1 id addr) (midN (gateR addr))).k.n = midN (gateR addr) := rfl
    have hg3 : Good (setN (letW W1 id addr) (midN (gateR addr))).k.l := hgl
    have hl3 : (setN (letW W1 id addr) (midN (gateR addr))).sent.length ≤ 1 ∧ (setN (letW W1 id addr) (midN (gateR addr))).want.length ≤ 1 := hl1
    unfold ngv ngC at hd1 hnw
    simp (maxSteps := 1000000) -implicitDefEqProofs only [go_sem]
    refine vgo_call rfl rfl rfl rfl (hmn _) ?_
    simp (maxSteps := 1000000) -implicitDefEqProofs only [go_sem, wS, wB, wkC]
    refine vgo_call rfl rfl rfl rfl (hnw _) ?_
    simp (maxSteps := 1000000) -implicitDefEqProofs only [go_sem]
    refine vgo_call rfl rfl rfl rfl (hd1 _) ?_
    simp (maxSteps := 1000000) -implicitDefEqProofs only [go_sem]
    refine vgo_call' rfl rfl rfl hi1 ?_
    rintro r σ' ⟨rfl, rfl⟩
    refine ⟨rfl, ?_⟩
    generalize setN (letW W1 id addr) (midN (gateR addr)) = W3 at *
    obtain ⟨a2, s2, b2, t2, hr2, hu2, hv2⟩ := ev_res W3.k.n 0 0 zPk
    have hgm : Good W3.k.n := by rw [hw3]; exact mid_good _
    have hd2 := fun σ => c_ndo W3.k.n 0 hgm.cnt hgm.e σ
    rw [do_ev (by decide), hr2] at hd2
    have hi2 := c_lipcpS W3 (evN W3.k.n 0) (doO W3.k.n 0) (evT W3.k.n 0) hg3 (by omega) (by omega) (by rw [hw3, (new_up2 _).2.1]; simp) (by rw [hw3, (new_up2 _).2.2]; simp) (fun p hp => (doO_ok hgm 0 p hp).1) (fun p hp => (doO_ok hgm 0 p hp).2) hu2 hv2 σ
    have e2 : ipcpW W3 (evN W3.k.n 0) (doO W3.k.n 0) (evT W3.k.n 0) = ipcpE W3 0 := rfl
    rw [e2] at hi2
    unfold ngv ngC at hd2
    simp (maxSteps := 1000000) -implicitDefEqProofs only [go_sem, wS, wB, wkC]
    refine vgo_call rfl rfl rfl rfl (hd2 _) ?_
    simp (maxSteps := 1000000) -implicitDefEqProofs only [go_sem]
    refine vgo_call' rfl rfl rfl hi2 ?_
    rintro r σ' ⟨rfl, rfl⟩
    refine ⟨rfl, ?_⟩
    generalize ipcpE W3 0 = W4
    simp (maxSteps := 1000000) -implicitDefEqProofs only [go_sem]
    refine vgo_call' rfl rfl rfl (c_ldone W4 σ) ?_
    rintro r σ' ⟨rfl, rfl⟩
    refine ⟨rfl, ?_⟩
    simp (maxSteps := 1000000) -implicitDefEqProofs only [go_sem, lkC, outC, wS, wF, wT]
    rw [frs_take, zv_take]
    rfl

end Go.VL

/- LinkJudged's law. Conditions: none. -/
namespace Go.VL
open Go.Proofs

/-! Plain: who is told so. -/
theorem done_begin {k : LinkV} (hg : GoodK k) : doneK (beginW k) = k := by
  show ({ k with phase := phaseP k } : LinkV) = k
  rw [← hg.phase]
theorem asked_is {k : LinkV} (h : askedB k = true) : k.l.a.st = 9 ∧ k.sess < 0 ∧ k.a.st = 1 := by
  unfold askedB at h
  simp only [Bool.and_eq_true, beq_iff_eq] at h
  obtain ⟨h1, h2⟩ := h
  unfold phaseP at h1
  cases q : k.l.a.st == 9
  · rw [q] at h1
    simp only [Bool.false_and, cond_false] at h1
    cases q6 : decide (6 ≤ k.l.a.st)
    · rw [q6] at h1
      simp only [cond_false] at h1
      cases q4 : decide (4 ≤ k.l.a.st) <;> rw [q4] at h1 <;> simp at h1
    · rw [q6] at h1
      simp at h1
  · rw [q] at h1
    simp only [Bool.true_and, cond_true] at h1
    cases qs : decide (0 ≤ k.sess)
    · exact ⟨by simpa using q, by simpa using qs, h2⟩
    · rw [qs] at h1
      simp at h1
theorem c91 : (nextP 9 3).2.2 = true ∧ (nextP 9 3).1 = [2, 5, 10] ∧ (nextP 9 3).2.1 = 4 := by decide +kernel
/-- LCP is closed where it was Opened. -/
theorem close9 {n : NgV} (h : n.a.st = 9) : (evN n 3).a.st = 4 ∧ (doO n 3).length = 1 ∧ evT n 3 = [2] := by
  obtain ⟨c1, c2, c3⟩ := c91
  have hd : doneB n 3 = true := by unfold doneB; rw [h]; exact c1
  have hl : (doA n.a 3).2.1 = [2, 5, 10] := by rw [(do_done hd).2, h]; exact c2
  refine ⟨by rw [ev_st, h]; exact c3, ?_, ?_⟩
  · unfold doO evO
    rw [hd, hl]
    rfl
  · unfold evT
    rw [hd, hl]
    rfl
theorem closeW9 {W : WkV} (h : W.k.l.a.st = 9) : (doneK (closeW W)).phase = 4 ∧ (closeW W).k.sess = -1 ∧ (closeW W).sent.length = W.sent.length + 1 := by
  obtain ⟨c1, c2, c3⟩ := close9 h
  have hl : (closeW W).k.l = evN W.k.l 3 := (lcp_l _ _ _ _).1
  refine ⟨?_, ?_, ?_⟩
  · show phaseP (closeW W).k = 4
    unfold phaseP
    rw [hl, c1]
    rfl
  · unfold closeW lcpW
    rw [c3]
    show (toldW _ 2).k.sess = -1
    rfl
  · show (lcpW _ _ _ _).sent.length = _
    rw [lcp_sent, c2]
theorem told_asked {k : LinkV} (h : askedB k = true) (who : ByteArray) (proof : B16) (good : Bool) : (doneK (toldW1 k who proof good)).phase = 4 ∧ (doneK (toldW1 k who proof good)).sess = -1 ∧ (toldW1 k who proof good).sent.length = 2 := by
  unfold toldW1
  rw [h]
  obtain ⟨h1, h2, h3⟩ := closeW9 (W := endW1 (beginW k) who proof good) (asked_is h).1
  exact ⟨h1, h2, by rw [cond_true, h3, (end1_l _ _ _ _).2.1]; rfl⟩
theorem in_asked {k : LinkV} (h : askedB k = true) (who : ByteArray) (proof : B16) {id : Int} (hi : 0 ≤ id) (addr : UInt32) : (doneK (inW k who proof id addr)).phase = 3 ∧ (doneK (inW k who proof id addr)).sess = id ∧ (doneK (inW k who proof id addr)).addr = addr ∧ (doneK (inW k who proof id addr)).a.who = who ∧ (inW k who proof id addr).sent.length = 2 := by
  refine ⟨?_, rfl, rfl, rfl, rfl⟩
  show phaseP _ = 3
  unfold phaseP
  have h9 : (k.l.a.st == 9) = true := by simpa using (asked_is h).1
  have hs : decide (0 ≤ id) = true := by simpa using hi
  show (bif (k.l.a.st == 9) && decide (0 ≤ id) then (3 : Int) else _) = 3
  rw [h9, hs]
  rfl

/-! What the law is asked of. -/
def judC (k : LinkV) (p : B16) (id : UInt16) (addr : UInt32) : List V := lkC k ++ (b16C p ++ [.int .u16 id.toNat, .int .u32 addr.toNat])
section
variable (k : LinkV) (p : B16) (id : UInt16) (addr : UInt32)
theorem jud_len : (judC k p id addr).length = 87 := rfl
theorem jud_imm : (judC k p id addr).all imm1 = true := rfl
theorem jud_cell : (judC k p id addr).all cell1 = true := rfl
theorem jud_take : (judC k p id addr).take 69 = lkC k := rfl
theorem jud_p : ((judC k p id addr).drop 69) = b16C p ++ [.int .u16 id.toNat, .int .u32 addr.toNat] := rfl
theorem jud_id : ((judC k p id addr).drop 85) = [.int .u16 id.toNat, .int .u32 addr.toNat] := rfl
theorem jud_addr : ((judC k p id addr).drop 86) = [.int .u32 addr.toNat] := rfl
end
def uS : ByteArray := ⟨#[117]⟩
theorem wrap_u16 (x : UInt16) : IntKind.i64.wrap (x.toNat : Int) = (x.toNat : Int) := by
  have := x.toNat_lt
  exact wrap_ok (by omega) (by omega)

set_option maxHeartbeats 16000000 in
set_option maxRecDepth 20000 in
theorem c_linkJudged (k : LinkV) (p : B16) (id : UInt16) (addr : UInt32) (hz : k.line.sz = 1) (h1 : k.l.ps = 2) (h2 : k.n.ps = 2) (σ : St) :
    VCalls Tryz.prog 5 [.agg (judC k p id addr)] σ fun r σ' => r = .bool true ∧ σ' = σ := by
  refine vcalls_intro (C := cfg Tryz.prog [] [] []) (cfg_ok mixed) Tryz.func5 rfl rfl rfl rfl rfl ?_
  simp (maxSteps := 1000000) -implicitDefEqProofs only [go_sem, jud_len, jud_cell, jud_imm, jud_take, jud_p, jud_id, jud_addr, lk_len, lk_take, lk_cell, lk_imm, set_lk, b16C]
  refine vgo_call rfl rfl rfl rfl (c_shown18 σ) ?_
  simp (maxSteps := 1000000) -implicitDefEqProofs only [go_sem, lk_len, lk_take, lk_cell, lk_imm, set_lk]
  refine vgo_call rfl rfl rfl rfl (c_r18small k h1 h2 σ) ?_
  cases hs : smallK k
  · simp (maxSteps := 1000000) -implicitDefEqProofs only [go_sem, lk_len, lk_take, lk_cell, lk_imm, set_lk]
  have hsN : smallN k.l = true ∧ smallN k.n = true := by
    unfold smallK at hs
    simp only [Bool.and_eq_true] at hs
    exact ⟨hs.1.1.1, hs.1.1.2⟩
  have hf1 : few k.l.ours = true := by have := hsN.1; unfold smallN at this; simp only [Bool.and_eq_true] at this; exact this.1
  have hf2 : few k.n.ours = true := by have := hsN.2; unfold smallN at this; simp only [Bool.and_eq_true] at this; exact this.1
  have hL := fun σ => c_rright14 k.l hf1 σ
  have hN := fun σ => c_rright14 k.n hf2 σ
  have hb : k.line.b.length ≤ lim := by
    unfold smallK at hs
    simp only [Bool.and_eq_true, decide_eq_true_eq] at hs
    unfold lim
    omega
  simp (maxSteps := 1000000) -implicitDefEqProofs only [go_sem, lk_len, lk_take, lk_cell, lk_imm, set_lk]
  refine vgo_call rfl rfl rfl rfl (c_r18right1 k hz hL hN σ) ?_
  cases hr : rightK k
  · simp (maxSteps := 1000000) -implicitDefEqProofs only [go_sem, lk_len, lk_take, lk_cell, lk_imm, set_lk]
  have hg := goodK_of hs hr
  have n0 : (((0 : Nat) : Int) == 0) = true := rfl
  have n2 : (((2 : Nat) : Int) == 2) = true := rfl
  have hA := c_lrefuse k hg.l σ
  have hB := c_lfull k uS p hg.l σ
  have hC := c_lwelcome k uS p (id.toNat : Int) addr hg.l σ
  have hsm := c_r18same k k ⟨.inl hz, .inl h1, .inl h2⟩ ⟨.inl hz, .inl h1, .inl h2⟩ hb (cmp_small hsN.1) (cmp_small hsN.2) σ
  rw [sameK_self] at hsm
  have hw := wrap_u16 id
  unfold uS at hB hC
  simp (maxSteps := 1000000) -implicitDefEqProofs only [go_sem, lk_len, lk_take, lk_cell, lk_imm, set_lk]
  cases ha : askedB k
  · have ea : ∀ w q g, toldW1 k w q g = beginW k := fun w q g => by unfold toldW1; rw [ha]; rfl
    have ec : ∀ w q i a, welcomeW k w q i a = beginW k := fun w q i a => by unfold welcomeW; rw [ha]; rfl
    rw [ea, done_begin hg] at hA hB
    rw [ec, done_begin hg] at hC
    unfold outW outC beginW at hA hB hC
    refine vgo_call rfl rfl rfl rfl hA ?_
    simp (maxSteps := 1000000) -implicitDefEqProofs only [go_sem, lkv, lk_len, lk_take, lk_cell, lk_imm, set_lk]
    refine vgo_call rfl rfl rfl rfl hB ?_
    simp (maxSteps := 1000000) -implicitDefEqProofs only [go_sem, lkv, lk_len, lk_take, lk_cell, lk_imm, set_lk, hw]
    refine vgo_call rfl rfl rfl rfl hC ?_
    simp (maxSteps := 1000000) -implicitDefEqProofs only [go_sem, lkv, lk_len, lk_take, lk_cell, lk_imm, set_lk]
    unfold lkv at hsm
    unfold lkC at hsm ⊢
    have fl0 : (frs ([] : List FrV)).length = 0 := rfl
    have s1 : IntKind.i64.wrap (((0 : Nat) : Int) + ((0 : Nat) : Int)) = 0 := by decide
    have s2 : IntKind.i64.wrap (0 + ((0 : Nat) : Int)) = 0 := by decide
    unfold askedB at ha
    rw [← hg.phase] at ha
    cases q1 : k.phase == 2
    · simp (maxSteps := 1000000) -implicitDefEqProofs only [go_sem, bne, q1, fl0, s1, s2]
      refine vgo_call rfl rfl rfl rfl hsm ?_
      simp (maxSteps := 1000000) -implicitDefEqProofs only [go_sem]
      refine vgo_call rfl rfl rfl rfl hsm ?_
      simp (maxSteps := 1000000) -implicitDefEqProofs only [go_sem]
      refine vgo_call rfl rfl rfl rfl hsm ?_
      simp (maxSteps := 1000000) -implicitDefEqProofs only [go_sem]
    · rw [q1, Bool.true_and] at ha
      simp (maxSteps := 1000000) -implicitDefEqProofs only [go_sem, bne, q1, ha, fl0, s1, s2]
      refine vgo_call rfl rfl rfl rfl hsm ?_
      simp (maxSteps := 1000000) -implicitDefEqProofs only [go_sem]
      refine vgo_call rfl rfl rfl rfl hsm ?_
      simp (maxSteps := 1000000) -implicitDefEqProofs only [go_sem]
      refine vgo_call rfl rfl rfl rfl hsm ?_
      simp (maxSteps := 1000000) -implicitDefEqProofs only [go_sem]
  · obtain ⟨a1, a2, a3⟩ := told_asked ha noS z16 false
    obtain ⟨b1, b2, b3⟩ := told_asked ha ⟨#[117]⟩ p true
    obtain ⟨c1, c2, c3, c4, c5⟩ := in_asked ha ⟨#[117]⟩ p (id := (id.toNat : Int)) (Int.natCast_nonneg _) addr
    rw [welcome_is ha] at hC
    unfold outW outC at hA hB hC
    generalize doneK (toldW1 k noS z16 false) = A at *
    generalize toldW1 k noS z16 false = WA at *
    generalize doneK (toldW1 k ⟨#[117]⟩ p true) = B at *
    generalize toldW1 k ⟨#[117]⟩ p true = WB at *
    generalize doneK (inW k ⟨#[117]⟩ p (id.toNat : Int) addr) = C at *
    generalize inW k ⟨#[117]⟩ p (id.toNat : Int) addr = WC at *
    have x1 : (A.phase == 4) = true := by rw [a1]; rfl
    have x2 : decide (A.sess < 0) = true := by rw [a2]; rfl
    have x3 : (((frs WA.sent).length : Int) == 2) = true := by rw [frs_length, a3]; rfl
    have y1 : (B.phase == 4) = true := by rw [b1]; rfl
    have y2 : decide (B.sess < 0) = true := by rw [b2]; rfl
    have y3 : (((frs WB.sent).length : Int) == 2) = true := by rw [frs_length, b3]; rfl
    have w1 : (C.phase == 3) = true := by rw [c1]; rfl
    have w2 : (C.sess == (id.toNat : Int)) = true := by rw [c2]; simp
    have w3 : ((C.addr.toNat : Int) == (addr.toNat : Int)) = true := by rw [c3]; simp
    have w5 : (((frs WC.sent).length : Int) == 2) = true := by rw [frs_length, c5]; rfl
    have w4 : C.a.who = ⟨#[117]⟩ := c4
    refine vgo_call rfl rfl rfl rfl hA ?_
    simp (maxSteps := 1000000) -implicitDefEqProofs only [go_sem, lkv, lk_len, lk_take, lk_cell, lk_imm, set_lk]
    refine vgo_call rfl rfl rfl rfl hB ?_
    simp (maxSteps := 1000000) -implicitDefEqProofs only [go_sem, lkv, lk_len, lk_take, lk_cell, lk_imm, set_lk, hw]
    refine vgo_call rfl rfl rfl rfl hC ?_
    simp (maxSteps := 1000000) -implicitDefEqProofs only [go_sem, lkv, lk_len, lk_take, lk_cell, lk_imm, set_lk]
    unfold askedB at ha
    rw [← hg.phase] at ha
    simp only [Bool.and_eq_true] at ha
    obtain ⟨q1, q2⟩ := ha
    unfold lkC
    have se : strEq ⟨#[117]⟩ ⟨#[117]⟩ = true := by decide +kernel
    simp (maxSteps := 1000000) -implicitDefEqProofs only [go_sem, bne, q1, q2, x1, x2, x3, y1, y2, y3, w1, w2, w3, w4, w5, hw, se]

end Go.VL

/- LinkJudged: at every link, proof, number and address the law answers true, and leaves its arguments as they were. Conditions: none. -/
namespace Go.Proofs.YtonjofnphkghcaaGreatDoor
open Go.VL Go.ChangeShapes Go.WideShapes Go.RowKit

theorem linkJudged_calls (vs : List V) (h : argsV [shJudged] vs) : VCalls Tryz.prog 5 vs [] fun r _ => r = .bool true := by
  obtain ⟨c1, r1, rfl, ⟨x, y, rfl, h1, x, y, rfl, h2, x, y, rfl, ⟨n3, rfl, h3⟩, x, y, rfl, ⟨n4, rfl, h4⟩, rfl⟩, rfl⟩ := h
  obtain ⟨k, rfl, hk⟩ := link_of h1
  obtain ⟨p, rfl⟩ := b16_of h2
  obtain ⟨i, rfl⟩ := wf_u16 h3
  obtain ⟨a, rfl⟩ := wf_u32 h4
  exact (c_linkJudged k p i a hk.z hk.l hk.n []).mono fun _ _ h => h.1

set_option maxRecDepth 100000 in
theorem linkJudged_lifted (os : Os) (started : os.Started) (H : Type) (enc : TypeId × Value → H) :
    ReturnsInHanded {} Tryz.checked os 5 .any (fun w args => (Rows.linkJudgedSpec.pre enc Tryz.prog Tryz.f5 Rows.linkJudgedRow.domain false w args ∧ laidMetH Tryz.prog laidL w) ∧ sizedMet enc Tryz.prog Tryz.f5 (OpenSpec.ofChange Rows.linkJudgedSpec) false w args)
      (Rows.linkJudgedSpec.post enc Tryz.prog Tryz.f5 false true false false) := by
  refine returnsInHanded_of_change_and (C := Tryz.checked) (X := fun w _ => laidMetH Tryz.prog laidL w) (fun _ _ _ hh h => h.of_heap hh) own started (by kernel_rfl) Tryz.func5
    (ChangeSpec.witness_shaped (enc := enc) (C := Tryz.checked) (os := os) (X := fun w _ => laidMetH Tryz.prog laidL w) false (World.laidAll Tryz.prog os laidL) #[.agg #[.int .i64 0, .slice none 0 0, .bool false, .int .i64 0, .int .i64 0, .int .i64 0, .int .u8 0, .bool false, .int .u32 0, .int .u32 0, .int .u32 0, .int .u32 0, .slice none 0 0, .int .i64 0, .slice none 0 0, .int .i64 0, .int .i64 0, .int .i64 0, .int .u8 0, .bool false, .int .u32 0, .int .u32 0, .int .u32 0, .int .u32 0, .slice none 0 0, .int .i64 0, .slice none 0 0, .int .i64 0, .int .i64 0, .int .i64 0, .int .u8 0, .int .u8 0, .int .u8 0, .int .u8 0, .int .u8 0, .int .u8 0, .int .u8 0, .int .u8 0, .int .u8 0, .int .u8 0, .int .u8 0, .int .u8 0, .int .u8 0, .int .u8 0, .int .u8 0, .int .u8 0, .int .u8 0, .string ⟨#[]⟩, .int .u8 0, .int .u8 0, .int .u8 0, .int .u8 0, .int .u8 0, .int .u8 0, .int .u8 0, .int .u8 0, .int .u8 0, .int .u8 0, .int .u8 0, .int .u8 0, .int .u8 0, .int .u8 0, .int .u8 0, .int .u8 0, .int .u64 0, .int .u64 0, .int .i64 0, .int .i64 0, .int .u32 0, .int .u8 0, .int .u8 0, .int .u8 0, .int .u8 0, .int .u8 0, .int .u8 0, .int .u8 0, .int .u8 0, .int .u8 0, .int .u8 0, .int .u8 0, .int .u8 0, .int .u8 0, .int .u8 0, .int .u8 0, .int .u8 0, .int .u16 0, .int .u32 0]] 8 (World.laidAll_os _ _ _)
      (World.shaped_of_ZipB (by kernel_rfl) (by kernel_rfl)) (by kernel_rfl) (by kernel_rfl) (by kernel_rfl)
      (by rw [MakeChecks.laidMetH_plain _ _ _ (by kernel_rfl)]; exact laidMet_laidAll _ (by kernel_rfl) (by kernel_rfl))) ?_
  intro W base args ds gs before hval0 hW hcnd hsz0 hL _
  have hW' := hW
  obtain ⟨p, q, hA0, hV, rfl, hfz, hnd⟩ := hW
  obtain ⟨rfl, rfl⟩ := trodVars_none hV
  have hval : ∀ (j : Nat) t v, (Tryz.f5.params.toList)[j]? = some t → args.toList[j]? = some v → Value.okWide Tryz.prog W .any base t v := fun j t v h1 h2 => hval0 j t v (by simpa using h1) (by simpa using h2)
  refine (law_calls_g (ss := [shJudged]) (by kernel_rfl) linkJudged_calls (glo_of hL) hval hA0 hsz0).mono fun e W' ⟨he, bel⟩ => ?_
  subst he
  have hb := again_of' laidOut bel (by kernel_rfl) hA0
  obtain ⟨v0, vs0, d0, ds0, p0, q0, e0a, rfl, e0b, h0, r0⟩ := trodAll_cons (show DataW.TrodAll enc Tryz.prog W 0 (fun _ => true) true [66] args.toList ds p from hA0)
  obtain ⟨_, rfl, _⟩ := trodAll_nil r0
  exact ⟨_, rfl, _, _, _, [], _, [], hW', trodAll_mk1 (shut_bool Tryz.underlying4 _), hb, rfl, bel.frame _, fun h => by cases h⟩

theorem linkJudged_holds : Rows.LinkJudgedSaid :=
  OpenClaim.holds_of_wide 5 Tryz.f5 rfl rfl rfl rfl rfl rfl rfl ⟨rfl, rfl, rfl, rfl, rfl⟩ rfl rfl rfl rfl rfl (by kernel_rfl) Tryz.func5 (by kernel_rfl)
    (of_decide_eq_true (by kernel_rfl)) (by unfold Func.isWrapper; first | (rw [if_pos (by decide +kernel)]; kernel_rfl) | (rw [if_neg (by decide +kernel)]; exact ⟨rfl, rfl⟩))
    (fun os started H enc _ => linkJudged_lifted os started H enc)
theorem linkJudged_card : Rows.LinkJudgedCardSaid :=
  Claim7.holds_tied_plain_at .later [] [.listed, .data] true (true, "c0a8c998641c89cad588d90fec08d04a5e256d923978a8ee92bd971b1ad12cd0") false
    linkJudged_holds (fun _ h => by cases h) (by kernel_rfl) (fun _ h => by cases h) linkJudged_row_tie rfl ⟨rfl, rfl⟩ (by kernel_rfl) rfl
    (fun f fn hf hfn => by
      obtain rfl : f = 5 := Option.some.inj ((show Tryz.prog.funcNamed "portreeve/portreevelaw18.LinkJudged" = some 5 by kernel_rfl).symm.trans hf) |>.symm
      obtain rfl : fn = Tryz.f5 := (Option.some.inj (Tryz.func5.symm.trans hfn)).symm
      exact ⟨by kernel_rfl, fun j t ht => by
        have ht : (#[66] : Array TypeId)[j]? = some t := ht
        have hm : t ∈ [66] := by simpa using Array.mem_of_getElem? ht
        have hall : ([66].all fun u => !Tryz.prog.wantsStandIn u) = true := by kernel_rfl
        exact (show Tryz.prog.wantsStandIn t = false by simpa using List.all_eq_true.1 hall t hm)⟩)
    (by kernel_rfl)
#print axioms linkJudged_holds
#print axioms linkJudged_card

end Go.Proofs.YtonjofnphkghcaaGreatDoor
