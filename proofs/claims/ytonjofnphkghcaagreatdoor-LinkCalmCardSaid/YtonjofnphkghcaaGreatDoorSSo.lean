/- Contracts of this program's functions over values, joined texts. Conditions: none. -/
import Derived.Test.YtonjofnphkghcaaGreatDoorSSn
set_option linter.unusedVariables false
set_option linter.unusedSimpArgs false
/- LinkPlug's law. Conditions: none. -/
namespace Go.VL
open Go.Proofs

/-- What is plugged where nothing is. -/
def plugK (u : LinkV) (m o : UInt32) : LinkV := { u with l := plN m o, phase := 1 }
theorem plug_u {u : LinkV} (h : u.l.a.st = 0) (m o : UInt32) : doneK (plugW u m o) = plugK u m o ∧ (plugW u m o).sent = [frmOf 49185 (reqP (plN m o))] := by
  rw [plug_is h m o]
  exact ⟨rfl, rfl⟩
end Go.VL

/- Contracts of this program's functions: who is told so: refused, no room, welcome. Conditions: none. -/
namespace Go.VL
open Go.Proofs

/-! An authentication ends. -/
def endA (a : AuthV) (who : ByteArray) (proof : B16) (good : Bool) : AuthV := bif good then { a with left := 0, st := 2, who := who, proof := proof } else { a with left := 0, st := 3, who := noS, proof := z16 }
def endP (a : AuthV) (good : Bool) : PkV := ⟨bif good then 3 else 4, a.id, true, false, 0, []⟩
set_option maxHeartbeats 1000000 in
set_option maxRecDepth 20000 in
theorem c_cend (a : AuthV) (who : ByteArray) (proof : B16) (good : Bool) (σ : St) : VCalls Tryz.prog 125 [auhv a, .str who, .agg (b16C proof), .bool good] σ fun r σ' => r = .tup [auhv (endA a who proof good), pkv (endP a good)] ∧ σ' = σ := by
  refine vcalls_intro (C := cfg Tryz.prog [] [4] []) (cfg_ok mixed) Tryz.func125 rfl rfl rfl rfl rfl ?_
  unfold endA endP
  cases good
  · simp (maxSteps := 1000000) -implicitDefEqProofs only [go_sem, auhv, auhC, b16C, pkv, pkC, noS, z16]
    refine w_walk2 [4, 5] [0, 1, 2, 3, 4, 5] [17, 18, 19, 20] [0, 0, 2, 6, 1, 31] rfl rfl rfl rfl ?_
    simp (maxSteps := 1000000) -implicitDefEqProofs only [go_sem]
    rfl
  · simp (maxSteps := 1000000) -implicitDefEqProofs only [go_sem, auhv, auhC, b16C, pkv, pkC]
    refine w_walk2 [3, 5, 7] [0, 1, 2, 3, 4, 5, 6, 7] [21, 22, 23, 24, 25] [0, 0, 0, 4, 13, 29, 63, 127] rfl rfl rfl rfl ?_
    simp (maxSteps := 1000000) -implicitDefEqProofs only [go_sem]
    refine w_walk2 [4, 5] [0, 1, 2, 3, 4, 5] [26, 27, 28, 29] [0, 0, 2, 6, 1, 31] rfl rfl rfl rfl ?_
    simp (maxSteps := 1000000) -implicitDefEqProofs only [go_sem]
    rfl

def meterN : MeterV := ⟨0, 0, 6⟩
theorem c_mnew (σ : St) : VCalls Tryz.prog 66 [] σ fun r σ' => r = mev meterN ∧ σ' = σ := by
  refine vcalls_intro (C := cfg Tryz.prog [] [] []) (cfg_ok mixed) Tryz.func66 rfl rfl rfl rfl rfl ?_
  simp (maxSteps := 1000000) -implicitDefEqProofs only [go_sem]
  rfl

/-- Who is there is asked: it may be told so. -/
def askedB (k : LinkV) : Bool := (phaseP k == 2) && (k.a.st == 1)
def endW1 (W : WkV) (who : ByteArray) (proof : B16) (good : Bool) : WkV := sendW { W with k := { W.k with a := endA W.k.a who proof good } } 49699 [endP W.k.a good]
def endW2 (W : WkV) (who : ByteArray) (proof : B16) (good : Bool) : WkV := bif askedB W.k then endW1 W who proof good else W
theorem pk_nil (c i : UInt8) : PkOK ⟨c, i, true, false, 0, []⟩ := .inr ⟨rfl, rfl⟩
set_option maxHeartbeats 8000000 in
set_option maxRecDepth 20000 in
theorem c_lend (W : WkV) (who : ByteArray) (proof : B16) (good : Bool) (hs : W.sent.length ≤ 1000) (σ : St) : VCalls Tryz.prog 65 [.ptr σ.length 0, .str who, .agg (b16C proof), .bool good] (wS σ W) fun r σ' => r = .bool (askedB W.k) ∧ σ' = wS σ (endW2 W who proof good) := by
  refine vcalls_keep (C := cfg Tryz.prog [] [] []) (cfg_ok mixed) Tryz.func65 rfl rfl rfl rfl rfl ?_
  have hp := fun σ => c_lphase W.k σ
  unfold lkv lkC at hp
  have hc := fun σ => c_cend W.k.a who proof good σ
  obtain ⟨A', hA⟩ : ∃ A', A' = endA W.k.a who proof good := ⟨_, rfl⟩
  obtain ⟨P', hP⟩ : ∃ P', P' = endP W.k.a good := ⟨_, rfl⟩
  have hsd := fun (W' : WkV) (hW : W'.sent = W.sent) => c_lsend W' 49699 false true [P'] (by rw [hW]; omega) (by simp) (fun p hp => by rw [List.mem_singleton.1 hp, hP]; exact pk_nil _ _) (fun p hp => by rw [List.mem_singleton.1 hp, hP]; exact Nat.zero_le _) σ
  generalize hFS : wS σ (endW2 W who proof good) = FS
  unfold endW2 endW1 askedB at hFS
  rw [← hA, ← hP] at hFS hc
  clear hA hP
  unfold auhv auhC pkv pkC at hc
  unfold b16C at hc ⊢
  unfold askedB
  simp (maxSteps := 1000000) -implicitDefEqProofs only [go_sem, wS, wB, wkC]
  refine vgo_call rfl rfl rfl rfl (hp _) ?_
  simp (maxSteps := 1000000) -implicitDefEqProofs only [go_sem, bne]
  cases q1 : phaseP W.k == 2
  · rw [q1] at hFS
    simp (maxSteps := 1000000) -implicitDefEqProofs only [go_sem, vendK]
    exact hFS
  simp (maxSteps := 1000000) -implicitDefEqProofs only [go_sem, bne]
  cases q2 : W.k.a.st == 1
  · rw [q1, q2] at hFS
    simp (maxSteps := 1000000) -implicitDefEqProofs only [go_sem, vendK]
    exact hFS
  rw [q1, q2] at hFS
  simp (maxSteps := 1000000) -implicitDefEqProofs only [go_sem]
  refine w_walkP (α := Unit) (fun _ => True) (fun _ => [(0, .ptr σ.length 0), (9, .cell (auhC A')), (10, .cell (pkC P'))]) (fun _ => wS σ W) [12, 13] [12, 13, 14, 15] [27, 28, 29, 30, 31, 32, 33, 34, 35, 26, 36, 37] [] [([12, 13], [0, 1, 2, 3, 4, 5, 6, 7, 8, 9, 10, 11, 12, 13, 14, 15], [0, 1, 3, 7, 15, 0, 0, 0, 255, 511, 1023, 1023, 0, 4096, 14335, 32767]), ([13, 12], [0, 1, 2, 3, 4, 5, 6, 7, 8, 9, 10, 11, 13, 12, 14, 15], [0, 1, 3, 7, 15, 0, 0, 0, 255, 511, 1023, 1023, 8192, 0, 14335, 32767])] rfl rfl rfl rfl rfl rfl ?_ ?_
  · intro x hx
    simp only [List.mem_cons, List.not_mem_nil, or_false] at hx
    rcases hx with hx | hx <;> (
      subst hx
      simp (maxSteps := 1000000) -implicitDefEqProofs only [go_sem]
      refine vdgo_call rfl rfl rfl rfl (hc _) ?_
      simp (maxSteps := 1000000) -implicitDefEqProofs only [go_sem, auhC, pkC]
      rfl)
  · intro _ _
    simp (maxSteps := 1000000) -implicitDefEqProofs only [go_sem, auhC, pkC, wS, wB, wkC]
    refine vgo_call' rfl rfl rfl (hsd { W with k := { W.k with a := A' } } rfl) ?_
    rintro r σ' ⟨rfl, rfl⟩
    refine ⟨rfl, ?_⟩
    simp (maxSteps := 1000000) -implicitDefEqProofs only [go_sem, vendK]
    exact hFS

set_option maxHeartbeats 8000000 in
set_option maxRecDepth 20000 in
theorem c_lipcp (W : WkV) (n : NgV) (n1 c1 n2 c2 : Bool) (os : List PkV) (ts : List Int) (hg : Good W.k.l) (hs : W.sent.length ≤ 900) (hw : W.want.length ≤ 900) (ho : os.length ≤ 100) (ht : ts.length ≤ 100) (hz : ∀ p ∈ os, PkOK p) (hd : ∀ p ∈ os, p.d.length ≤ 1496) (σ : St) :
    VCalls Tryz.prog 67 [.ptr σ.length 0, ngv n, .sl n1 c1 3 (pkvs os), .sl n2 c2 1 (zv64 ts)] (wS σ W) fun r σ' => r = .tup [] ∧ σ' = wS σ (ipcpW W n os ts) := by
  refine vcalls_keep (C := cfg Tryz.prog [] [] []) (cfg_ok mixed) Tryz.func67 rfl rfl rfl rfl rfl ?_
  have hsd := c_lsend { W with k := { W.k with n := n } } 32801 n1 c1 os (by show W.sent.length ≤ _; omega) (by omega) hz hd σ
  have hcl := c_lclose (sendW { W with k := { W.k with n := n } } 32801 os) hg (by show (W.sent ++ os.map _).length ≤ _; rw [List.length_append, List.length_map]; omega) (by show W.want.length ≤ _; omega) σ
  generalize hFS : wS σ (ipcpW W n os ts) = FS
  unfold ipcpW at hFS
  have hct := fun σ => c_contains n2 c2 ts 4 (by unfold lim; omega) σ
  simp (maxSteps := 1000000) -implicitDefEqProofs only [go_sem, wS, wB, wkC, ngv, ngC]
  refine vgo_call' rfl rfl rfl hsd ?_
  rintro r σ' ⟨rfl, rfl⟩
  refine ⟨rfl, ?_⟩
  generalize sendW { W with k := { W.k with n := n } } 32801 os = W2 at *
  simp (maxSteps := 1000000) -implicitDefEqProofs only [go_sem]
  refine vgo_call rfl rfl rfl rfl (hct _) ?_
  cases q : decide ((4 : Int) ∈ ts)
  · rw [q] at hFS
    simp (maxSteps := 1000000) -implicitDefEqProofs only [go_sem, vendK]
    exact hFS
  · rw [q] at hFS
    simp (maxSteps := 1000000) -implicitDefEqProofs only [go_sem]
    refine vgo_call' rfl rfl rfl hcl ?_
    rintro r σ' ⟨rfl, rfl⟩
    refine ⟨rfl, ?_⟩
    simp (maxSteps := 1000000) -implicitDefEqProofs only [go_sem, vendK]
    exact hFS

end Go.VL

/- Contracts of this program's functions: Refuse, Full, Welcome. Conditions: none. -/
namespace Go.VL
open Go.Proofs

def toldW1 (k : LinkV) (who : ByteArray) (proof : B16) (good : Bool) : WkV := bif askedB k then closeW (endW1 (beginW k) who proof good) else beginW k
def gateR (addr : UInt32) : RV := ⟨true, 0, 0, addr, 167772167⟩
def letW (W : WkV) (id : Int) (addr : UInt32) : WkV := { W with k := { W.k with sess := id, addr := addr, m := meterN, n := newN (gateR addr) } }
def ipcpE (W : WkV) (e : Int) : WkV := ipcpW W (evN W.k.n e) (doO W.k.n e) (evT W.k.n e)
def welcomeW (k : LinkV) (who : ByteArray) (proof : B16) (id : Int) (addr : UInt32) : WkV := bif askedB k then ipcpE (ipcpE (letW (endW1 (beginW k) who proof true) id addr) 2) 0 else beginW k
theorem end1_l (W : WkV) (who : ByteArray) (proof : B16) (good : Bool) : (endW1 W who proof good).k.l = W.k.l ∧ (endW1 W who proof good).sent.length = W.sent.length + 1 ∧ (endW1 W who proof good).want = W.want := by
  refine ⟨rfl, ?_, rfl⟩
  show (W.sent ++ [_]).length = _
  simp
set_option maxHeartbeats 8000000 in
set_option maxRecDepth 20000 in
theorem c_lrefuse (k : LinkV) (hg : Good k.l) (σ : St) : VCalls Tryz.prog 21 [lkv k] σ fun r σ' => r = .tup [lkv (doneK (toldW1 k noS z16 false)), outW (toldW1 k noS z16 false)] ∧ σ' = σ := by
  refine vcalls_intro (C := cfg Tryz.prog [] [] []) (cfg_ok mixed) Tryz.func21 rfl rfl rfl rfl rfl ?_
  simp (maxSteps := 1000000) -implicitDefEqProofs only [go_sem, lkv, lkC]
  refine vgo_call' rfl rfl rfl (c_begun k σ) ?_
  rintro r σ' ⟨rfl, rfl⟩
  refine ⟨rfl, ?_⟩
  simp (maxSteps := 1000000) -implicitDefEqProofs only [go_sem]
  refine vgo_call' rfl rfl rfl (c_lend (beginW k) noS z16 false (Nat.zero_le _) σ) ?_
  rintro r σ' ⟨rfl, rfl⟩
  refine ⟨rfl, ?_⟩
  have ha : askedB (beginW k).k = askedB k := rfl
  rw [ha]
  unfold endW2 toldW1
  rw [ha]
  obtain ⟨q1, q2, q3⟩ := end1_l (beginW k) noS z16 false
  have z1 : (beginW k).sent.length = 0 := rfl
  have z2 : (beginW k).want.length = 0 := rfl
  have hcl := c_lclose (endW1 (beginW k) noS z16 false) (by rw [q1]; exact hg) (by omega) (by rw [q3]; omega) σ
  cases askedB k
  · simp (maxSteps := 1000000) -implicitDefEqProofs only [go_sem]
    refine vgo_call' rfl rfl rfl (c_ldone (beginW k) σ) ?_
    rintro r σ' ⟨rfl, rfl⟩
    refine ⟨rfl, ?_⟩
    generalize beginW k = W
    simp (maxSteps := 1000000) -implicitDefEqProofs only [go_sem, lkC, outC, wS, wF, wT]
    rw [frs_take, zv_take]
    rfl
  · simp (maxSteps := 1000000) -implicitDefEqProofs only [go_sem]
    generalize endW1 (beginW k) noS z16 false = W1 at *
    refine vgo_call' rfl rfl rfl hcl ?_
    rintro r σ' ⟨rfl, rfl⟩
    refine ⟨rfl, ?_⟩
    simp (maxSteps := 1000000) -implicitDefEqProofs only [go_sem]
    refine vgo_call' rfl rfl rfl (c_ldone (closeW W1) σ) ?_
    rintro r σ' ⟨rfl, rfl⟩
    refine ⟨rfl, ?_⟩
    generalize closeW W1 = W
    simp (maxSteps := 1000000) -implicitDefEqProofs only [go_sem, lkC, outC, wS, wF, wT]
    rw [frs_take, zv_take]
    rfl
theorem c_lipcpS (W : WkV) (n : NgV) (os : List PkV) (ts : List Int) (hg : Good W.k.l) (hs : W.sent.length ≤ 900) (hw : W.want.length ≤ 900) (ho : os.length ≤ 100) (ht : ts.length ≤ 100) (hz : ∀ p ∈ os, PkOK p) (hd : ∀ p ∈ os, p.d.length ≤ 1496) {u v : V} (hu : IsSl u 3 (pkvs os)) (hv : IsSl v 1 (zv64 ts)) (σ : St) :
    VCalls Tryz.prog 67 [.ptr σ.length 0, ngv n, u, v] (wS σ W) fun r σ' => r = .tup [] ∧ σ' = wS σ (ipcpW W n os ts) := by
  obtain ⟨n1, h1⟩ := hu.ne
  obtain ⟨n2, h2⟩ := hv.ne
  exact (c_lipcp W n n1 false n2 false os ts hg hs hw ho ht hz hd σ).ne ⟨.refl _, .refl _, h1, h2, trivial⟩

end Go.VL

/- Contracts of this program's functions: Welcome; what comes of an authentication's end, in plain Lean. Conditions: none. -/
namespace Go.VL
open Go.Proofs

def upN (r : RV) : NgV := { newN r with a := ⟨6, 4, 3, 1⟩ }
def midN (r : RV) : NgV := { newN r with a := ⟨1, 0, 0, 0⟩ }
theorem new_up (r : RV) : evN (newN r) 2 = midN r ∧ doO (newN r) 2 = [] ∧ evT (newN r) 2 = [3] := by
  have h := ev_of (n := newN r) (e := 2) 0 zPk x_a1 x_a2 (m := midN r) rfl
  have hd : doneB (newN r) 2 = true := x_a1
  have ha : doA (newN r).a 2 = (⟨1, 0, 0, 0⟩, [3], 0) := x_a2
  refine ⟨congrArg (fun x => x.1) h, ?_, ?_⟩
  · unfold doO evO
    rw [hd, ha]
    rfl
  · unfold evT
    rw [hd, ha]
    rfl
theorem new_up2 (r : RV) : evN (midN r) 0 = upN r ∧ doO (midN r) 0 = [reqP (upN r)] ∧ evT (midN r) 0 = [] := by
  have h := ev_of (n := midN r) (e := 0) 0 zPk x_b1 x_b2 (m := upN r) rfl
  have hd : doneB (midN r) 0 = true := x_b1
  have ha : doA (midN r).a 0 = (⟨6, 4, 3, 1⟩, [5, 7], 0) := x_b2
  have h1 : evN (midN r) 0 = upN r := congrArg (fun x => x.1) h
  refine ⟨h1, ?_, ?_⟩
  · unfold doO evO
    rw [h1, hd, ha]
    rfl
  · unfold evT
    rw [hd, ha]
    rfl
theorem mid_good (r : RV) : Good (midN r) := by
  have h := Good_new r
  exact ⟨by show aokB ⟨1, 0, 0, 0⟩ = true; decide +kernel, h.k, h.e, h.o⟩
theorem up_good (r : RV) : Good (upN r) := by
  have h := Good_new r
  exact ⟨by show aokB ⟨6, 4, 3, 1⟩ = true; decide +kernel, h.k, h.e, h.o⟩
def setN (W : WkV) (n : NgV) : WkV := { W with k := { W.k with n := n } }
theorem ipcpE_2 {W : WkV} {r : RV} (h : W.k.n = newN r) : ipcpE W 2 = setN W (midN r) := by
  obtain ⟨a1, a2, a3⟩ := new_up r
  unfold ipcpE
  rw [h, a1, a2, a3]
  unfold ipcpW sendW setN
  simp
theorem ipcpE_0 {W : WkV} {r : RV} (h : W.k.n = midN r) : ipcpE W 0 = sendW (setN W (upN r)) 32801 [reqP (upN r)] := by
  obtain ⟨a1, a2, a3⟩ := new_up2 r
  unfold ipcpE
  rw [h, a1, a2, a3]
  unfold ipcpW setN
  simp
/-- Who is let in. -/
def inW (k : LinkV) (who : ByteArray) (proof : B16) (id : Int) (addr : UInt32) : WkV := sendW (setN (letW (endW1 (beginW k) who proof true) id addr) (upN (gateR addr))) 32801 [reqP (upN (gateR addr))]
theorem welcome_is {k : LinkV} (h : askedB k = true) (who : ByteArray) (proof : B16) (id : Int) (addr : UInt32) : welcomeW k who proof id addr = inW k who proof id addr := by
  unfold welcomeW inW
  rw [h]
  show ipcpE (ipcpE _ 2) 0 = _
  rw [ipcpE_2 (W := letW _ id addr) (r := gateR addr) rfl, ipcpE_0 (r := gateR addr) rfl]
  rfl

set_option maxHeartbeats 16000000 in
set_option maxRecDepth 20000 in
theorem c_lwelcome (k : LinkV) (who : ByteArray) (proof : B16) (id : Int) (addr : UInt32) (hg : Good k.l) (σ : St) : VCalls Tryz.prog 23 [lkv k, .str who, .agg (b16C proof), .int .i64 id, .int .u32 addr.toNat] σ fun r σ' => r = .tup [lkv (doneK (welcomeW k who proof id addr)), outW (welcomeW k who proof id addr)] ∧ σ' = σ := by
  refine vcalls_intro (C := cfg Tryz.prog [] [] []) (cfg_ok mixed) Tryz.func23 rfl rfl rfl rfl rfl ?_
  simp (maxSteps := 1000000) -implicitDefEqProofs only [go_sem, lkv, lkC, b16C]
  refine vgo_call' rfl rfl rfl (c_begun k σ) ?_
  rintro r σ' ⟨rfl, rfl⟩
  refine ⟨rfl, ?_⟩
  simp (maxSteps := 1000000) -implicitDefEqProofs only [go_sem]
  refine vgo_call' rfl rfl rfl (c_lend (beginW k) who proof true (Nat.zero_le _) σ) ?_
  rintro r σ' ⟨rfl, rfl⟩
  refine ⟨rfl, ?_⟩
  have ha : askedB (beginW k).k = askedB k := rfl
  rw [ha]
  unfold endW2 welcomeW
  rw [ha]
  obtain ⟨q1, q2, q3⟩ := end1_l (beginW k) who proof true
  have z1 : (beginW k).sent.length = 0 := rfl
  have z2 : (beginW k).want.length = 0 := rfl
  cases askedB k
  · simp (maxSteps := 1000000) -implicitDefEqProofs only [go_sem]
    refine vgo_call' rfl rfl rfl (c_ldone (beginW k) σ) ?_
    rintro r σ' ⟨rfl, rfl⟩
    refine ⟨rfl, ?_⟩
    generalize beginW k = W
    simp (maxSteps := 1000000) -implicitDefEqProofs only [go_sem, lkC, outC, wS, wF, wT]
    rw [frs_take, zv_take]
    rfl
  · have hmn := fun σ => c_mnew σ
    unfold mev meC at hmn
    have hnw := fun σ => c_new (gateR addr) σ
    unfold rv rvC at hnw
    have hl1 : (endW1 (beginW k) who proof true).sent.length ≤ 1 ∧ (endW1 (beginW k) who proof true).want.length ≤ 1 := ⟨by omega, by rw [q3]; omega⟩
    have hgl : Good (endW1 (beginW k) who proof true).k.l := by rw [q1]; exact hg
    generalize endW1 (beginW k) who proof true = W1 at *
    have hw2 : (letW W1 id addr).k.n = newN (gateR addr) := rfl
    have hg2 : Good (letW W1 id addr).k.l := hgl
    have hl2 : (letW W1 id addr).sent.length ≤ 1 ∧ (letW W1 id addr).want.length ≤ 1 := hl1
    obtain ⟨a1, s1, b1, t1, hr1, hu1, hv1⟩ := ev_res (newN (gateR addr)) 2 0 zPk
    have hd1 := fun σ => c_ndo (newN (gateR addr)) 2 (Good_new _).cnt (Good_new _).e σ
    rw [do_ev (by decide), hr1] at hd1
    have hi1 := c_lipcpS (letW W1 id addr) (evN (newN (gateR addr)) 2) (doO (newN (gateR addr)) 2) (evT (newN (gateR addr)) 2) hg2 (by omega) (by omega) (by rw [(new_up _).2.1]; exact Nat.zero_le _) (by rw [(new_up _).2.2]; simp) (fun p hp => (doO_ok (Good_new _) 2 p hp).1) (fun p hp => (doO_ok (Good_new _) 2 p hp).2) hu1 hv1 σ
    have e1 : ipcpW (letW W1 id addr) (evN (newN (gateR addr)) 2) (doO (newN (gateR addr)) 2) (evT (newN (gateR addr)) 2) = ipcpE (letW W1 id addr) 2 := rfl
    rw [e1, ipcpE_2 (r := gateR addr) hw2] at hi1
    rw [ipcpE_2 (r := gateR addr) hw2]
    have hw3 : (setN (letW W1 id addr) (midN (gateR addr))).k.n = midN (gateR addr) := rfl
    have hg3 : Good (setN (letW W1 id addr) (midN (gateR addr))).k.l := hgl
    have hl3 : (setN (letW W1 id addr) (midN (gateR addr))).sent.length ≤ 1 ∧ (setN (letW W1 id addr) (midN (gateR addr))).want.length ≤ 1 := hl1
    unfold ngv ngC at hd1 hnw
    simp (maxSteps := 1000000) -implicitDefEqProofs only [go_sem]
    refine vgo_call rfl rfl rfl rfl (hmn _) ?_
    simp (maxSteps := 1000000) -implicitDefEqProofs only [go_sem, wS, wB, wkC]
    refine vgo_call rfl rfl rfl rfl (hnw _) ?_
    simp (maxSteps := 1000000) -implicitDefEqProofs only [go_sem]
    refine vgo_call rfl rfl rfl rfl (hd1 _) ?_
    simp (maxSteps := 1000000) -implicitDefEqProofs only [go_sem]
    refine vgo_call' rfl rfl rfl hi1 ?_
    rintro r σ' ⟨rfl, rfl⟩
    refine ⟨rfl, ?_⟩
    generalize setN (letW W1 id addr) (midN (gateR addr)) = W3 at *
    obtain ⟨a2, s2, b2, t2, hr2, hu2, hv2⟩ := ev_res W3.k.n 0 0 zPk
    have hgm : Good W3.k.n := by rw [hw3]; exact mid_good _
    have hd2 := fun σ => c_ndo W3.k.n 0 hgm.cnt hgm.e σ
    rw [do_ev (by decide), hr2] at hd2
    have hi2 := c_lipcpS W3 (evN W3.k.n 0) (doO W3.k.n 0) (evT W3.k.n 0) hg3 (by omega) (by omega) (by rw [hw3, (new_up2 _).2.1]; simp) (by rw [hw3, (new_up2 _).2.2]; simp) (fun p hp => (doO_ok hgm 0 p hp).1) (fun p hp => (doO_ok hgm 0 p hp).2) hu2 hv2 σ
    have e2 : ipcpW W3 (evN W3.k.n 0) (doO W3.k.n 0) (evT W3.k.n 0) = ipcpE W3 0 := rfl
    rw [e2] at hi2
    unfold ngv ngC at hd2
    simp (maxSteps := 1000000) -implicitDefEqProofs only [go_sem, wS, wB, wkC]
    refine vgo_call rfl rfl rfl rfl (hd2 _) ?_
    simp (maxSteps := 1000000) -implicitDefEqProofs only [go_sem]
    refine vgo_call' rfl rfl rfl hi2 ?_
    rintro r σ' ⟨rfl, rfl⟩
    refine ⟨rfl, ?_⟩
    generalize ipcpE W3 0 = W4
    simp (maxSteps := 1000000) -implicitDefEqProofs only [go_sem]
    refine vgo_call' rfl rfl rfl (c_ldone W4 σ) ?_
    rintro r σ' ⟨rfl, rfl⟩
    refine ⟨rfl, ?_⟩
    simp (maxSteps := 1000000) -implicitDefEqProofs only [go_sem, lkC, outC, wS, wF, wT]
    rw [frs_take, zv_take]
    rfl

end Go.VL

/- LinkJudged's law. Conditions: none. -/
namespace Go.VL
open Go.Proofs

/-! Plain: who is told so. -/
theorem asked_is {k : LinkV} (h : askedB k = true) : k.l.a.st = 9 ∧ k.sess < 0 ∧ k.a.st = 1 := by
  unfold askedB at h
  simp only [Bool.and_eq_true, beq_iff_eq] at h
  obtain ⟨h1, h2⟩ := h
  unfold phaseP at h1
  cases q : k.l.a.st == 9
  · rw [q] at h1
    simp only [Bool.false_and, cond_false] at h1
    cases q6 : decide (6 ≤ k.l.a.st)
    · rw [q6] at h1
      simp only [cond_false] at h1
      cases q4 : decide (4 ≤ k.l.a.st) <;> rw [q4] at h1 <;> simp at h1
    · rw [q6] at h1
      simp at h1
  · rw [q] at h1
    simp only [Bool.true_and, cond_true] at h1
    cases qs : decide (0 ≤ k.sess)
    · exact ⟨by simpa using q, by simpa using qs, h2⟩
    · rw [qs] at h1
      simp at h1
theorem in_asked {k : LinkV} (h : askedB k = true) (who : ByteArray) (proof : B16) {id : Int} (hi : 0 ≤ id) (addr : UInt32) : (doneK (inW k who proof id addr)).phase = 3 ∧ (doneK (inW k who proof id addr)).sess = id ∧ (doneK (inW k who proof id addr)).addr = addr ∧ (doneK (inW k who proof id addr)).a.who = who ∧ (inW k who proof id addr).sent.length = 2 := by
  refine ⟨?_, rfl, rfl, rfl, rfl⟩
  show phaseP _ = 3
  unfold phaseP
  have h9 : (k.l.a.st == 9) = true := by simpa using (asked_is h).1
  have hs : decide (0 ≤ id) = true := by simpa using hi
  show (bif (k.l.a.st == 9) && decide (0 ≤ id) then (3 : Int) else _) = 3
  rw [h9, hs]
  rfl

/-! What the law is asked of. -/
section
variable (k : LinkV) (p : B16) (id : UInt16) (addr : UInt32)
end
def uS : ByteArray := ⟨#[117]⟩
end Go.VL

/- Contracts of this program's functions: packets read; what a packet leaves of a protocol. Conditions: none. -/
namespace Go.VL
open Go.Proofs

theorem four_of {d : List UInt8} (h : 4 ≤ d.length) : ∃ b0 b1 b2 b3 r, d = b0 :: b1 :: b2 :: b3 :: r := by
  match d, h with
  | b0 :: b1 :: b2 :: b3 :: r, _ => exact ⟨b0, b1, b2, b3, r, rfl⟩
def preadN (b2 b3 : UInt8) : Int := ibits BinOp.or IntKind.i64 (IntKind.i64.wrap (IntKind.i64.wrap (b2.toNat : Int) * 2 ^ 8)) (IntKind.i64.wrap (b3.toNat : Int))
/-- What bytes are read as. -/
def preadP (nl : Bool) : List UInt8 → Option PkV
  | b0 :: b1 :: b2 :: b3 :: r => bif !decide (preadN b2 b3 < 4) && !decide (((b0 :: b1 :: b2 :: b3 :: r).length : Int) < preadN b2 b3) && !decide (1500 < preadN b2 b3) then some ⟨b0, b1, nl, true, 1, ((b0 :: b1 :: b2 :: b3 :: r).take (preadN b2 b3).toNat).drop 4⟩ else none
  | _ => none
def preadV (nl : Bool) (d : List UInt8) : V := match preadP nl d with
  | some p => .tup [pkv p, .int .i64 0]
  | none => .tup [pkv zPk, .int .i64 2]
theorem read_short {d : List UInt8} (h : d.length < 4) (nl : Bool) : preadP nl d = none := by
  match d, h with
  | [], _ => rfl
  | [_], _ => rfl
  | [_, _], _ => rfl
  | [_, _, _], _ => rfl
theorem read_len {nl : Bool} {d : List UInt8} {p : PkV} (h : preadP nl d = some p) : p.d.length ≤ 1496 ∧ p.sz = 1 ∧ p.nl = nl := by
  unfold preadP at h
  split at h
  · rename_i b0 b1 b2 b3 r
    generalize preadN b2 b3 = N at h
    cases q1 : decide (N < 4)
    · cases q2 : decide (((b0 :: b1 :: b2 :: b3 :: r).length : Int) < N)
      · cases q3 : decide ((1500 : Int) < N)
        · rw [q1, q2, q3] at h
          simp only [Bool.not_false, Bool.and_self, cond_true, Option.some.injEq] at h
          subst h
          simp only [decide_eq_false_iff_not] at q1 q2 q3
          refine ⟨?_, rfl, rfl⟩
          simp only [List.length_drop, List.length_take]
          omega
        · rw [q1, q2, q3] at h; cases h
      · rw [q1, q2] at h; cases h
    · rw [q1] at h; cases h
  · cases h
set_option maxRecDepth 20000 in
theorem c_pread (nl c : Bool) (d : List UInt8) (hd : d.length ≤ 100000) (σ : St) : VCalls Tryz.prog 163 [.sl nl c 1 (bv d)] σ fun r σ' => r = preadV nl d ∧ σ' = σ := by
  refine vcalls_intro (C := cfg Tryz.prog [] [] []) (cfg_ok mixed) Tryz.func163 rfl rfl rfl rfl rfl ?_
  cases hl : decide ((d.length : Int) < 4)
  · have h4 : 4 ≤ d.length := by simp at hl; omega
    have g2 : (2 : Int) < (d.length : Int) := by omega
    have g3 : (3 : Int) < (d.length : Int) := by omega
    simp (maxSteps := 1000000) -implicitDefEqProofs only [go_sem, bv_length, hl]
    refine w_walk2 [] [0, 1, 2, 3, 4, 5, 6, 7, 8, 9, 10] [9, 10, 11, 12, 13, 14, 15, 16, 17, 18, 4] [0, 1, 3, 7, 15, 0, 32, 96, 224, 511, 1023] rfl rfl rfl rfl ?_
    obtain ⟨b0, b1, b2, b3, r, hd4⟩ := four_of h4
    have y0 : (bv d).getD 0 .undef = .int .u8 b0.toNat := by rw [hd4]; rfl
    have y1 : (bv d).getD 1 .undef = .int .u8 b1.toNat := by rw [hd4]; rfl
    have y2 : (bv d).getD 2 .undef = .int .u8 b2.toNat := by rw [hd4]; rfl
    have y3 : (bv d).getD 3 .undef = .int .u8 b3.toNat := by rw [hd4]; rfl
    have hv : preadV nl d = (bif !decide (preadN b2 b3 < 4) && !decide ((d.length : Int) < preadN b2 b3) && !decide (1500 < preadN b2 b3) then .tup [.agg [.int .u8 b0.toNat, .int .u8 b1.toNat, .sl nl true 1 (bv ((d.take (preadN b2 b3).toNat).drop 4))], .int .i64 0] else .tup [pkv zPk, .int .i64 2]) := by
      rw [hd4]
      show (match (bif !decide (preadN b2 b3 < 4) && !decide (((b0 :: b1 :: b2 :: b3 :: r).length : Int) < preadN b2 b3) && !decide (1500 < preadN b2 b3) then some ⟨b0, b1, nl, true, 1, ((b0 :: b1 :: b2 :: b3 :: r).take (preadN b2 b3).toNat).drop 4⟩ else none : Option PkV) with | some p => _ | none => _) = _
      cases (!decide (preadN b2 b3 < 4) && !decide (((b0 :: b1 :: b2 :: b3 :: r).length : Int) < preadN b2 b3) && !decide (1500 < preadN b2 b3)) <;> rfl
    have hN : preadN b2 b3 = ibits BinOp.or IntKind.i64 (IntKind.i64.wrap (IntKind.i64.wrap (b2.toNat : Int) * 2 ^ 8)) (IntKind.i64.wrap (b3.toNat : Int)) := rfl
    have hbv : ∀ n, ((bv d).take n).drop 4 = bv ((d.take n).drop 4) := fun n => by unfold bv; rw [List.map_drop, List.map_take]
    rw [hv]
    clear hv hd4
    simp (maxSteps := 1000000) -implicitDefEqProofs only [go_sem, bv_length, y2, y3, g2, g3, ← hN]
    clear hN
    generalize preadN b2 b3 = N
    have g0 : (0 : Int) < (d.length : Int) := by omega
    have g1 : (1 : Int) < (d.length : Int) := by omega
    cases q1 : decide (N < 4)
    · cases q2 : decide ((d.length : Int) < N)
      · cases q3 : decide ((1500 : Int) < N)
        · have k1 : ¬ N < 4 := by simpa using q1
          have k2 : ¬ (d.length : Int) < N := by simpa using q2
          simp (maxSteps := 1000000) -implicitDefEqProofs only [go_sem, bv_length, q1, q2, q3]
          refine w_walk3 [11] [0, 1, 2, 3, 4, 5, 6, 7, 8, 9, 10, 11, 12] [32, 33, 34, 35, 36, 37, 38, 39, 40, 41, 42, 3] [0, 1, 3, 0, 8, 24, 0, 0, 0, 448, 1023, 2047, 4095] [3] rfl rfl rfl rfl rfl ?_
          simp (maxSteps := 1000000) -implicitDefEqProofs only [go_sem, bv_length, y0, y1, g0, g1, hbv]
          exact ⟨by omega, by omega⟩
        · simp (maxSteps := 1000000) -implicitDefEqProofs only [go_sem, bv_length, q1, q2, q3]
          rfl
      · simp (maxSteps := 1000000) -implicitDefEqProofs only [go_sem, bv_length, q1, q2]
        rfl
    · simp (maxSteps := 1000000) -implicitDefEqProofs only [go_sem, bv_length, q1]
      rfl
  · have hv : preadV nl d = .tup [pkv zPk, .int .i64 2] := by
      unfold preadV
      rw [read_short (by simp at hl; omega)]
    rw [hv]
    simp (maxSteps := 1000000) -implicitDefEqProofs only [go_sem, bv_length, hl]
    rfl

/-! What a packet leaves of a protocol. -/
structure PeerF (n : NgV) : Prop where
  ok : NgOK n
  l : n.peer.length ≤ lim
  d : ∀ x ∈ n.peer, x.d.length ≤ lim
theorem PeerF.same {n m : NgV} (h : PeerF n) (h1 : m.peer = n.peer) (h2 : m.pn = n.pn) (h3 : m.ps = n.ps) : PeerF m := by
  refine ⟨?_, by rw [h1]; exact h.l, by rw [h1]; exact h.d⟩
  rcases h.ok with e | ⟨e1, e2⟩
  · exact .inl (by rw [h3]; exact e)
  · exact .inr ⟨by rw [h2]; exact e1, by rw [h1]; exact e2⟩
theorem PeerF.nil {n : NgV} (h1 : n.peer = []) (h2 : n.pn = true) : PeerF n := ⟨.inr ⟨h2, h1⟩, by rw [h1]; exact Nat.zero_le _, by rw [h1]; intro x hx; cases hx⟩
theorem new_peer (r : RV) : PeerF (newN r) := .nil rfl rfl
theorem ev_peer {n : NgV} (h : PeerF n) (e : Int) : PeerF (evN n e) := by
  unfold evN actN
  cases doneB n e
  · exact h
  · simp only [cond_true]
    cases resetB n.a.st (doA n.a e).2.1
    · exact h.same rfl rfl rfl
    · exact .nil rfl rfl
theorem take_peer {n : NgV} (h : PeerF n) (p : PkV) (hd : p.d.length ≤ 1496) : PeerF (takeW n p).1 := by
  have hn0 : PeerF (reqN n) := by 
    unfold reqN
    cases n.a.st == 3
    · exact h
    · exact h.same rfl rfl rfl
  unfold takeW
  cases decide (n.a.st ≤ 1)
  · simp only [cond_false]
    cases !knownC n.r.ip p.code
    · simp only [cond_false]
      unfold codeW
      split
      · unfold reqW
        cases hq : parse p.nl [] p.d with
        | none => exact h
        | some l =>
          simp only
          obtain ⟨he, _⟩ := parse_encOK hq hd
          have hev := ev_peer hn0 (reqE (reqN n) l)
          cases decide ((8 : Int) ∈ evL (reqN n) (reqE (reqN n) l)) || decide ((9 : Int) ∈ evL (reqN n) (reqE (reqN n) l))
          · exact hev
          · simp only [cond_true]
            cases (ansP (reqN n).r l (reqN n).naks).1 == 2
            · simp only [cond_false]
              cases (ansP (reqN n).r l (reqN n).naks).1 == 3
              · exact hev
              · exact hev.same rfl rfl rfl
            · simp only [cond_true]
              refine ⟨?_, ?_, fun x hx => ?_⟩
              · cases l with
                | nil => exact .inr ⟨rfl, rfl⟩
                | cons a r => exact .inl rfl
              · show l.length ≤ lim
                have := enc_len he
                unfold lim
                omega
              · have hx' : x ∈ l := hx
                unfold encOK at he
                simp only [Bool.and_eq_true, List.all_eq_true, decide_eq_true_eq] at he
                have := he.1 x hx'
                unfold lim
                omega
      split
      · unfold ackW
        cases p.id == n.a.id && decide (encL n.ours = p.d)
        · exact h
        · exact ev_peer h 8
      split
      · unfold nakW
        cases hq : parse p.nl [] p.d with
        | none => exact h
        | some l =>
          simp only
          cases p.id == n.a.id
          · exact h
          · simp only [cond_true]
            cases ht : turnP n p.code l with
            | none => exact ev_peer h 3
            | some x =>
              obtain ⟨o, on, oc⟩ := x
              exact ev_peer (n := { n with ours := o, on := on, oc := oc }) (h.same rfl rfl rfl) 9
      split
      · exact ev_peer h 10
      split
      · exact ev_peer h 11
      split
      · exact ev_peer h _
      split
      · exact ev_peer h _
      split
      · unfold echoW
        cases decide (4 ≤ p.d.length)
        · exact h
        · exact ev_peer h 15
      · exact h
    · exact ev_peer h 12
  · exact h

theorem take_r (n : NgV) (p : PkV) : (takeW n p).1.r = n.r := by
  have hn0 : (reqN n).r = n.r := by
    unfold reqN
    cases n.a.st == 3 <;> rfl
  unfold takeW
  cases decide (n.a.st ≤ 1)
  · simp only [cond_false]
    cases !knownC n.r.ip p.code
    · simp only [cond_false]
      unfold codeW
      split
      · unfold reqW
        cases parse p.nl [] p.d with
        | none => rfl
        | some l =>
          simp only
          have hev := (ev_r (reqN n) (reqE (reqN n) l)).trans hn0
          cases decide ((8 : Int) ∈ evL (reqN n) (reqE (reqN n) l)) || decide ((9 : Int) ∈ evL (reqN n) (reqE (reqN n) l))
          · exact hev
          · simp only [cond_true]
            cases (ansP (reqN n).r l (reqN n).naks).1 == 2
            · simp only [cond_false]
              cases (ansP (reqN n).r l (reqN n).naks).1 == 3 <;> exact hev
            · exact hev
      split
      · unfold ackW
        cases p.id == n.a.id && decide (encL n.ours = p.d)
        · rfl
        · exact ev_r n 8
      split
      · unfold nakW
        cases parse p.nl [] p.d with
        | none => rfl
        | some l =>
          simp only
          cases p.id == n.a.id
          · rfl
          · simp only [cond_true]
            cases turnP n p.code l with
            | none => exact ev_r n 3
            | some x =>
              obtain ⟨o, on, oc⟩ := x
              exact ev_r { n with ours := o, on := on, oc := oc } 9
      split
      · exact ev_r n 10
      split
      · exact ev_r n 11
      split
      · exact ev_r n _
      split
      · exact ev_r n _
      split
      · unfold echoW
        cases decide (4 ≤ p.d.length)
        · rfl
        · exact ev_r n 15
      · rfl
    · exact ev_r n 12
  · rfl

/-- What a packet does: the protocol then, what is sent, and told. -/
inductive TakeR (n : NgV) (p : PkV) : NgV → List PkV → List Int → Prop
  | stay : TakeR n p n [] []
  | ev (n0 m : NgV) (e : Int) (reply : PkV) (h0 : Good n0) (ha : n0.a = n.a) (hr : ReplyOK p reply) (hma : m.a = (evN n0 e).a) (hm : Good m) : TakeR n p m (evO n0 e p.id reply) (evT n0 e)
/-- What is sent may be sent; there is little of it. -/
structure SentR (n m : NgV) (os : List PkV) (ts : List Int) : Prop where
  g : Good m
  f : PeerF m
  r : m.r = n.r
  ol : os.length ≤ 10
  tl : ts.length ≤ 10
  os : ∀ p ∈ os, PkS p
theorem take_res {n : NgV} (h : Good n) (hf : PeerF n) (p : PkV) (hd : p.d.length ≤ 1496) : ∃ m os ts a s b t, rsV (takeW n p) = .tup [.agg (ngC m), .sl a false s (pkvs os), .sl b false t (zv64 ts)] ∧ IsSl (.sl a false s (pkvs os)) 3 (pkvs os) ∧ IsSl (.sl b false t (zv64 ts)) 1 (zv64 ts) ∧ TakeR n p m os ts ∧ SentR n m os ts := by
  have h1 := take_is h p hd
  have h2 := take_peer hf p hd
  have h3 := take_r n p
  generalize takeW n p = R at h1 h2 h3
  cases h1 with
  | stay => exact ⟨n, [], [], true, 0, true, 0, rfl, ⟨_, _, rfl, .inr ⟨rfl, rfl⟩⟩, ⟨_, _, rfl, .inr ⟨rfl, rfl⟩⟩, .stay, ⟨h, h2, rfl, Nat.zero_le _, Nat.zero_le _, fun p hp => by cases hp⟩⟩
  | ev n0 m e reply h0 ha hr hma hmo hm =>
    obtain ⟨⟨a, s, e1, hs⟩, ⟨b, t, e2, ht⟩⟩ := ev_sl n0 e p.id reply
    refine ⟨m, evO n0 e p.id reply, evT n0 e, a, s, b, t, ?_, ⟨a, s, rfl, hs⟩, ⟨b, t, rfl, ht⟩, .ev n0 m e reply h0 ha hr hma hm, ⟨hm, h2, h3, evO_len _ _ _ _, evT_len10 _ _, evO_ok h0 e p.id ⟨hr.z, hr.l⟩⟩⟩
    unfold rsV
    show V.tup [ngv m, (evW n0 e p.id reply).2.1, (evW n0 e p.id reply).2.2] = _
    rw [e1, e2]
    rfl
theorem take_hT {n : NgV} (h : Good n) (p : PkV) (hd : p.d.length ≤ 1496) : ∀ l o on oc, parse p.nl [] p.d = some l → turnP n p.code l = some (o, on, oc) → encOK o = true := fun _ _ _ _ _ ht => (turn_good ⟨h.e, h.o⟩ ht).1

/-! Octets -/
def sumU (a : UInt64) (n : Nat) : UInt64 := UInt64.ofNat (min (a.toNat + n) 18446744073709551615)
theorem sumU_nat (a : UInt64) (n : Nat) : (sumU a n).toNat = min (a.toNat + n) 18446744073709551615 := by
  unfold sumU
  simp
  omega
theorem wrap_u64 {n : Int} (h : 0 ≤ n) (h2 : n ≤ 18446744073709551615) : IntKind.u64.wrap n = n := by
  unfold IntKind.wrap
  simp [IntKind.bits, IntKind.signed]
  omega
set_option maxRecDepth 20000 in
theorem c_mcount1 (a : UInt64) (n : Nat) (hn : n ≤ 1000000) (σ : St) : VCalls Tryz.prog 119 [.int .u64 a.toNat, .int .i64 n] σ fun r σ' => r = .int .u64 (sumU a n).toNat ∧ σ' = σ := by
  refine vcalls_intro (C := cfg Tryz.prog [] [] []) (cfg_ok mixed) Tryz.func119 rfl rfl rfl rfl rfl ?_
  have ha := a.toNat_lt
  have w1 : (if (0 : Int) > (n : Int) then (0 : Int) else (n : Int)) = n := by rw [if_neg (by omega)]
  have w2 : IntKind.u64.wrap (n : Int) = n := wrap_u64 (by omega) (by omega)
  have w3 : IntKind.u64.wrap (18446744073709551615 - (a.toNat : Int)) = 18446744073709551615 - (a.toNat : Int) := wrap_u64 (by omega) (by omega)
  rw [sumU_nat]
  cases q : decide ((18446744073709551615 : Int) - (a.toNat : Int) < (n : Int))
  · simp only [decide_eq_false_iff_not] at q
    have w4 : IntKind.u64.wrap ((a.toNat : Int) + (n : Int)) = ((a.toNat + n : Nat) : Int) := by rw [wrap_u64 (by omega) (by omega)]; omega
    have q' : decide ((18446744073709551615 : Int) - (a.toNat : Int) < (n : Int)) = false := by rw [decide_eq_false_iff_not]; exact q
    have e : min (a.toNat + n) 18446744073709551615 = a.toNat + n := by omega
    rw [e]
    simp (maxSteps := 1000000) -implicitDefEqProofs only [go_sem, w1, w2, w3, w4, q']
  · have q' := of_decide_eq_true q
    have e : min (a.toNat + n) 18446744073709551615 = 18446744073709551615 := by omega
    rw [e]
    simp (maxSteps := 1000000) -implicitDefEqProofs only [go_sem, w1, w2, w3, q]
    rfl

def countM (m : MeterV) (i o : Nat) : MeterV := { m with inn := sumU m.inn i, out := sumU m.out o }
set_option maxRecDepth 20000 in
theorem c_mcount (m : MeterV) (i o : Nat) (hi : i ≤ 1000000) (ho : o ≤ 1000000) (σ : St) : VCalls Tryz.prog 60 [mev m, .int .i64 i, .int .i64 o] σ fun r σ' => r = mev (countM m i o) ∧ σ' = σ := by
  refine vcalls_intro (C := cfg Tryz.prog [] [3] []) (cfg_ok mixed) Tryz.func60 rfl rfl rfl rfl rfl ?_
  simp (maxSteps := 1000000) -implicitDefEqProofs only [go_sem, mev, meC]
  refine w_walk2 [11, 12] [0, 1, 2, 3, 4, 5, 6, 7, 8, 9, 10, 11, 12] [9, 10, 11, 12, 13, 14, 15, 16, 17, 18, 19] [0, 0, 2, 0, 15, 0, 0, 64, 0, 511, 1023, 0, 4095] rfl rfl rfl rfl ?_
  simp (maxSteps := 1000000) -implicitDefEqProofs only [go_sem]
  refine vdgo_call rfl rfl rfl rfl (c_mcount1 m.inn i hi _) ?_
  simp (maxSteps := 1000000) -implicitDefEqProofs only [go_sem]
  refine vdgo_call rfl rfl rfl rfl (c_mcount1 m.out o ho _) ?_
  simp (maxSteps := 1000000) -implicitDefEqProofs only [go_sem]
  refine w_walk2 [5, 7] [0, 1, 2, 3, 4, 5, 6, 7] [20, 21, 22, 23, 24, 25] [0, 1, 0, 4, 3, 19, 63, 127] rfl rfl rfl rfl ?_
  simp (maxSteps := 1000000) -implicitDefEqProofs only [go_sem]
  exact ⟨by decide, by decide, rfl⟩

end Go.VL

/- Contracts of this program's functions: frames that come. Conditions: none. -/
namespace Go.VL
open Go.Proofs

def openB (k : LinkV) : Bool := (phaseP k == 3) && (k.n.a.st == 9)
set_option maxRecDepth 20000 in
theorem c_lopened (W : WkV) (σ : St) : VCalls Tryz.prog 59 [.ptr σ.length 0] (wS σ W) fun r σ' => r = .bool (openB W.k) ∧ σ' = wS σ W := by
  refine vcalls_keep (C := cfg Tryz.prog [] [] []) (cfg_ok mixed) Tryz.func59 rfl rfl rfl rfl rfl ?_
  have hp := fun σ => c_lphase W.k σ
  unfold lkv lkC at hp
  generalize hFS : wS σ W = FS
  unfold openB
  rw [← hFS]
  simp (maxSteps := 1000000) -implicitDefEqProofs only [go_sem, wS, wB, wkC]
  refine vgo_call rfl rfl rfl rfl (hp _) ?_
  simp (maxSteps := 1000000) -implicitDefEqProofs only [go_sem]
  cases q1 : phaseP W.k == 3
  · simp (maxSteps := 1000000) -implicitDefEqProofs only [go_sem, vendK]
  · simp (maxSteps := 1000000) -implicitDefEqProofs only [go_sem, vendK]

/-- A packet of IP that comes. -/
def hearIpW (W : WkV) (f : FrV) : WkV := bif openB W.k then { W with k := { W.k with m := countM W.k.m f.d.length 0 }, ip := ⟨false, false, 1, [.sl f.nl f.c f.sz (bv f.d)]⟩ } else W
set_option maxHeartbeats 8000000 in
set_option maxRecDepth 20000 in
theorem c_hearIp (W : WkV) (f : FrV) (hip : W.ip = ⟨true, false, 0, []⟩) (hz : f.sz = 1) (hd : f.d.length ≤ 1500) (σ : St) : VCalls Tryz.prog 106 [.ptr σ.length 0, frv f] (wS σ W) fun r σ' => r = .tup [] ∧ σ' = wS σ (hearIpW W f) := by
  refine vcalls_keep (C := cfg Tryz.prog [] [] []) (cfg_ok mixed) Tryz.func106 rfl rfl rfl rfl rfl ?_
  generalize hFS : wS σ (hearIpW W f) = FS
  unfold hearIpW at hFS
  have hm := fun σ => c_mcount W.k.m f.d.length 0 (by omega) (by omega) σ
  unfold mev meC at hm
  simp (maxSteps := 1000000) -implicitDefEqProofs only [go_sem, frv, frC]
  refine vgo_call' rfl rfl rfl (c_lopened W σ) ?_
  rintro r σ' ⟨rfl, rfl⟩
  refine ⟨rfl, ?_⟩
  cases q : openB W.k
  · rw [q] at hFS
    simp (maxSteps := 1000000) -implicitDefEqProofs only [go_sem, vendK]
    exact hFS
  · rw [q] at hFS
    have hc0 : ((0 : Nat) : Int) = 0 := rfl
    simp (maxSteps := 1000000) -implicitDefEqProofs only [go_sem, wS, wB, wkC, hip]
    refine w_walk2 [13] [0, 1, 2, 3, 4, 5, 6, 7, 8, 9, 10, 11, 12, 13] [6, 7, 8, 9, 10, 11, 12, 13, 14, 15, 16, 17, 18] [0, 0, 2, 6, 14, 30, 0, 64, 192, 510, 1023, 2047, 4095, 8191] rfl rfl rfl rfl ?_
    simp (maxSteps := 1000000) -implicitDefEqProofs only [go_sem, bv_length]
    refine vdgo_call rfl rfl rfl rfl (hm _) ?_
    simp (maxSteps := 1000000) -implicitDefEqProofs only [go_sem]
    refine w_walk2 [13] [0, 1, 2, 3, 4, 5, 6, 7, 8, 9, 10, 11, 12, 13] [19, 20, 21, 22, 23, 24, 25, 26, 27, 28, 29, 30, 31] [0, 0, 2, 6, 14, 30, 0, 64, 192, 510, 1023, 2047, 4095, 8191] rfl rfl rfl rfl ?_
    simp (maxSteps := 1000000) -implicitDefEqProofs only [go_sem, hz, vendK]
    refine ⟨by unfold lim; omega, ?_⟩
    rw [← hFS, hz]
    rfl


/-- A packet of CHAP that comes. -/
def hearChapW (W : WkV) (f : FrV) : WkV := match preadP f.nl f.d with
  | some p => bif (p.code == 2) && (phaseP W.k == 2) then { wantW W 2 with p := p } else W
  | none => W
set_option maxHeartbeats 8000000 in
set_option maxRecDepth 20000 in
theorem c_hearChap (W : WkV) (f : FrV) (hz : f.sz = 1) (hd : f.d.length ≤ 1500) (hw : W.want.length ≤ 1000) (σ : St) : VCalls Tryz.prog 104 [.ptr σ.length 0, frv f] (wS σ W) fun r σ' => r = .tup [] ∧ σ' = wS σ (hearChapW W f) := by
  refine vcalls_keep (C := cfg Tryz.prog [] [] []) (cfg_ok mixed) Tryz.func104 rfl rfl rfl rfl rfl ?_
  have hr := fun σ => c_pread f.nl f.c f.d (by omega) σ
  have hp := fun σ => c_lphase W.k σ
  unfold lkv lkC at hp
  have hwn := c_lwant W 2 (by omega) σ
  generalize hFS : wS σ (hearChapW W f) = FS
  unfold hearChapW at hFS
  unfold preadV at hr
  simp (maxSteps := 1000000) -implicitDefEqProofs only [go_sem, frv, frC, hz]
  cases q0 : preadP f.nl f.d with
  | none =>
    rw [q0] at hr hFS
    simp only [pkv, pkC, zPk] at hr
    simp only at hFS
    refine vgo_call rfl rfl rfl rfl (hr _) ?_
    simp (maxSteps := 1000000) -implicitDefEqProofs only [go_sem, vendK]
    exact hFS
  | some p =>
    obtain ⟨_, hpz, _⟩ := read_len q0
    rw [q0] at hr hFS
    simp only [pkv, pkC] at hr
    simp only at hFS
    refine vgo_call rfl rfl rfl rfl (hr _) ?_
    have e2 : ((p.code.toNat : Int) == 2) = (p.code == 2) := toNat_beq _ 2
    cases q1 : p.code == 2
    · rw [q1] at hFS e2
      simp (maxSteps := 1000000) -implicitDefEqProofs only [go_sem, vendK, e2]
      exact hFS
    · rw [q1] at hFS e2
      simp (maxSteps := 1000000) -implicitDefEqProofs only [go_sem, vendK, e2, wS, wB, wkC]
      refine vgo_call rfl rfl rfl rfl (hp _) ?_
      simp (maxSteps := 1000000) -implicitDefEqProofs only [go_sem]
      cases q2 : phaseP W.k == 2
      · rw [q2] at hFS
        simp (maxSteps := 1000000) -implicitDefEqProofs only [go_sem, vendK]
        exact hFS
      · rw [q2] at hFS
        simp (maxSteps := 1000000) -implicitDefEqProofs only [go_sem]
        refine vgo_call' rfl rfl rfl hwn ?_
        rintro r σ' ⟨rfl, rfl⟩
        refine ⟨rfl, ?_⟩
        simp (maxSteps := 1000000) -implicitDefEqProofs only [go_sem, vendK, wS, wB, wkC]
        exact hFS

/-- A packet of LCP that comes. -/
inductive LcpR (W : WkV) (f : FrV) : WkV → Prop
  | no : LcpR W f W
  | yes (p : PkV) (m : NgV) (os : List PkV) (ts : List Int) (hp : preadP f.nl f.d = some p) (ht : TakeR W.k.l p m os ts) (hs : SentR W.k.l m os ts) : LcpR W f (lcpW W m os ts)
set_option maxHeartbeats 8000000 in
set_option maxRecDepth 20000 in
theorem c_hearLcp (W : WkV) (f : FrV) (hz : f.sz = 1) (hd : f.d.length ≤ 1500) (hw : W.want.length ≤ 900) (hs : W.sent.length ≤ 900) (hg : Good W.k.l) (hf : PeerF W.k.l) (σ : St) : VCalls Tryz.prog 103 [.ptr σ.length 0, frv f] (wS σ W) fun r σ' => r = .tup [] ∧ ∃ W', LcpR W f W' ∧ σ' = wS σ W' := by
  refine vcalls_keep (C := cfg Tryz.prog [] [] []) (cfg_ok mixed) Tryz.func103 rfl rfl rfl rfl rfl ?_
  have hr := fun σ => c_pread f.nl f.c f.d (by omega) σ
  unfold preadV at hr
  simp (maxSteps := 1000000) -implicitDefEqProofs only [go_sem, frv, frC, hz]
  cases q0 : preadP f.nl f.d with
  | none =>
    rw [q0] at hr
    simp only [pkv, pkC, zPk] at hr
    refine vgo_call rfl rfl rfl rfl (hr _) ?_
    simp (maxSteps := 1000000) -implicitDefEqProofs only [go_sem, vendK]
    exact ⟨W, .no, rfl⟩
  | some p =>
    obtain ⟨hpl, hpz, hpn⟩ := read_len q0
    obtain ⟨m, os, ts, a, s, b, t, e1, hu, hv, hT, hS⟩ := take_res hg hf p hpl
    have htk := fun σ => c_ntake W.k.l p hg.cnt hg.k hg.e hpz hpl (take_hT hg p hpl) σ
    rw [e1] at htk
    have hlc := c_llcpS W m os ts (by omega) (by omega) (by have := hS.ol; omega) (by have := hS.tl; omega) (fun p hp => (hS.os p hp).1) (fun p hp => (hS.os p hp).2) hu hv σ
    have hfin : LcpR W f (lcpW W m os ts) := .yes p m os ts q0 hT hS
    rw [q0] at hr
    simp only [pkv, pkC, ngv, ngC] at hr htk hlc
    refine vgo_call rfl rfl rfl rfl (hr _) ?_
    simp (maxSteps := 1000000) -implicitDefEqProofs only [go_sem, wS, wB, wkC]
    refine w_walk2 [11] [0, 1, 2, 3, 4, 5, 6, 7, 8, 9, 10, 11] [14, 15, 16, 17, 18, 19, 20, 21, 22, 23, 24] [0, 0, 2, 6, 14, 30, 0, 126, 254, 254, 254, 2047] rfl rfl rfl rfl ?_
    simp (maxSteps := 1000000) -implicitDefEqProofs only [go_sem]
    refine vdgo_call rfl rfl rfl rfl (htk _) ?_
    simp (maxSteps := 1000000) -implicitDefEqProofs only [go_sem]
    refine ve_call rfl rfl rfl hlc ?_
    rintro r σ' ⟨rfl, rfl⟩
    refine ⟨rfl, ?_⟩
    simp (maxSteps := 1000000) -implicitDefEqProofs only [go_sem, vendK]
    exact ⟨_, hfin, rfl⟩


/-- A packet of IPCP that comes. -/
inductive IpcpR (W : WkV) (f : FrV) : WkV → Prop
  | no : IpcpR W f W
  | yes (p : PkV) (m : NgV) (os : List PkV) (ts : List Int) (h3 : phaseP W.k = 3) (hp : preadP f.nl f.d = some p) (ht : TakeR W.k.n p m os ts) (hs : SentR W.k.n m os ts) : IpcpR W f (ipcpW W m os ts)
set_option maxHeartbeats 8000000 in
set_option maxRecDepth 20000 in
theorem c_hearIpcp (W : WkV) (f : FrV) (hz : f.sz = 1) (hd : f.d.length ≤ 1500) (hw : W.want.length ≤ 900) (hs : W.sent.length ≤ 900) (hgl : Good W.k.l) (hg : Good W.k.n) (hf : PeerF W.k.n) (σ : St) : VCalls Tryz.prog 105 [.ptr σ.length 0, frv f] (wS σ W) fun r σ' => r = .tup [] ∧ ∃ W', IpcpR W f W' ∧ σ' = wS σ W' := by
  refine vcalls_keep (C := cfg Tryz.prog [] [] []) (cfg_ok mixed) Tryz.func105 rfl rfl rfl rfl rfl ?_
  have hr := fun σ => c_pread f.nl f.c f.d (by omega) σ
  have hp := fun σ => c_lphase W.k σ
  unfold lkv lkC at hp
  unfold preadV at hr
  simp (maxSteps := 1000000) -implicitDefEqProofs only [go_sem, frv, frC, hz]
  cases q0 : preadP f.nl f.d with
  | none =>
    rw [q0] at hr
    simp only [pkv, pkC, zPk] at hr
    refine vgo_call rfl rfl rfl rfl (hr _) ?_
    simp (maxSteps := 1000000) -implicitDefEqProofs only [go_sem, vendK]
    exact ⟨W, .no, rfl⟩
  | some p =>
    obtain ⟨hpl, hpz, hpn⟩ := read_len q0
    obtain ⟨m, os, ts, a, s, b, t, e1, hu, hv, hT, hS⟩ := take_res hg hf p hpl
    have htk := fun σ => c_ntake W.k.n p hg.cnt hg.k hg.e hpz hpl (take_hT hg p hpl) σ
    rw [e1] at htk
    have hlc := c_lipcpS W m os ts hgl (by omega) (by omega) (by have := hS.ol; omega) (by have := hS.tl; omega) (fun p hp => (hS.os p hp).1) (fun p hp => (hS.os p hp).2) hu hv σ
    have hfin : phaseP W.k = 3 → IpcpR W f (ipcpW W m os ts) := fun h3 => .yes p m os ts h3 q0 hT hS
    rw [q0] at hr
    simp only [pkv, pkC, ngv, ngC] at hr htk hlc
    refine vgo_call rfl rfl rfl rfl (hr _) ?_
    simp (maxSteps := 1000000) -implicitDefEqProofs only [go_sem, wS, wB, wkC]
    refine vgo_call rfl rfl rfl rfl (hp _) ?_
    simp (maxSteps := 1000000) -implicitDefEqProofs only [go_sem]
    cases q3 : phaseP W.k == 3
    · simp (maxSteps := 1000000) -implicitDefEqProofs only [go_sem, vendK]
      exact ⟨W, .no, rfl⟩
    have h3 : phaseP W.k = 3 := by simpa using q3
    simp (maxSteps := 1000000) -implicitDefEqProofs only [go_sem]
    refine w_walk2 [11] [0, 1, 2, 3, 4, 5, 6, 7, 8, 9, 10, 11] [22, 23, 24, 25, 26, 27, 28, 29, 30, 31, 32] [0, 0, 2, 6, 14, 30, 0, 126, 254, 254, 254, 2047] rfl rfl rfl rfl ?_
    simp (maxSteps := 1000000) -implicitDefEqProofs only [go_sem]
    refine vdgo_call rfl rfl rfl rfl (htk _) ?_
    simp (maxSteps := 1000000) -implicitDefEqProofs only [go_sem]
    refine ve_call rfl rfl rfl hlc ?_
    rintro r σ' ⟨rfl, rfl⟩
    refine ⟨rfl, ?_⟩
    simp (maxSteps := 1000000) -implicitDefEqProofs only [go_sem, vendK]
    exact ⟨_, hfin h3, rfl⟩

/-! A protocol that isn't known is refused. -/
def shortB (l : List UInt8) : List UInt8 := l.take (min l.length 1496)
def hiLo (x : UInt16) : List UInt8 := [u8Z ((x.toNat : Int).fdiv (2 ^ 8)), u8Z (x.toNat : Int)]
def refuseP (f : FrV) (id : UInt8) : PkV := ⟨8, id, false, true, 1, shortB (hiLo f.proto ++ f.d)⟩
set_option maxRecDepth 20000 in
theorem c_pshort (nl c : Bool) (l : List UInt8) (hl : l.length ≤ 100000) (σ : St) : VCalls Tryz.prog 138 [.sl nl c 1 (bv l)] σ fun r σ' => r = .sl nl true 1 (bv (shortB l)) ∧ σ' = σ := by
  refine vcalls_intro (C := cfg Tryz.prog [] [] []) (cfg_ok mixed) Tryz.func138 rfl rfl rfl rfl rfl ?_
  have hm : (if (1496 : Int) < (l.length : Int) then (1496 : Int) else (l.length : Int)) = ((min l.length 1496 : Nat) : Int) := by
    split <;> omega
  have hmn : ((min l.length 1496 : Nat) : Int) ≤ (l.length : Int) := by omega
  have hbv : ∀ n, (bv l).take n = bv (l.take n) := fun n => by unfold bv; rw [List.map_take]
  unfold shortB
  generalize hN : min l.length 1496 = N at *
  simp (maxSteps := 1000000) -implicitDefEqProofs only [go_sem, bv_length, hm, hbv]
  omega
set_option maxRecDepth 20000 in
theorem c_prefuse (f : FrV) (id : UInt8) (hz : f.sz = 1) (hd : f.d.length ≤ 1500) (σ : St) : VCalls Tryz.prog 107 [frv f, .int .u8 id.toNat] σ fun r σ' => r = pkv (refuseP f id) ∧ σ' = σ := by
  refine vcalls_intro (C := cfg Tryz.prog [] [] [16]) (cfg_ok mixed) Tryz.func107 rfl rfl rfl rfl rfl ?_
  have hbv : V.int .u8 (IntKind.u8.wrap ((f.proto.toNat : Int).fdiv (2 ^ 8))) :: V.int .u8 (IntKind.u8.wrap (f.proto.toNat : Int)) :: bv f.d = bv (hiLo f.proto ++ f.d) := by
    show _ = V.int .u8 ((u8Z _).toNat : Int) :: V.int .u8 ((u8Z _).toNat : Int) :: bv f.d
    rw [u8Z_nat, u8Z_nat]
  have hl : (hiLo f.proto ++ f.d).length ≤ 2000 := by
    rw [List.length_append]
    show 2 + _ ≤ _
    omega
  simp (maxSteps := 1000000) -implicitDefEqProofs only [go_sem, frv, frC, hz, bv_length]
  refine ⟨by unfold lim; omega, ?_⟩
  rw [hbv]
  refine vgo_call rfl rfl rfl rfl (c_pshort false false (hiLo f.proto ++ f.d) (by omega) _) ?_
  simp (maxSteps := 1000000) -implicitDefEqProofs only [go_sem]
  rfl

theorem refuse_ok (f : FrV) (id : UInt8) : PkOK (refuseP f id) := .inl rfl
theorem refuse_len (f : FrV) (id : UInt8) : (refuseP f id).d.length ≤ 1496 := by
  show (shortB _).length ≤ 1496
  unfold shortB
  rw [List.length_take]
  omega
def hearMap (n : Nat) : List (V × V) := vput (vput (vput (vput [] (.int .u16 49185) (.fn (.func 103) [.ptr n 0] [])) (.int .u16 49699) (.fn (.func 104) [.ptr n 0] [])) (.int .u16 32801) (.fn (.func 105) [.ptr n 0] [])) (.int .u16 33) (.fn (.func 106) [.ptr n 0] [])
theorem hear_none (n : Nat) (x : UInt16) (h1 : x ≠ 49185) (h2 : x ≠ 49699) (h3 : x ≠ 32801) (h4 : x ≠ 33) : vget (hearMap n) (.int .u16 x.toNat) = none := by
  have key : ∀ y : UInt16, x ≠ y → keq (.int .u16 x.toNat) (.int .u16 y.toNat) = false := by
    intro y hy
    show cellEq (.int .u16 x.toNat) (.int .u16 y.toNat) = false
    show ((x.toNat : Int) == (y.toNat : Int)) = false
    rw [beq_eq_false_iff_ne]
    intro h
    exact hy (UInt16.toNat_inj.1 (by omega))
  have k1 : keq (.int .u16 x.toNat) (.int .u16 49185) = false := key 49185 h1
  have k2 : keq (.int .u16 x.toNat) (.int .u16 49699) = false := key 49699 h2
  have k3 : keq (.int .u16 x.toNat) (.int .u16 32801) = false := key 32801 h3
  have k4 : keq (.int .u16 x.toNat) (.int .u16 33) = false := key 33 h4
  show ([((V.int .u16 49185, _) : V × V), (.int .u16 49699, _), (.int .u16 32801, _), (.int .u16 33, _)].find? fun kv => keq (.int .u16 x.toNat) kv.1).map (·.2) = none
  simp only [List.find?, k1, k2, k3, k4, Option.map_none]
/-- A link at work, with what lies behind it. -/
def beginM (k : LinkV) (M : List VO) : WkV := { beginW k with x := M }
/-- What becomes of a frame. -/
inductive HearR (W : WkV) (f : FrV) : WkV → Prop
  | lcp (h : f.proto = 49185) (W' : WkV) (hr : LcpR W f W') : HearR W f W'
  | chap (h : f.proto = 49699) : HearR W f (hearChapW W f)
  | ipcp (h : f.proto = 32801) (W' : WkV) (hr : IpcpR W f W') : HearR W f W'
  | ip (h : f.proto = 33) : HearR W f (hearIpW W f)
  | other (h1 : f.proto ≠ 49185) (h2 : f.proto ≠ 49699) (h3 : f.proto ≠ 32801) (h4 : f.proto ≠ 33) : HearR W f (bif W.k.l.a.st == 9 then sendW W 49185 [refuseP f W.k.l.a.id] else W)
set_option maxHeartbeats 16000000 in
set_option maxRecDepth 20000 in
theorem c_lhear (k : LinkV) (f : FrV) (hz : f.sz = 1) (hd : f.d.length ≤ 1500) (hgl : Good k.l) (hgn : Good k.n) (hfl : PeerF k.l) (hfn : PeerF k.n) (σ : St) : VCalls Tryz.prog 41 [lkv k, frv f] σ fun r σ' => (∃ M W', HearR (beginM k M) f W' ∧ r = .tup [lkv (doneK W'), outW W']) ∧ σ' = σ := by
  refine vcalls_intro (C := cfg Tryz.prog [] [] []) (cfg_ok mixed) Tryz.func41 rfl rfl rfl rfl rfl ?_
  simp (maxSteps := 1000000) -implicitDefEqProofs only [go_sem, lkv, lkC, frv, frC]
  refine vgo_call' rfl rfl rfl (c_begun k σ) ?_
  rintro r σ' ⟨rfl, rfl⟩
  refine ⟨rfl, ?_⟩
  generalize hS : wS σ (beginW k) = S
  have hSl : S.length = σ.length + 3 := by rw [← hS]; simp [wS, beginW]
  simp (maxSteps := 1000000) -implicitDefEqProofs only [go_sem]
  refine ⟨rfl, rfl, rfl, rfl, ?_⟩
  have e : hearMap σ.length = vput (vput (vput (vput [] (.int .u16 49185) (.fn (.func 103) [.ptr σ.length 0] [])) (.int .u16 49699) (.fn (.func 104) [.ptr σ.length 0] [])) (.int .u16 32801) (.fn (.func 105) [.ptr σ.length 0] [])) (.int .u16 33) (.fn (.func 106) [.ptr σ.length 0] []) := rfl
  rw [← e]
  obtain ⟨M, hM⟩ : ∃ M, M = [VO.map (hearMap σ.length)] := ⟨_, rfl⟩
  have hSM : S ++ [VO.map (hearMap σ.length)] = wS σ (beginM k M) := by rw [← hS, hM]; simp [wS, beginM, wB, wF, wT]; rfl
  rw [hSM]
  clear e
  by_cases h1 : f.proto = 49185
  · have hv : vget (hearMap σ.length) (.int .u16 f.proto.toNat) = some (.fn (.func 103) [.ptr σ.length 0] []) := by rw [h1]; rfl
    rw [hv]
    have hc := c_hearLcp (beginM k M) f hz hd (Nat.zero_le _) (Nat.zero_le _) hgl hfl σ
    unfold frv frC at hc
    simp (maxSteps := 1000000) -implicitDefEqProofs only [go_sem]
    refine vgo_call' rfl rfl rfl hc ?_
    rintro r σ' ⟨rfl, W', hr, rfl⟩
    refine ⟨rfl, ?_⟩
    simp (maxSteps := 1000000) -implicitDefEqProofs only [go_sem]
    refine vgo_call' rfl rfl rfl (c_ldone _ σ) ?_
    rintro r σ' ⟨rfl, rfl⟩
    refine ⟨rfl, ?_⟩
    have hR : HearR (beginM k M) f _ := .lcp h1 W' hr
    simp (maxSteps := 1000000) -implicitDefEqProofs only [go_sem, lkC, outC, wS, wF, wT]
    rw [frs_take, zv_take]
    exact ⟨M, _, hR, rfl⟩
  by_cases h2 : f.proto = 49699
  · have hv : vget (hearMap σ.length) (.int .u16 f.proto.toNat) = some (.fn (.func 104) [.ptr σ.length 0] []) := by rw [h2]; rfl
    rw [hv]
    have hc := c_hearChap (beginM k M) f hz hd (Nat.zero_le _) σ
    unfold frv frC at hc
    simp (maxSteps := 1000000) -implicitDefEqProofs only [go_sem]
    refine vgo_call' rfl rfl rfl hc ?_
    rintro r σ' ⟨rfl, rfl⟩
    refine ⟨rfl, ?_⟩
    simp (maxSteps := 1000000) -implicitDefEqProofs only [go_sem]
    refine vgo_call' rfl rfl rfl (c_ldone _ σ) ?_
    rintro r σ' ⟨rfl, rfl⟩
    refine ⟨rfl, ?_⟩
    have hR : HearR (beginM k M) f _ := .chap h2
    simp (maxSteps := 1000000) -implicitDefEqProofs only [go_sem, lkC, outC, wS, wF, wT]
    rw [frs_take, zv_take]
    exact ⟨M, _, hR, rfl⟩
  by_cases h3 : f.proto = 32801
  · have hv : vget (hearMap σ.length) (.int .u16 f.proto.toNat) = some (.fn (.func 105) [.ptr σ.length 0] []) := by rw [h3]; rfl
    rw [hv]
    have hc := c_hearIpcp (beginM k M) f hz hd (Nat.zero_le _) (Nat.zero_le _) hgl hgn hfn σ
    unfold frv frC at hc
    simp (maxSteps := 1000000) -implicitDefEqProofs only [go_sem]
    refine vgo_call' rfl rfl rfl hc ?_
    rintro r σ' ⟨rfl, W', hr, rfl⟩
    refine ⟨rfl, ?_⟩
    simp (maxSteps := 1000000) -implicitDefEqProofs only [go_sem]
    refine vgo_call' rfl rfl rfl (c_ldone _ σ) ?_
    rintro r σ' ⟨rfl, rfl⟩
    refine ⟨rfl, ?_⟩
    have hR : HearR (beginM k M) f _ := .ipcp h3 W' hr
    simp (maxSteps := 1000000) -implicitDefEqProofs only [go_sem, lkC, outC, wS, wF, wT]
    rw [frs_take, zv_take]
    exact ⟨M, _, hR, rfl⟩
  by_cases h4 : f.proto = 33
  · have hv : vget (hearMap σ.length) (.int .u16 f.proto.toNat) = some (.fn (.func 106) [.ptr σ.length 0] []) := by rw [h4]; rfl
    rw [hv]
    have hc := c_hearIp (beginM k M) f rfl hz hd σ
    unfold frv frC at hc
    simp (maxSteps := 1000000) -implicitDefEqProofs only [go_sem]
    refine vgo_call' rfl rfl rfl hc ?_
    rintro r σ' ⟨rfl, rfl⟩
    refine ⟨rfl, ?_⟩
    simp (maxSteps := 1000000) -implicitDefEqProofs only [go_sem]
    refine vgo_call' rfl rfl rfl (c_ldone _ σ) ?_
    rintro r σ' ⟨rfl, rfl⟩
    refine ⟨rfl, ?_⟩
    have hR : HearR (beginM k M) f _ := .ip h4
    simp (maxSteps := 1000000) -implicitDefEqProofs only [go_sem, lkC, outC, wS, wF, wT]
    rw [frs_take, zv_take]
    exact ⟨M, _, hR, rfl⟩
  have hn := hear_none σ.length f.proto h1 h2 h3 h4
  rw [hn]
  have hR : HearR (beginM k M) f _ := .other h1 h2 h3 h4
  have hk : (beginM k M).k = k := rfl
  rw [hk] at hR
  obtain ⟨P, hP⟩ : ∃ P, P = refuseP f k.l.a.id := ⟨_, rfl⟩
  have hp := fun σ => c_prefuse f k.l.a.id hz hd σ
  have hsd := c_lsend (beginM k M) 49185 false true [P] (Nat.zero_le _) (by simp) (fun p hp => by rw [List.mem_singleton.1 hp, hP]; exact refuse_ok f _) (fun p hp => by rw [List.mem_singleton.1 hp, hP]; exact refuse_len f _) σ
  rw [← hP] at hR hp
  clear hP
  unfold frv frC pkv pkC at hp
  have hb : wS σ (beginM k M) = σ ++ .box (wkC k (.rsl (σ.length + 1) 0 0 0) (.rsl (σ.length + 2) 0 0 0) zPk zOp ⟨true, false, 0, []⟩) :: .arr true 0 2 [] :: .arr true 0 1 [] :: M := rfl
  cases q9 : k.l.a.st == 9
  · rw [q9] at hR
    rw [hb]
    simp (maxSteps := 1000000) -implicitDefEqProofs only [go_sem, wkC, q9]
    refine vgo_call' rfl rfl rfl (c_ldone (beginM k M) σ) ?_
    rintro r σ' ⟨rfl, rfl⟩
    refine ⟨rfl, ?_⟩
    simp (maxSteps := 1000000) -implicitDefEqProofs only [go_sem, lkC, outC, wS, wF, wT]
    rw [frs_take, zv_take]
    exact ⟨M, _, hR, rfl⟩
  · rw [q9] at hR
    rw [hb]
    simp (maxSteps := 1000000) -implicitDefEqProofs only [go_sem, wkC, q9]
    refine w_walk2 [11] [0, 1, 2, 3, 4, 5, 6, 7, 8, 9, 10, 11] [41, 42, 43, 44, 45, 46, 47, 48, 49, 50, 51] [0, 0, 0, 4, 12, 28, 60, 124, 252, 510, 1022, 2047] rfl rfl rfl rfl ?_
    simp (maxSteps := 1000000) -implicitDefEqProofs only [go_sem]
    refine vdgo_call rfl rfl rfl rfl (hp _) ?_
    simp (maxSteps := 1000000) -implicitDefEqProofs only [go_sem]
    refine ve_call rfl rfl rfl hsd ?_
    rintro r σ' ⟨rfl, rfl⟩
    refine ⟨rfl, ?_⟩
    simp (maxSteps := 1000000) -implicitDefEqProofs only [go_sem]
    refine vgo_call' rfl rfl rfl (c_ldone _ σ) ?_
    rintro r σ' ⟨rfl, rfl⟩
    refine ⟨rfl, ?_⟩
    simp (maxSteps := 1000000) -implicitDefEqProofs only [go_sem, lkC, outC, wS, wF, wT]
    rw [frs_take, zv_take]
    exact ⟨M, _, hR, rfl⟩

end Go.VL

/- What a link at work keeps, in plain Lean. Conditions: none. -/
namespace Go.VL
open Go.Proofs

/-! What is told of LCP: Opened is come to, or left. -/
def ud (x : Int) : Bool := x == 1 || x == 2
theorem told_tab : ∀ s : Fin 10, ∀ e : Fin 16, (toldP s.val e.val).filter ud = (if (s.val : Int) = 9 ∧ (nextP s.val e.val).2.1 ≠ 9 then [2] else if (s.val : Int) ≠ 9 ∧ (nextP s.val e.val).2.1 = 9 then [1] else []) := by decide +kernel
theorem told_is {s : Int} (hs : 0 ≤ s ∧ s ≤ 9) (e : Int) : (toldP s e).filter ud = (if s = 9 ∧ (nextP s e).2.1 ≠ 9 then [2] else if s ≠ 9 ∧ (nextP s e).2.1 = 9 then [1] else []) := by
  by_cases he : 0 ≤ e ∧ e ≤ 15
  · have := told_tab ⟨s.toNat, by omega⟩ ⟨e.toNat, by omega⟩
    have e1 : ((s.toNat : Nat) : Int) = s := by omega
    have e2 : ((e.toNat : Nat) : Int) = e := by omega
    simp only [e1, e2] at this
    exact this
  · have hn : nextP s e = ([], s, false) := by
      unfold nextP
      have : (decide (0 ≤ s) && decide (s ≤ 9) && decide (0 ≤ e) && decide (e ≤ 15)) = false := by
        cases hq : decide (0 ≤ s) && decide (s ≤ 9) && decide (0 ≤ e) && decide (e ≤ 15)
        · rfl
        · simp only [Bool.and_eq_true, decide_eq_true_eq] at hq
          exact absurd ⟨hq.1.2, hq.2⟩ he
      rw [this]
      rfl
    unfold toldP
    rw [hn, if_neg (fun h => h.2 h.1), if_neg (fun h => h.1 h.2)]
    rfl
theorem fold_ud : ∀ (ts : List Int) (W : WkV), ts.foldl toldW W = (ts.filter ud).foldl toldW W
  | [], _ => rfl
  | x :: ts, W => by
    rw [List.foldl_cons]
    cases hx : ud x
    · have h1 : (x == 1) = false := by unfold ud at hx; simp only [Bool.or_eq_false_iff] at hx; exact hx.1
      have h2 : (x == 2) = false := by unfold ud at hx; simp only [Bool.or_eq_false_iff] at hx; exact hx.2
      have : toldW W x = W := by unfold toldW; rw [h1, h2]; rfl
      rw [this, List.filter_cons_of_neg (by simp [hx])]
      exact fold_ud ts W
    · rw [List.filter_cons_of_pos hx, List.foldl_cons]
      exact fold_ud ts _
/-- LCP then, and what it sends. -/
def lcpS (W : WkV) (m : NgV) (os : List PkV) : WkV := sendW { W with k := { W.k with l := m } } 49185 os
theorem lcp_is (W : WkV) (n0 m : NgV) (e : Int) (os : List PkV) (hs : 0 ≤ n0.a.st ∧ n0.a.st ≤ 9) : lcpW W m os (evT n0 e) = (if n0.a.st = 9 ∧ (evN n0 e).a.st ≠ 9 then downW (lcpS W m os) else if n0.a.st ≠ 9 ∧ (evN n0 e).a.st = 9 then upW (lcpS W m os) else lcpS W m os) := by
  unfold lcpW
  rw [fold_ud, ev_told, told_is hs e, ← ev_st]
  by_cases h1 : n0.a.st = 9 ∧ (evN n0 e).a.st ≠ 9
  · rw [if_pos h1, if_pos h1]; rfl
  · rw [if_neg h1, if_neg h1]
    by_cases h2 : n0.a.st ≠ 9 ∧ (evN n0 e).a.st = 9
    · rw [if_pos h2, if_pos h2]; rfl
    · rw [if_neg h2, if_neg h2]; rfl

/-! Phases. -/
theorem phase3 (k : LinkV) : phaseP k = 3 ↔ k.l.a.st = 9 ∧ 0 ≤ k.sess := by
  unfold phaseP
  cases h9 : k.l.a.st == 9
  · have h : k.l.a.st ≠ 9 := by simpa using h9
    simp only [Bool.false_and, cond_false]
    refine ⟨fun hp => ?_, fun hp => absurd hp.1 h⟩
    cases h6 : decide (6 ≤ k.l.a.st)
    · rw [h6] at hp
      simp only [cond_false] at hp
      cases h4 : decide (4 ≤ k.l.a.st) <;> rw [h4] at hp <;> cases hp
    · rw [h6] at hp; cases hp
  · have h : k.l.a.st = 9 := by simpa using h9
    cases hs : decide (0 ≤ k.sess)
    · simp only [decide_eq_false_iff_not] at hs
      simp only [Bool.and_false, cond_false, cond_true]
      exact ⟨fun hp => (by cases hp), fun hp => absurd hp.2 hs⟩
    · simp only [decide_eq_true_eq] at hs
      exact ⟨fun _ => ⟨h, hs⟩, fun _ => rfl⟩

/-- What a link at work keeps. -/
structure KeepW (k : LinkV) (W : WkV) (c : Nat) : Prop where
  l : Good W.k.l
  n : Good W.k.n
  fl : PeerF W.k.l
  fn : PeerF W.k.n
  lip : W.k.l.r.ip = false
  nip : W.k.n.r.ip = true
  low : -1 ≤ W.k.sess
  line : W.k.line = k.line
  au : authB W.k.a = true
  me : meterB W.k.m = true
  live : 0 ≤ W.k.sess → W.k.l.a.st = 9 ∧ W.k.a.st = 2 ∧ W.k.sess = k.sess ∧ phaseP k = 3 ∧ k.m.inn.toNat ≤ W.k.m.inn.toNat ∧ k.m.out.toNat ≤ W.k.m.out.toNat
  sent : ∀ x ∈ W.sent, x.proto = 32801 ∨ x.proto = 33 → phaseP k = 3
  want : (3 : Int) ∈ W.want ↔ phaseP k = 3 ∧ W.k.sess < 0
  stop : phaseP k = 3 → W.k.sess < 0 → W.stop.kind = 3 ∧ W.stop.id = k.sess ∧ k.m.inn.toNat ≤ W.stop.inn.toNat ∧ k.m.out.toNat ≤ W.stop.out.toNat
  ip : W.ip.es = [] ∨ phaseP k = 3
  sl : W.sent.length ≤ c
  wl : W.want.length ≤ c

theorem KeepW.up {k : LinkV} {W : WkV} {c : Nat} (h : KeepW k W c) (d : Nat) (hd : c ≤ d) : KeepW k W d :=
  ⟨h.l, h.n, h.fl, h.fn, h.lip, h.nip, h.low, h.line, h.au, h.me, h.live, h.sent, h.want, h.stop, h.ip, Nat.le_trans h.sl hd, Nat.le_trans h.wl hd⟩
theorem keep_begin {k : LinkV} (hg : GoodK k) (fl : PeerF k.l) (fn : PeerF k.n) (M : List VO) : KeepW k (beginM k M) 0 := by
  refine ⟨hg.l, hg.n, fl, fn, hg.lip, hg.nip, hg.low, rfl, hg.au, hg.me, fun hs => ?_, fun x hx => (by cases hx), ?_, fun h3 hs => ?_, .inl rfl, Nat.le_refl _, Nat.le_refl _⟩
  · have h9 := hg.st9 hs
    rcases hg.sess with e | ⟨e1, e2⟩
    · have : k.sess = -1 := e
      have hs' : 0 ≤ k.sess := hs
      omega
    · exact ⟨h9, e2, rfl, by rw [← hg.phase]; exact e1, Nat.le_refl _, Nat.le_refl _⟩
  · refine ⟨fun hm => (by cases hm), fun ⟨h3, hs⟩ => ?_⟩
    have := ((phase3 k).1 h3).2
    have hs' : k.sess < 0 := hs
    omega
  · have := ((phase3 k).1 h3).2
    have hs' : k.sess < 0 := hs
    omega

theorem KeepW.lcp {k : LinkV} {W : WkV} {c : Nat} (h : KeepW k W c) (n0 m : NgV) (e : Int) (os : List PkV) (ha : n0.a.st = W.k.l.a.st) (hst : m.a.st = (evN n0 e).a.st) (hm : Good m) (hf : PeerF m) (hr : m.r.ip = false) (hol : os.length ≤ 10) : KeepW k (lcpW W m os (evT n0 e)) (c + 10) := by
  have hsl : (W.sent ++ os.map (frmOf 49185)).length ≤ c + 10 := by
    rw [List.length_append, List.length_map]
    have := h.sl
    omega
  have hwl := h.wl
  have hsent : ∀ x ∈ W.sent ++ os.map (frmOf 49185), x.proto = 32801 ∨ x.proto = 33 → phaseP k = 3 := by
    intro x hx hp
    rcases List.mem_append.1 hx with hx | hx
    · exact h.sent x hx hp
    · obtain ⟨p, _, rfl⟩ := List.mem_map.1 hx
      rcases hp with hp | hp
      · exact absurd (show (49185 : UInt16) = 32801 from hp) (by decide)
      · exact absurd (show (49185 : UInt16) = 33 from hp) (by decide)
  rw [lcp_is W n0 m e os (by rw [ha]; exact h.l.st)]
  by_cases h1 : n0.a.st = 9 ∧ (evN n0 e).a.st ≠ 9
  · rw [if_pos h1]
    unfold downW endW
    cases hs : decide (0 ≤ (lcpS W m os).k.sess)
    · have hs' : ¬ (0 ≤ W.k.sess) := of_decide_eq_false hs
      refine ⟨hm, Good_new _, hf, new_peer _, hr, rfl, by show (-1 : Int) ≤ -1; omega, h.line, rfl, rfl, fun hs => absurd (show (0 : Int) ≤ -1 from hs) (by omega), hsent, ?_, fun h3 _ => h.stop h3 (by omega), h.ip, hsl, by show W.want.length ≤ c + 10; omega⟩
      show (3 : Int) ∈ W.want ↔ phaseP k = 3 ∧ (-1 : Int) < 0
      rw [h.want]
      exact ⟨fun x => ⟨x.1, by omega⟩, fun x => ⟨x.1, by omega⟩⟩
    · have hs' : 0 ≤ W.k.sess := of_decide_eq_true hs
      obtain ⟨l1, l2, l3, l4, l5, l6⟩ := h.live hs'
      refine ⟨hm, Good_new _, hf, new_peer _, hr, rfl, by show (-1 : Int) ≤ -1; omega, h.line, rfl, rfl, fun hs => absurd (show (0 : Int) ≤ -1 from hs) (by omega), hsent, ?_, fun _ _ => ⟨rfl, l3, l5, l6⟩, h.ip, hsl, ?_⟩
      · show (3 : Int) ∈ W.want ++ [3] ↔ phaseP k = 3 ∧ (-1 : Int) < 0
        exact ⟨fun _ => ⟨l4, by omega⟩, fun _ => by simp⟩
      · show (W.want ++ [3]).length ≤ c + 10
        simp
        omega
  · rw [if_neg h1]
    by_cases h2 : n0.a.st ≠ 9 ∧ (evN n0 e).a.st = 9
    · rw [if_pos h2]
      have hs : ¬ (0 ≤ W.k.sess) := fun hs => h2.1 (ha.trans (h.live hs).1)
      refine ⟨hm, h.n, hf, h.fn, hr, h.nip, h.low, h.line, rfl, h.me, fun hs' => absurd hs' hs, hsent, ?_, h.stop, h.ip, hsl, ?_⟩
      · show (3 : Int) ∈ W.want ++ [1] ↔ phaseP k = 3 ∧ W.k.sess < 0
        rw [← h.want]
        simp
      · show (W.want ++ [1]).length ≤ c + 10
        simp
        omega
    · rw [if_neg h2]
      refine ⟨hm, h.n, hf, h.fn, hr, h.nip, h.low, h.line, h.au, h.me, fun hs => ?_, hsent, h.want, h.stop, h.ip, hsl, by show W.want.length ≤ c + 10; omega⟩
      obtain ⟨l1, l2⟩ := h.live hs
      refine ⟨?_, l2⟩
      show m.a.st = 9
      rw [hst]
      by_cases h9 : (evN n0 e).a.st = 9
      · exact h9
      · exact absurd ⟨ha.trans l1, h9⟩ h1
theorem KeepW.close {k : LinkV} {W : WkV} {c : Nat} (h : KeepW k W c) : KeepW k (closeW W) (c + 10) :=
  h.lcp W.k.l (evN W.k.l 3) 3 (doO W.k.l 3) rfl rfl (ev_good h.l 3) (ev_peer h.fl 3) (by rw [ev_r]; exact h.lip) (evO_len _ _ _ _)
theorem KeepW.ipcp {k : LinkV} {W : WkV} {c : Nat} (h : KeepW k W c) (h3 : phaseP W.k = 3) (m : NgV) (os : List PkV) (ts : List Int) (hm : Good m) (hf : PeerF m) (hr : m.r.ip = true) (hol : os.length ≤ 10) : KeepW k (ipcpW W m os ts) (c + 20) := by
  have hk3 := (h.live ((phase3 W.k).1 h3).2).2.2.2.1
  have h1 : KeepW k (sendW { W with k := { W.k with n := m } } 32801 os) (c + 10) := by
    refine ⟨h.l, hm, h.fl, hf, h.lip, hr, h.low, h.line, h.au, h.me, h.live, fun _ _ _ => hk3, h.want, h.stop, h.ip, ?_, ?_⟩
    · show (W.sent ++ os.map (frmOf 32801)).length ≤ c + 10
      rw [List.length_append, List.length_map]
      have := h.sl
      omega
    · have := h.wl
      show W.want.length ≤ c + 10
      omega
  unfold ipcpW
  cases decide ((4 : Int) ∈ ts)
  · exact h1.up _ (by omega)
  · exact h1.close
theorem KeepW.good {k : LinkV} {W : WkV} {c : Nat} (h : KeepW k W c) (hg : GoodK k) : GoodK (doneK W) := by
  refine ⟨h.l, h.n, h.lip, h.nip, h.low, rfl, ?_, ?_, h.au, h.me⟩
  · rcases Int.lt_or_le W.k.sess 0 with hs | hs
    · left
      have := h.low
      show W.k.sess = -1
      omega
    · obtain ⟨l1, l2, _⟩ := h.live hs
      exact .inr ⟨(phase3 W.k).2 ⟨l1, hs⟩, l2⟩
  · show lineB W.k.line = true
    rw [h.line]
    exact hg.line
/-- A frame that comes. -/
theorem keep_hear {k : LinkV} {M : List VO} {f : FrV} {W : WkV} (h : KeepW k (beginM k M) 0) (hf : f.d.length ≤ 1500) (hR : HearR (beginM k M) f W) : KeepW k W 40 := by
  have hstay : ∀ {n : NgV} {p : PkV} {m : NgV} {os : List PkV} {ts : List Int}, TakeR n p m os ts → (∃ n0 e, Good n0 ∧ n0.a = n.a ∧ m.a = (evN n0 e).a ∧ ts = evT n0 e) ∨ (m = n ∧ os = [] ∧ ts = []) := by
    intro n p m os ts ht
    cases ht with
    | stay => exact .inr ⟨rfl, rfl, rfl⟩
    | ev n0 m e reply h0 ha hr hma hm => exact .inl ⟨n0, e, h0, ha, hma, rfl⟩
  cases hR with
  | lcp _ W' hr =>
    cases hr with
    | no => exact h.up _ (by omega)
    | yes p m os ts hp ht hs =>
      rcases hstay ht with ⟨n0, e, h0, ha, hma, rfl⟩ | ⟨rfl, rfl, rfl⟩
      · exact (h.lcp n0 m e os (by rw [ha]) (by rw [hma]) hs.g hs.f (hs.r ▸ h.lip) hs.ol).up _ (by omega)
      · exact (show KeepW k (lcpS (beginM k M) k.l []) 0 from h).up _ (by omega)
  | chap _ =>
    unfold hearChapW
    split
    · rename_i p _
      cases (p.code == 2) && (phaseP (beginM k M).k == 2)
      · exact h.up _ (by omega)
      · refine ⟨h.l, h.n, h.fl, h.fn, h.lip, h.nip, h.low, h.line, h.au, h.me, h.live, h.sent, ?_, h.stop, h.ip, Nat.zero_le _, by show 1 ≤ 40; omega⟩
        show (3 : Int) ∈ [2] ↔ phaseP k = 3 ∧ (beginM k M).k.sess < 0
        rw [← h.want]
        show (3 : Int) ∈ [2] ↔ (3 : Int) ∈ []
        simp
    · exact h.up _ (by omega)
  | ipcp _ W' hr =>
    cases hr with
    | no => exact h.up _ (by omega)
    | yes p m os ts h3 hp ht hs => exact (h.ipcp h3 m os ts hs.g hs.f (hs.r ▸ h.nip) hs.ol).up _ (by omega)
  | ip _ =>
    unfold hearIpW
    cases ho : openB (beginM k M).k
    · exact h.up _ (by omega)
    · have h3 : phaseP k = 3 := by
        unfold openB at ho
        simp only [Bool.and_eq_true, beq_iff_eq] at ho
        exact ho.1
      refine ⟨h.l, h.n, h.fl, h.fn, h.lip, h.nip, h.low, h.line, h.au, h.me, fun hs => ?_, h.sent, h.want, h.stop, .inr h3, Nat.zero_le _, Nat.zero_le _⟩
      obtain ⟨l1, l2, l3, l4, l5, l6⟩ := h.live hs
      refine ⟨l1, l2, l3, l4, ?_, ?_⟩
      · show _ ≤ (sumU _ _).toNat
        rw [sumU_nat]
        have := k.m.inn.toNat_lt
        have hb : (beginM k M).k.m = k.m := rfl
        rw [hb]
        omega
      · show _ ≤ (sumU _ _).toNat
        rw [sumU_nat]
        have := k.m.out.toNat_lt
        have hb : (beginM k M).k.m = k.m := rfl
        rw [hb]
        omega
  | other _ _ _ _ =>
    cases (beginM k M).k.l.a.st == 9
    · exact h.up _ (by omega)
    · refine ⟨h.l, h.n, h.fl, h.fn, h.lip, h.nip, h.low, h.line, h.au, h.me, h.live, ?_, h.want, h.stop, h.ip, by show 1 ≤ 40; omega, Nat.zero_le _⟩
      intro x hx hp
      have hx' : x ∈ [frmOf 49185 (refuseP f (beginM k M).k.l.a.id)] := hx
      rw [List.mem_singleton.1 hx'] at hp
      rcases hp with hp | hp
      · exact absurd (show (49185 : UInt16) = 32801 from hp) (by decide)
      · exact absurd (show (49185 : UInt16) = 33 from hp) (by decide)

end Go.VL
