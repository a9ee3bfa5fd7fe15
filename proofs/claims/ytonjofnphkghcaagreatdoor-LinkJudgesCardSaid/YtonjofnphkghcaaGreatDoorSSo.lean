/- Contracts of this program's functions over values, joined texts. Conditions: none. -/
import Derived.Test.YtonjofnphkghcaaGreatDoorSSn
set_option linter.unusedVariables false
set_option linter.unusedSimpArgs false
/- LinkPlug's law. Conditions: none. -/
namespace Go.VL
open Go.Proofs

end Go.VL

/- Contracts of this program's functions: who is told so: refused, no room, welcome. Conditions: none. -/
namespace Go.VL
open Go.Proofs

/-! An authentication ends. -/
def endA (a : AuthV) (who : ByteArray) (proof : B16) (good : Bool) : AuthV := bif good then { a with left := 0, st := 2, who := who, proof := proof } else { a with left := 0, st := 3, who := noS, proof := z16 }
def endP (a : AuthV) (good : Bool) : PkV := ⟨bif good then 3 else 4, a.id, true, false, 0, []⟩
set_option maxHeartbeats 1000000 in
set_option maxRecDepth 20000 in
theorem c_cend (a : AuthV) (who : ByteArray) (proof : B16) (good : Bool) (σ : St) : VCalls Tryz.prog 125 [auhv a, .str who, .agg (b16C proof), .bool good] σ fun r σ' => r = .tup [auhv (endA a who proof good), pkv (endP a good)] ∧ σ' = σ := by
  refine vcalls_intro (C := cfg Tryz.prog [] [4] []) (cfg_ok mixed) Tryz.func125 rfl rfl rfl rfl rfl ?_
  unfold endA endP
  cases good
  · simp (maxSteps := 1000000) -implicitDefEqProofs only [go_sem, auhv, auhC, b16C, pkv, pkC, noS, z16]
    refine w_walk2 [4, 5] [0, 1, 2, 3, 4, 5] [17, 18, 19, 20] [0, 0, 2, 6, 1, 31] rfl rfl rfl rfl ?_
    simp (maxSteps := 1000000) -implicitDefEqProofs only [go_sem]
    rfl
  · simp (maxSteps := 1000000) -implicitDefEqProofs only [go_sem, auhv, auhC, b16C, pkv, pkC]
    refine w_walk2 [3, 5, 7] [0, 1, 2, 3, 4, 5, 6, 7] [21, 22, 23, 24, 25] [0, 0, 0, 4, 13, 29, 63, 127] rfl rfl rfl rfl ?_
    simp (maxSteps := 1000000) -implicitDefEqProofs only [go_sem]
    refine w_walk2 [4, 5] [0, 1, 2, 3, 4, 5] [26, 27, 28, 29] [0, 0, 2, 6, 1, 31] rfl rfl rfl rfl ?_
    simp (maxSteps := 1000000) -implicitDefEqProofs only [go_sem]
    rfl

def meterN : MeterV := ⟨0, 0, 6⟩
theorem c_mnew (σ : St) : VCalls Tryz.prog 66 [] σ fun r σ' => r = mev meterN ∧ σ' = σ := by
  refine vcalls_intro (C := cfg Tryz.prog [] [] []) (cfg_ok mixed) Tryz.func66 rfl rfl rfl rfl rfl ?_
  simp (maxSteps := 1000000) -implicitDefEqProofs only [go_sem]
  rfl

/-- Who is there is asked: it may be told so. -/
def askedB (k : LinkV) : Bool := (phaseP k == 2) && (k.a.st == 1)
def endW1 (W : WkV) (who : ByteArray) (proof : B16) (good : Bool) : WkV := sendW { W with k := { W.k with a := endA W.k.a who proof good } } 49699 [endP W.k.a good]
def endW2 (W : WkV) (who : ByteArray) (proof : B16) (good : Bool) : WkV := bif askedB W.k then endW1 W who proof good else W
theorem pk_nil (c i : UInt8) : PkOK ⟨c, i, true, false, 0, []⟩ := .inr ⟨rfl, rfl⟩
set_option maxHeartbeats 8000000 in
set_option maxRecDepth 20000 in
theorem c_lend (W : WkV) (who : ByteArray) (proof : B16) (good : Bool) (hs : W.sent.length ≤ 1000) (σ : St) : VCalls Tryz.prog 65 [.ptr σ.length 0, .str who, .agg (b16C proof), .bool good] (wS σ W) fun r σ' => r = .bool (askedB W.k) ∧ σ' = wS σ (endW2 W who proof good) := by
  refine vcalls_keep (C := cfg Tryz.prog [] [] []) (cfg_ok mixed) Tryz.func65 rfl rfl rfl rfl rfl ?_
  have hp := fun σ => c_lphase W.k σ
  unfold lkv lkC at hp
  have hc := fun σ => c_cend W.k.a who proof good σ
  obtain ⟨A', hA⟩ : ∃ A', A' = endA W.k.a who proof good := ⟨_, rfl⟩
  obtain ⟨P', hP⟩ : ∃ P', P' = endP W.k.a good := ⟨_, rfl⟩
  have hsd := fun (W' : WkV) (hW : W'.sent = W.sent) => c_lsend W' 49699 false true [P'] (by rw [hW]; omega) (by simp) (fun p hp => by rw [List.mem_singleton.1 hp, hP]; exact pk_nil _ _) (fun p hp => by rw [List.mem_singleton.1 hp, hP]; exact Nat.zero_le _) σ
  generalize hFS : wS σ (endW2 W who proof good) = FS
  unfold endW2 endW1 askedB at hFS
  rw [← hA, ← hP] at hFS hc
  clear hA hP
  unfold auhv auhC pkv pkC at hc
  unfold b16C at hc ⊢
  unfold askedB
  simp (maxSteps := 1000000) -implicitDefEqProofs only [go_sem, wS, wB, wkC]
  refine vgo_call rfl rfl rfl rfl (hp _) ?_
  simp (maxSteps := 1000000) -implicitDefEqProofs only [go_sem, bne]
  cases q1 : phaseP W.k == 2
  · rw [q1] at hFS
    simp (maxSteps := 1000000) -implicitDefEqProofs only [go_sem, vendK]
    exact hFS
  simp (maxSteps := 1000000) -implicitDefEqProofs only [go_sem, bne]
  cases q2 : W.k.a.st == 1
  · rw [q1, q2] at hFS
    simp (maxSteps := 1000000) -implicitDefEqProofs only [go_sem, vendK]
    exact hFS
  rw [q1, q2] at hFS
  simp (maxSteps := 1000000) -implicitDefEqProofs only [go_sem]
  refine w_walkP (α := Unit) (fun _ => True) (fun _ => [(0, .ptr σ.length 0), (9, .cell (auhC A')), (10, .cell (pkC P'))]) (fun _ => wS σ W) [12, 13] [12, 13, 14, 15] [27, 28, 29, 30, 31, 32, 33, 34, 35, 26, 36, 37] [] [([12, 13], [0, 1, 2, 3, 4, 5, 6, 7, 8, 9, 10, 11, 12, 13, 14, 15], [0, 1, 3, 7, 15, 0, 0, 0, 255, 511, 1023, 1023, 0, 4096, 14335, 32767]), ([13, 12], [0, 1, 2, 3, 4, 5, 6, 7, 8, 9, 10, 11, 13, 12, 14, 15], [0, 1, 3, 7, 15, 0, 0, 0, 255, 511, 1023, 1023, 8192, 0, 14335, 32767])] rfl rfl rfl rfl rfl rfl ?_ ?_
  · intro x hx
    simp only [List.mem_cons, List.not_mem_nil, or_false] at hx
    rcases hx with hx | hx <;> (
      subst hx
      simp (maxSteps := 1000000) -implicitDefEqProofs only [go_sem]
      refine vdgo_call rfl rfl rfl rfl (hc _) ?_
      simp (maxSteps := 1000000) -implicitDefEqProofs only [go_sem, auhC, pkC]
      rfl)
  · intro _ _
    simp (maxSteps := 1000000) -implicitDefEqProofs only [go_sem, auhC, pkC, wS, wB, wkC]
    refine vgo_call' rfl rfl rfl (hsd { W with k := { W.k with a := A' } } rfl) ?_
    rintro r σ' ⟨rfl, rfl⟩
    refine ⟨rfl, ?_⟩
    simp (maxSteps := 1000000) -implicitDefEqProofs only [go_sem, vendK]
    exact hFS

set_option maxHeartbeats 8000000 in
set_option maxRecDepth 20000 in
theorem c_lipcp (W : WkV) (n : NgV) (n1 c1 n2 c2 : Bool) (os : List PkV) (ts : List Int) (hg : Good W.k.l) (hs : W.sent.length ≤ 900) (hw : W.want.length ≤ 900) (ho : os.length ≤ 100) (ht : ts.length ≤ 100) (hz : ∀ p ∈ os, PkOK p) (hd : ∀ p ∈ os, p.d.length ≤ 1496) (σ : St) :
    VCalls Tryz.prog 67 [.ptr σ.length 0, ngv n, .sl n1 c1 3 (pkvs os), .sl n2 c2 1 (zv64 ts)] (wS σ W) fun r σ' => r = .tup [] ∧ σ' = wS σ (ipcpW W n os ts) := by
  refine vcalls_keep (C := cfg Tryz.prog [] [] []) (cfg_ok mixed) Tryz.func67 rfl rfl rfl rfl rfl ?_
  have hsd := c_lsend { W with k := { W.k with n := n } } 32801 n1 c1 os (by show W.sent.length ≤ _; omega) (by omega) hz hd σ
  have hcl := c_lclose (sendW { W with k := { W.k with n := n } } 32801 os) hg (by show (W.sent ++ os.map _).length ≤ _; rw [List.length_append, List.length_map]; omega) (by show W.want.length ≤ _; omega) σ
  generalize hFS : wS σ (ipcpW W n os ts) = FS
  unfold ipcpW at hFS
  have hct := fun σ => c_contains n2 c2 ts 4 (by unfold lim; omega) σ
  simp (maxSteps := 1000000) -implicitDefEqProofs only [go_sem, wS, wB, wkC, ngv, ngC]
  refine vgo_call' rfl rfl rfl hsd ?_
  rintro r σ' ⟨rfl, rfl⟩
  refine ⟨rfl, ?_⟩
  generalize sendW { W with k := { W.k with n := n } } 32801 os = W2 at *
  simp (maxSteps := 1000000) -implicitDefEqProofs only [go_sem]
  refine vgo_call rfl rfl rfl rfl (hct _) ?_
  cases q : decide ((4 : Int) ∈ ts)
  · rw [q] at hFS
    simp (maxSteps := 1000000) -implicitDefEqProofs only [go_sem, vendK]
    exact hFS
  · rw [q] at hFS
    simp (maxSteps := 1000000) -implicitDefEqProofs only [go_sem]
    refine vgo_call' rfl rfl rfl hcl ?_
    rintro r σ' ⟨rfl, rfl⟩
    refine ⟨rfl, ?_⟩
    simp (maxSteps := 1000000) -implicitDefEqProofs only [go_sem, vendK]
    exact hFS

end Go.VL

/- Contracts of this program's functions: Refuse, Full, Welcome. Conditions: none. -/
namespace Go.VL
open Go.Proofs

def toldW1 (k : LinkV) (who : ByteArray) (proof : B16) (good : Bool) : WkV := bif askedB k then closeW (endW1 (beginW k) who proof good) else beginW k
def gateR (addr : UInt32) : RV := ⟨true, 0, 0, addr, 167772167⟩
def letW (W : WkV) (id : Int) (addr : UInt32) : WkV := { W with k := { W.k with sess := id, addr := addr, m := meterN, n := newN (gateR addr) } }
def ipcpE (W : WkV) (e : Int) : WkV := ipcpW W (evN W.k.n e) (doO W.k.n e) (evT W.k.n e)
def welcomeW (k : LinkV) (who : ByteArray) (proof : B16) (id : Int) (addr : UInt32) : WkV := bif askedB k then ipcpE (ipcpE (letW (endW1 (beginW k) who proof true) id addr) 2) 0 else beginW k
theorem end1_l (W : WkV) (who : ByteArray) (proof : B16) (good : Bool) : (endW1 W who proof good).k.l = W.k.l ∧ (endW1 W who proof good).sent.length = W.sent.length + 1 ∧ (endW1 W who proof good).want = W.want := by
  refine ⟨rfl, ?_, rfl⟩
  show (W.sent ++ [_]).length = _
  simp
set_option maxHeartbeats 8000000 in
set_option maxRecDepth 20000 in
theorem c_lrefuse (k : LinkV) (hg : Good k.l) (σ : St) : VCalls Tryz.prog 21 [lkv k] σ fun r σ' => r = .tup [lkv (doneK (toldW1 k noS z16 false)), outW (toldW1 k noS z16 false)] ∧ σ' = σ := by
  refine vcalls_intro (C := cfg Tryz.prog [] [] []) (cfg_ok mixed) Tryz.func21 rfl rfl rfl rfl rfl ?_
  simp (maxSteps := 1000000) -implicitDefEqProofs only [go_sem, lkv, lkC]
  refine vgo_call' rfl rfl rfl (c_begun k σ) ?_
  rintro r σ' ⟨rfl, rfl⟩
  refine ⟨rfl, ?_⟩
  simp (maxSteps := 1000000) -implicitDefEqProofs only [go_sem]
  refine vgo_call' rfl rfl rfl (c_lend (beginW k) noS z16 false (Nat.zero_le _) σ) ?_
  rintro r σ' ⟨rfl, rfl⟩
  refine ⟨rfl, ?_⟩
  have ha : askedB (beginW k).k = askedB k := rfl
  rw [ha]
  unfold endW2 toldW1
  rw [ha]
  obtain ⟨q1, q2, q3⟩ := end1_l (beginW k) noS z16 false
  have z1 : (beginW k).sent.length = 0 := rfl
  have z2 : (beginW k).want.length = 0 := rfl
  have hcl := c_lclose (endW1 (beginW k) noS z16 false) (by rw [q1]; exact hg) (by omega) (by rw [q3]; omega) σ
  cases askedB k
  · simp (maxSteps := 1000000) -implicitDefEqProofs only [go_sem]
    refine vgo_call' rfl rfl rfl (c_ldone (beginW k) σ) ?_
    rintro r σ' ⟨rfl, rfl⟩
    refine ⟨rfl, ?_⟩
    generalize beginW k = W
    simp (maxSteps := 1000000) -implicitDefEqProofs only [go_sem, lkC, outC, wS, wF, wT]
    rw [frs_take, zv_take]
    rfl
  · simp (maxSteps := 1000000) -implicitDefEqProofs only [go_sem]
    generalize endW1 (beginW k) noS z16 false = W1 at *
    refine vgo_call' rfl rfl rfl hcl ?_
    rintro r σ' ⟨rfl, rfl⟩
    refine ⟨rfl, ?_⟩
    simp (maxSteps := 1000000) -implicitDefEqProofs only [go_sem]
    refine vgo_call' rfl rfl rfl (c_ldone (closeW W1) σ) ?_
    rintro r σ' ⟨rfl, rfl⟩
    refine ⟨rfl, ?_⟩
    generalize closeW W1 = W
    simp (maxSteps := 1000000) -implicitDefEqProofs only [go_sem, lkC, outC, wS, wF, wT]
    rw [frs_take, zv_take]
    rfl
set_option maxHeartbeats 8000000 in
set_option maxRecDepth 20000 in
theorem c_lfull (k : LinkV) (who : ByteArray) (proof : B16) (hg : Good k.l) (σ : St) : VCalls Tryz.prog 22 [lkv k, .str who, .agg (b16C proof)] σ fun r σ' => r = .tup [lkv (doneK (toldW1 k who proof true)), outW (toldW1 k who proof true)] ∧ σ' = σ := by
  refine vcalls_intro (C := cfg Tryz.prog [] [] []) (cfg_ok mixed) Tryz.func22 rfl rfl rfl rfl rfl ?_
  simp (maxSteps := 1000000) -implicitDefEqProofs only [go_sem, lkv, lkC, b16C]
  refine vgo_call' rfl rfl rfl (c_begun k σ) ?_
  rintro r σ' ⟨rfl, rfl⟩
  refine ⟨rfl, ?_⟩
  simp (maxSteps := 1000000) -implicitDefEqProofs only [go_sem]
  refine vgo_call' rfl rfl rfl (c_lend (beginW k) who proof true (Nat.zero_le _) σ) ?_
  rintro r σ' ⟨rfl, rfl⟩
  refine ⟨rfl, ?_⟩
  have ha : askedB (beginW k).k = askedB k := rfl
  rw [ha]
  unfold endW2 toldW1
  rw [ha]
  obtain ⟨q1, q2, q3⟩ := end1_l (beginW k) who proof true
  have z1 : (beginW k).sent.length = 0 := rfl
  have z2 : (beginW k).want.length = 0 := rfl
  have hcl := c_lclose (endW1 (beginW k) who proof true) (by rw [q1]; exact hg) (by omega) (by rw [q3]; omega) σ
  cases askedB k
  · simp (maxSteps := 1000000) -implicitDefEqProofs only [go_sem]
    refine vgo_call' rfl rfl rfl (c_ldone (beginW k) σ) ?_
    rintro r σ' ⟨rfl, rfl⟩
    refine ⟨rfl, ?_⟩
    generalize beginW k = W
    simp (maxSteps := 1000000) -implicitDefEqProofs only [go_sem, lkC, outC, wS, wF, wT]
    rw [frs_take, zv_take]
    rfl
  · simp (maxSteps := 1000000) -implicitDefEqProofs only [go_sem]
    generalize endW1 (beginW k) who proof true = W1 at *
    refine vgo_call' rfl rfl rfl hcl ?_
    rintro r σ' ⟨rfl, rfl⟩
    refine ⟨rfl, ?_⟩
    simp (maxSteps := 1000000) -implicitDefEqProofs only [go_sem]
    refine vgo_call' rfl rfl rfl (c_ldone (closeW W1) σ) ?_
    rintro r σ' ⟨rfl, rfl⟩
    refine ⟨rfl, ?_⟩
    generalize closeW W1 = W
    simp (maxSteps := 1000000) -implicitDefEqProofs only [go_sem, lkC, outC, wS, wF, wT]
    rw [frs_take, zv_take]
    rfl

theorem c_lipcpS (W : WkV) (n : NgV) (os : List PkV) (ts : List Int) (hg : Good W.k.l) (hs : W.sent.length ≤ 900) (hw : W.want.length ≤ 900) (ho : os.length ≤ 100) (ht : ts.length ≤ 100) (hz : ∀ p ∈ os, PkOK p) (hd : ∀ p ∈ os, p.d.length ≤ 1496) {u v : V} (hu : IsSl u 3 (pkvs os)) (hv : IsSl v 1 (zv64 ts)) (σ : St) :
    VCalls Tryz.prog 67 [.ptr σ.length 0, ngv n, u, v] (wS σ W) fun r σ' => r = .tup [] ∧ σ' = wS σ (ipcpW W n os ts) := by
  obtain ⟨n1, h1⟩ := hu.ne
  obtain ⟨n2, h2⟩ := hv.ne
  exact (c_lipcp W n n1 false n2 false os ts hg hs hw ho ht hz hd σ).ne ⟨.refl _, .refl _, h1, h2, trivial⟩

end Go.VL

/- Contracts of this program's functions: Welcome; what comes of an authentication's end, in plain Lean. Conditions: none. -/
namespace Go.VL
open Go.Proofs

def upN (r : RV) : NgV := { newN r with a := ⟨6, 4, 3, 1⟩ }
def midN (r : RV) : NgV := { newN r with a := ⟨1, 0, 0, 0⟩ }
theorem new_up (r : RV) : evN (newN r) 2 = midN r ∧ doO (newN r) 2 = [] ∧ evT (newN r) 2 = [3] := by
  have h := ev_of (n := newN r) (e := 2) 0 zPk x_a1 x_a2 (m := midN r) rfl
  have hd : doneB (newN r) 2 = true := x_a1
  have ha : doA (newN r).a 2 = (⟨1, 0, 0, 0⟩, [3], 0) := x_a2
  refine ⟨congrArg (fun x => x.1) h, ?_, ?_⟩
  · unfold doO evO
    rw [hd, ha]
    rfl
  · unfold evT
    rw [hd, ha]
    rfl
theorem new_up2 (r : RV) : evN (midN r) 0 = upN r ∧ doO (midN r) 0 = [reqP (upN r)] ∧ evT (midN r) 0 = [] := by
  have h := ev_of (n := midN r) (e := 0) 0 zPk x_b1 x_b2 (m := upN r) rfl
  have hd : doneB (midN r) 0 = true := x_b1
  have ha : doA (midN r).a 0 = (⟨6, 4, 3, 1⟩, [5, 7], 0) := x_b2
  have h1 : evN (midN r) 0 = upN r := congrArg (fun x => x.1) h
  refine ⟨h1, ?_, ?_⟩
  · unfold doO evO
    rw [h1, hd, ha]
    rfl
  · unfold evT
    rw [hd, ha]
    rfl
theorem mid_good (r : RV) : Good (midN r) := by
  have h := Good_new r
  exact ⟨by show aokB ⟨1, 0, 0, 0⟩ = true; decide +kernel, h.k, h.e, h.o⟩
theorem up_good (r : RV) : Good (upN r) := by
  have h := Good_new r
  exact ⟨by show aokB ⟨6, 4, 3, 1⟩ = true; decide +kernel, h.k, h.e, h.o⟩
def setN (W : WkV) (n : NgV) : WkV := { W with k := { W.k with n := n } }
theorem ipcpE_2 {W : WkV} {r : RV} (h : W.k.n = newN r) : ipcpE W 2 = setN W (midN r) := by
  obtain ⟨a1, a2, a3⟩ := new_up r
  unfold ipcpE
  rw [h, a1, a2, a3]
  unfold ipcpW sendW setN
  simp
theorem ipcpE_0 {W : WkV} {r : RV} (h : W.k.n = midN r) : ipcpE W 0 = sendW (setN W (upN r)) 32801 [reqP (upN r)] := by
  obtain ⟨a1, a2, a3⟩ := new_up2 r
  unfold ipcpE
  rw [h, a1, a2, a3]
  unfold ipcpW setN
  simp
/-- Who is let in. -/
def inW (k : LinkV) (who : ByteArray) (proof : B16) (id : Int) (addr : UInt32) : WkV := sendW (setN (letW (endW1 (beginW k) who proof true) id addr) (upN (gateR addr))) 32801 [reqP (upN (gateR addr))]
theorem welcome_is {k : LinkV} (h : askedB k = true) (who : ByteArray) (proof : B16) (id : Int) (addr : UInt32) : welcomeW k who proof id addr = inW k who proof id addr := by
  unfold welcomeW inW
  rw [h]
  show ipcpE (ipcpE _ 2) 0 = _
  rw [ipcpE_2 (W := letW _ id addr) (r := gateR addr) rfl, ipcpE_0 (r := gateR addr) rfl]
  rfl

set_option maxHeartbeats 16000000 in
set_option maxRecDepth 20000 in
theorem c_lwelcome (k : LinkV) (who : ByteArray) (proof : B16) (id : Int) (addr : UInt32) (hg : Good k.l) (σ : St) : VCalls Tryz.prog 23 [lkv k, .str who, .agg (b16C proof), .int .i64 id, .int .u32 addr.toNat] σ fun r σ' => r = .tup [lkv (doneK (welcomeW k who proof id addr)), outW (welcomeW k who proof id addr)] ∧ σ' = σ := by
  refine vcalls_intro (C := cfg Tryz.prog [] [] []) (cfg_ok mixed) Tryz.func23 rfl rfl rfl rfl rfl ?_
  simp (maxSteps := 1000000) -implicitDefEqProofs only [go_sem, lkv, lkC, b16C]
  refine vgo_call' rfl rfl rfl (c_begun k σ) ?_
  rintro r σ' ⟨rfl, rfl⟩
  refine ⟨rfl, ?_⟩
  simp (maxSteps := 1000000) -implicitDefEqProofs only [go_sem]
  refine vgo_call' rfl rfl rfl (c_lend (beginW k) who proof true (Nat.zero_le _) σ) ?_
  rintro r σ' ⟨rfl, rfl⟩
  refine ⟨rfl, ?_⟩
  have ha : askedB (beginW k).k = askedB k := rfl
  rw [ha]
  unfold endW2 welcomeW
  rw [ha]
  obtain ⟨q1, q2, q3⟩ := end1_l (beginW k) who proof true
  have z1 : (beginW k).sent.length = 0 := rfl
  have z2 : (beginW k).want.length = 0 := rfl
  cases askedB k
  · simp (maxSteps := 1000000) -implicitDefEqProofs only [go_sem]
    refine vgo_call' rfl rfl rfl (c_ldone (beginW k) σ) ?_
    rintro r σ' ⟨rfl, rfl⟩
    refine ⟨rfl, ?_⟩
    generalize beginW k = W
    simp (maxSteps := 1000000) -implicitDefEqProofs only [go_sem, lkC, outC, wS, wF, wT]
    rw [frs_take, zv_take]
    rfl
  · have hmn := fun σ => c_mnew σ
    unfold mev meC at hmn
    have hnw := fun σ => c_new (gateR addr) σ
    unfold rv rvC at hnw
    have hl1 : (endW1 (beginW k) who proof true).sent.length ≤ 1 ∧ (endW1 (beginW k) who proof true).want.length ≤ 1 := ⟨by omega, by rw [q3]; omega⟩
    have hgl : Good (endW1 (beginW k) who proof true).k.l := by rw [q1]; exact hg
    generalize endW1 (beginW k) who proof true = W1 at *
    have hw2 : (letW W1 id addr).k.n = newN (gateR addr) := rfl
    have hg2 : Good (letW W1 id addr).k.l := hgl
    have hl2 : (letW W1 id addr).sent.length ≤ 1 ∧ (letW W1 id addr).want.length ≤ 1 := hl1
    obtain ⟨a1, s1, b1, t1, hr1, hu1, hv1⟩ := ev_res (newN (gateR addr)) 2 0 zPk
    have hd1 := fun σ => c_ndo (newN (gateR addr)) 2 (Good_new _).cnt (Good_new _).e σ
    rw [do_ev (by decide), hr1] at hd1
    have hi1 := c_lipcpS (letW W1 id addr) (evN (newN (gateR addr)) 2) (doO (newN (gateR addr)) 2) (evT (newN (gateR addr)) 2) hg2 (by omega) (by omega) (by rw [(new_up _).2.1]; exact Nat.zero_le _) (by rw [(new_up _).2.2]; simp) (fun p hp => (doO_ok (Good_new _) 2 p hp).1) (fun p hp => (doO_ok (Good_new _) 2 p hp).2) hu1 hv1 σ
    have e1 : ipcpW (letW W1 id addr) (evN (newN (gateR addr)) 2) (doO (newN (gateR addr)) 2) (evT (newN (gateR addr)) 2) = ipcpE (letW W1 id addr) 2 := rfl
    rw [e1, ipcpE_2 (r := gateR addr) hw2] at hi1
    rw [ipcpE_2 (r := gateR addr) hw2]
    have hw3 : (setN (letW W1 id addr) (midN (gateR addr))).k.n = midN (gateR addr) := rfl
    have hg3 : Good (setN (letW W1 id addr) (midN (gateR addr))).k.l := hgl
    have hl3 : (setN (letW W1 id addr) (midN (gateR addr))).sent.length ≤ 1 ∧ (setN (letW W1 id addr) (midN (gateR addr))).want.length ≤ 1 := hl1
    unfold ngv ngC at hd1 hnw
    simp (maxSteps := 1000000) -implicitDefEqProofs only [go_sem]
    refine vgo_call rfl rfl rfl rfl (hmn _) ?_
    simp (maxSteps := 1000000) -implicitDefEqProofs only [go_sem, wS, wB, wkC]
    refine vgo_call rfl rfl rfl rfl (hnw _) ?_
    simp (maxSteps := 1000000) -implicitDefEqProofs only [go_sem]
    refine vgo_call rfl rfl rfl rfl (hd1 _) ?_
    simp (maxSteps := 1000000) -implicitDefEqProofs only [go_sem]
    refine vgo_call' rfl rfl rfl hi1 ?_
    rintro r σ' ⟨rfl, rfl⟩
    refine ⟨rfl, ?_⟩
    generalize setN (letW W1 id addr) (midN (gateR addr)) = W3 at *
    obtain ⟨a2, s2, b2, t2, hr2, hu2, hv2⟩ := ev_res W3.k.n 0 0 zPk
    have hgm : Good W3.k.n := by rw [hw3]; exact mid_good _
    have hd2 := fun σ => c_ndo W3.k.n 0 hgm.cnt hgm.e σ
    rw [do_ev (by decide), hr2] at hd2
    have hi2 := c_lipcpS W3 (evN W3.k.n 0) (doO W3.k.n 0) (evT W3.k.n 0) hg3 (by omega) (by omega) (by rw [hw3, (new_up2 _).2.1]; simp) (by rw [hw3, (new_up2 _).2.2]; simp) (fun p hp => (doO_ok hgm 0 p hp).1) (fun p hp => (doO_ok hgm 0 p hp).2) hu2 hv2 σ
    have e2 : ipcpW W3 (evN W3.k.n 0) (doO W3.k.n 0) (evT W3.k.n 0) = ipcpE W3 0 := rfl
    rw [e2] at hi2
    unfold ngv ngC at hd2
    simp (maxSteps := 1000000) -implicitDefEqProofs only [go_sem, wS, wB, wkC]
    refine vgo_call rfl rfl rfl rfl (hd2 _) ?_
    simp (maxSteps := 1000000) -implicitDefEqProofs only [go_sem]
    refine vgo_call' rfl rfl rfl hi2 ?_
    rintro r σ' ⟨rfl, rfl⟩
    refine ⟨rfl, ?_⟩
    generalize ipcpE W3 0 = W4
    simp (maxSteps := 1000000) -implicitDefEqProofs only [go_sem]
    refine vgo_call' rfl rfl rfl (c_ldone W4 σ) ?_
    rintro r σ' ⟨rfl, rfl⟩
    refine ⟨rfl, ?_⟩
    simp (maxSteps := 1000000) -implicitDefEqProofs only [go_sem, lkC, outC, wS, wF, wT]
    rw [frs_take, zv_take]
    rfl

end Go.VL

/- LinkJudged's law. Conditions: none. -/
namespace Go.VL
open Go.Proofs

/-! Plain: who is told so. -/
theorem asked_is {k : LinkV} (h : askedB k = true) : k.l.a.st = 9 ∧ k.sess < 0 ∧ k.a.st = 1 := by
  unfold askedB at h
  simp only [Bool.and_eq_true, beq_iff_eq] at h
  obtain ⟨h1, h2⟩ := h
  unfold phaseP at h1
  cases q : k.l.a.st == 9
  · rw [q] at h1
    simp only [Bool.false_and, cond_false] at h1
    cases q6 : decide (6 ≤ k.l.a.st)
    · rw [q6] at h1
      simp only [cond_false] at h1
      cases q4 : decide (4 ≤ k.l.a.st) <;> rw [q4] at h1 <;> simp at h1
    · rw [q6] at h1
      simp at h1
  · rw [q] at h1
    simp only [Bool.true_and, cond_true] at h1
    cases qs : decide (0 ≤ k.sess)
    · exact ⟨by simpa using q, by simpa using qs, h2⟩
    · rw [qs] at h1
      simp at h1
theorem c91 : (nextP 9 3).2.2 = true ∧ (nextP 9 3).1 = [2, 5, 10] ∧ (nextP 9 3).2.1 = 4 := by decide +kernel
/-- LCP is closed where it was Opened. -/
theorem close9 {n : NgV} (h : n.a.st = 9) : (evN n 3).a.st = 4 ∧ (doO n 3).length = 1 ∧ evT n 3 = [2] := by
  obtain ⟨c1, c2, c3⟩ := c91
  have hd : doneB n 3 = true := by unfold doneB; rw [h]; exact c1
  have hl : (doA n.a 3).2.1 = [2, 5, 10] := by rw [(do_done hd).2, h]; exact c2
  refine ⟨by rw [ev_st, h]; exact c3, ?_, ?_⟩
  · unfold doO evO
    rw [hd, hl]
    rfl
  · unfold evT
    rw [hd, hl]
    rfl
/-! What the law is asked of. -/
section
variable (k : LinkV) (p : B16) (id : UInt16) (addr : UInt32)
end
theorem wrap_u16 (x : UInt16) : IntKind.i64.wrap (x.toNat : Int) = (x.toNat : Int) := by
  have := x.toNat_lt
  exact wrap_ok (by omega) (by omega)

end Go.VL

/- Contracts of this program's functions: packets read; what a packet leaves of a protocol. Conditions: none. -/
namespace Go.VL
open Go.Proofs

def preadN (b2 b3 : UInt8) : Int := ibits BinOp.or IntKind.i64 (IntKind.i64.wrap (IntKind.i64.wrap (b2.toNat : Int) * 2 ^ 8)) (IntKind.i64.wrap (b3.toNat : Int))
/-- What bytes are read as. -/
def preadP (nl : Bool) : List UInt8 → Option PkV
  | b0 :: b1 :: b2 :: b3 :: r => bif !decide (preadN b2 b3 < 4) && !decide (((b0 :: b1 :: b2 :: b3 :: r).length : Int) < preadN b2 b3) && !decide (1500 < preadN b2 b3) then some ⟨b0, b1, nl, true, 1, ((b0 :: b1 :: b2 :: b3 :: r).take (preadN b2 b3).toNat).drop 4⟩ else none
  | _ => none
/-! What a packet leaves of a protocol. -/
structure PeerF (n : NgV) : Prop where
  ok : NgOK n
  l : n.peer.length ≤ lim
  d : ∀ x ∈ n.peer, x.d.length ≤ lim
theorem PeerF.cmp {n : NgV} (h : PeerF n) (hg : Good n) : CmpN n := by
  have he := hg.e
  refine ⟨⟨by have := enc_len he; unfold lim; omega, fun x hx => ?_⟩, h.l, h.d⟩
  unfold encOK at he
  simp only [Bool.and_eq_true, List.all_eq_true, decide_eq_true_eq] at he
  have := he.1 x hx
  unfold lim
  omega
theorem PeerF.same {n m : NgV} (h : PeerF n) (h1 : m.peer = n.peer) (h2 : m.pn = n.pn) (h3 : m.ps = n.ps) : PeerF m := by
  refine ⟨?_, by rw [h1]; exact h.l, by rw [h1]; exact h.d⟩
  rcases h.ok with e | ⟨e1, e2⟩
  · exact .inl (by rw [h3]; exact e)
  · exact .inr ⟨by rw [h2]; exact e1, by rw [h1]; exact e2⟩
theorem PeerF.nil {n : NgV} (h1 : n.peer = []) (h2 : n.pn = true) : PeerF n := ⟨.inr ⟨h2, h1⟩, by rw [h1]; exact Nat.zero_le _, by rw [h1]; intro x hx; cases hx⟩
theorem new_peer (r : RV) : PeerF (newN r) := .nil rfl rfl
theorem ev_peer {n : NgV} (h : PeerF n) (e : Int) : PeerF (evN n e) := by
  unfold evN actN
  cases doneB n e
  · exact h
  · simp only [cond_true]
    cases resetB n.a.st (doA n.a e).2.1
    · exact h.same rfl rfl rfl
    · exact .nil rfl rfl
/-- What a packet does: the protocol then, what is sent, and told. -/
inductive TakeR (n : NgV) (p : PkV) : NgV → List PkV → List Int → Prop
  | stay : TakeR n p n [] []
  | ev (n0 m : NgV) (e : Int) (reply : PkV) (h0 : Good n0) (ha : n0.a = n.a) (hr : ReplyOK p reply) (hma : m.a = (evN n0 e).a) (hm : Good m) : TakeR n p m (evO n0 e p.id reply) (evT n0 e)
/-- What is sent may be sent; there is little of it. -/
structure SentR (n m : NgV) (os : List PkV) (ts : List Int) : Prop where
  g : Good m
  f : PeerF m
  r : m.r = n.r
  ol : os.length ≤ 10
  tl : ts.length ≤ 10
  os : ∀ p ∈ os, PkS p
/-! Octets -/
def sumU (a : UInt64) (n : Nat) : UInt64 := UInt64.ofNat (min (a.toNat + n) 18446744073709551615)
def countM (m : MeterV) (i o : Nat) : MeterV := { m with inn := sumU m.inn i, out := sumU m.out o }
end Go.VL

/- Contracts of this program's functions: frames that come. Conditions: none. -/
namespace Go.VL
open Go.Proofs

def openB (k : LinkV) : Bool := (phaseP k == 3) && (k.n.a.st == 9)
/-- A packet of IP that comes. -/
def hearIpW (W : WkV) (f : FrV) : WkV := bif openB W.k then { W with k := { W.k with m := countM W.k.m f.d.length 0 }, ip := ⟨false, false, 1, [.sl f.nl f.c f.sz (bv f.d)]⟩ } else W
/-- A packet of CHAP that comes. -/
def hearChapW (W : WkV) (f : FrV) : WkV := match preadP f.nl f.d with
  | some p => bif (p.code == 2) && (phaseP W.k == 2) then { wantW W 2 with p := p } else W
  | none => W
/-- A packet of LCP that comes. -/
inductive LcpR (W : WkV) (f : FrV) : WkV → Prop
  | no : LcpR W f W
  | yes (p : PkV) (m : NgV) (os : List PkV) (ts : List Int) (hp : preadP f.nl f.d = some p) (ht : TakeR W.k.l p m os ts) (hs : SentR W.k.l m os ts) : LcpR W f (lcpW W m os ts)
/-- A packet of IPCP that comes. -/
inductive IpcpR (W : WkV) (f : FrV) : WkV → Prop
  | no : IpcpR W f W
  | yes (p : PkV) (m : NgV) (os : List PkV) (ts : List Int) (h3 : phaseP W.k = 3) (hp : preadP f.nl f.d = some p) (ht : TakeR W.k.n p m os ts) (hs : SentR W.k.n m os ts) : IpcpR W f (ipcpW W m os ts)
/-! A protocol that isn't known is refused. -/
def shortB (l : List UInt8) : List UInt8 := l.take (min l.length 1496)
def hiLo (x : UInt16) : List UInt8 := [u8Z ((x.toNat : Int).fdiv (2 ^ 8)), u8Z (x.toNat : Int)]
def refuseP (f : FrV) (id : UInt8) : PkV := ⟨8, id, false, true, 1, shortB (hiLo f.proto ++ f.d)⟩
/-- A link at work, with what lies behind it. -/
def beginM (k : LinkV) (M : List VO) : WkV := { beginW k with x := M }
/-- What becomes of a frame. -/
inductive HearR (W : WkV) (f : FrV) : WkV → Prop
  | lcp (h : f.proto = 49185) (W' : WkV) (hr : LcpR W f W') : HearR W f W'
  | chap (h : f.proto = 49699) : HearR W f (hearChapW W f)
  | ipcp (h : f.proto = 32801) (W' : WkV) (hr : IpcpR W f W') : HearR W f W'
  | ip (h : f.proto = 33) : HearR W f (hearIpW W f)
  | other (h1 : f.proto ≠ 49185) (h2 : f.proto ≠ 49699) (h3 : f.proto ≠ 32801) (h4 : f.proto ≠ 33) : HearR W f (bif W.k.l.a.st == 9 then sendW W 49185 [refuseP f W.k.l.a.id] else W)
end Go.VL

/- What a link at work keeps, in plain Lean. Conditions: none. -/
namespace Go.VL
open Go.Proofs

/-! What is told of LCP: Opened is come to, or left. -/
def ud (x : Int) : Bool := x == 1 || x == 2
theorem told_tab : ∀ s : Fin 10, ∀ e : Fin 16, (toldP s.val e.val).filter ud = (if (s.val : Int) = 9 ∧ (nextP s.val e.val).2.1 ≠ 9 then [2] else if (s.val : Int) ≠ 9 ∧ (nextP s.val e.val).2.1 = 9 then [1] else []) := by decide +kernel
theorem told_is {s : Int} (hs : 0 ≤ s ∧ s ≤ 9) (e : Int) : (toldP s e).filter ud = (if s = 9 ∧ (nextP s e).2.1 ≠ 9 then [2] else if s ≠ 9 ∧ (nextP s e).2.1 = 9 then [1] else []) := by
  by_cases he : 0 ≤ e ∧ e ≤ 15
  · have := told_tab ⟨s.toNat, by omega⟩ ⟨e.toNat, by omega⟩
    have e1 : ((s.toNat : Nat) : Int) = s := by omega
    have e2 : ((e.toNat : Nat) : Int) = e := by omega
    simp only [e1, e2] at this
    exact this
  · have hn : nextP s e = ([], s, false) := by
      unfold nextP
      have : (decide (0 ≤ s) && decide (s ≤ 9) && decide (0 ≤ e) && decide (e ≤ 15)) = false := by
        cases hq : decide (0 ≤ s) && decide (s ≤ 9) && decide (0 ≤ e) && decide (e ≤ 15)
        · rfl
        · simp only [Bool.and_eq_true, decide_eq_true_eq] at hq
          exact absurd ⟨hq.1.2, hq.2⟩ he
      rw [this]
      rfl
    unfold toldP
    rw [hn, if_neg (fun h => h.2 h.1), if_neg (fun h => h.1 h.2)]
    rfl
theorem fold_ud : ∀ (ts : List Int) (W : WkV), ts.foldl toldW W = (ts.filter ud).foldl toldW W
  | [], _ => rfl
  | x :: ts, W => by
    rw [List.foldl_cons]
    cases hx : ud x
    · have h1 : (x == 1) = false := by unfold ud at hx; simp only [Bool.or_eq_false_iff] at hx; exact hx.1
      have h2 : (x == 2) = false := by unfold ud at hx; simp only [Bool.or_eq_false_iff] at hx; exact hx.2
      have : toldW W x = W := by unfold toldW; rw [h1, h2]; rfl
      rw [this, List.filter_cons_of_neg (by simp [hx])]
      exact fold_ud ts W
    · rw [List.filter_cons_of_pos hx, List.foldl_cons]
      exact fold_ud ts _
/-- LCP then, and what it sends. -/
def lcpS (W : WkV) (m : NgV) (os : List PkV) : WkV := sendW { W with k := { W.k with l := m } } 49185 os
theorem lcp_is (W : WkV) (n0 m : NgV) (e : Int) (os : List PkV) (hs : 0 ≤ n0.a.st ∧ n0.a.st ≤ 9) : lcpW W m os (evT n0 e) = (if n0.a.st = 9 ∧ (evN n0 e).a.st ≠ 9 then downW (lcpS W m os) else if n0.a.st ≠ 9 ∧ (evN n0 e).a.st = 9 then upW (lcpS W m os) else lcpS W m os) := by
  unfold lcpW
  rw [fold_ud, ev_told, told_is hs e, ← ev_st]
  by_cases h1 : n0.a.st = 9 ∧ (evN n0 e).a.st ≠ 9
  · rw [if_pos h1, if_pos h1]; rfl
  · rw [if_neg h1, if_neg h1]
    by_cases h2 : n0.a.st ≠ 9 ∧ (evN n0 e).a.st = 9
    · rw [if_pos h2, if_pos h2]; rfl
    · rw [if_neg h2, if_neg h2]; rfl

/-! Phases. -/
theorem phase3 (k : LinkV) : phaseP k = 3 ↔ k.l.a.st = 9 ∧ 0 ≤ k.sess := by
  unfold phaseP
  cases h9 : k.l.a.st == 9
  · have h : k.l.a.st ≠ 9 := by simpa using h9
    simp only [Bool.false_and, cond_false]
    refine ⟨fun hp => ?_, fun hp => absurd hp.1 h⟩
    cases h6 : decide (6 ≤ k.l.a.st)
    · rw [h6] at hp
      simp only [cond_false] at hp
      cases h4 : decide (4 ≤ k.l.a.st) <;> rw [h4] at hp <;> cases hp
    · rw [h6] at hp; cases hp
  · have h : k.l.a.st = 9 := by simpa using h9
    cases hs : decide (0 ≤ k.sess)
    · simp only [decide_eq_false_iff_not] at hs
      simp only [Bool.and_false, cond_false, cond_true]
      exact ⟨fun hp => (by cases hp), fun hp => absurd hp.2 hs⟩
    · simp only [decide_eq_true_eq] at hs
      exact ⟨fun _ => ⟨h, hs⟩, fun _ => rfl⟩

/-- What a link at work keeps. -/
structure KeepW (k : LinkV) (W : WkV) (c : Nat) : Prop where
  l : Good W.k.l
  n : Good W.k.n
  fl : PeerF W.k.l
  fn : PeerF W.k.n
  lip : W.k.l.r.ip = false
  nip : W.k.n.r.ip = true
  low : -1 ≤ W.k.sess
  line : W.k.line = k.line
  au : authB W.k.a = true
  me : meterB W.k.m = true
  live : 0 ≤ W.k.sess → W.k.l.a.st = 9 ∧ W.k.a.st = 2 ∧ W.k.sess = k.sess ∧ phaseP k = 3 ∧ k.m.inn.toNat ≤ W.k.m.inn.toNat ∧ k.m.out.toNat ≤ W.k.m.out.toNat
  sent : ∀ x ∈ W.sent, x.proto = 32801 ∨ x.proto = 33 → phaseP k = 3
  want : (3 : Int) ∈ W.want ↔ phaseP k = 3 ∧ W.k.sess < 0
  stop : phaseP k = 3 → W.k.sess < 0 → W.stop.kind = 3 ∧ W.stop.id = k.sess ∧ k.m.inn.toNat ≤ W.stop.inn.toNat ∧ k.m.out.toNat ≤ W.stop.out.toNat
  ip : W.ip.es = [] ∨ phaseP k = 3
  sl : W.sent.length ≤ c
  wl : W.want.length ≤ c

theorem KeepW.up {k : LinkV} {W : WkV} {c : Nat} (h : KeepW k W c) (d : Nat) (hd : c ≤ d) : KeepW k W d :=
  ⟨h.l, h.n, h.fl, h.fn, h.lip, h.nip, h.low, h.line, h.au, h.me, h.live, h.sent, h.want, h.stop, h.ip, Nat.le_trans h.sl hd, Nat.le_trans h.wl hd⟩
theorem keep_begin {k : LinkV} (hg : GoodK k) (fl : PeerF k.l) (fn : PeerF k.n) (M : List VO) : KeepW k (beginM k M) 0 := by
  refine ⟨hg.l, hg.n, fl, fn, hg.lip, hg.nip, hg.low, rfl, hg.au, hg.me, fun hs => ?_, fun x hx => (by cases hx), ?_, fun h3 hs => ?_, .inl rfl, Nat.le_refl _, Nat.le_refl _⟩
  · have h9 := hg.st9 hs
    rcases hg.sess with e | ⟨e1, e2⟩
    · have : k.sess = -1 := e
      have hs' : 0 ≤ k.sess := hs
      omega
    · exact ⟨h9, e2, rfl, by rw [← hg.phase]; exact e1, Nat.le_refl _, Nat.le_refl _⟩
  · refine ⟨fun hm => (by cases hm), fun ⟨h3, hs⟩ => ?_⟩
    have := ((phase3 k).1 h3).2
    have hs' : k.sess < 0 := hs
    omega
  · have := ((phase3 k).1 h3).2
    have hs' : k.sess < 0 := hs
    omega

theorem KeepW.lcp {k : LinkV} {W : WkV} {c : Nat} (h : KeepW k W c) (n0 m : NgV) (e : Int) (os : List PkV) (ha : n0.a.st = W.k.l.a.st) (hst : m.a.st = (evN n0 e).a.st) (hm : Good m) (hf : PeerF m) (hr : m.r.ip = false) (hol : os.length ≤ 10) : KeepW k (lcpW W m os (evT n0 e)) (c + 10) := by
  have hsl : (W.sent ++ os.map (frmOf 49185)).length ≤ c + 10 := by
    rw [List.length_append, List.length_map]
    have := h.sl
    omega
  have hwl := h.wl
  have hsent : ∀ x ∈ W.sent ++ os.map (frmOf 49185), x.proto = 32801 ∨ x.proto = 33 → phaseP k = 3 := by
    intro x hx hp
    rcases List.mem_append.1 hx with hx | hx
    · exact h.sent x hx hp
    · obtain ⟨p, _, rfl⟩ := List.mem_map.1 hx
      rcases hp with hp | hp
      · exact absurd (show (49185 : UInt16) = 32801 from hp) (by decide)
      · exact absurd (show (49185 : UInt16) = 33 from hp) (by decide)
  rw [lcp_is W n0 m e os (by rw [ha]; exact h.l.st)]
  by_cases h1 : n0.a.st = 9 ∧ (evN n0 e).a.st ≠ 9
  · rw [if_pos h1]
    unfold downW endW
    cases hs : decide (0 ≤ (lcpS W m os).k.sess)
    · have hs' : ¬ (0 ≤ W.k.sess) := of_decide_eq_false hs
      refine ⟨hm, Good_new _, hf, new_peer _, hr, rfl, by show (-1 : Int) ≤ -1; omega, h.line, rfl, rfl, fun hs => absurd (show (0 : Int) ≤ -1 from hs) (by omega), hsent, ?_, fun h3 _ => h.stop h3 (by omega), h.ip, hsl, by show W.want.length ≤ c + 10; omega⟩
      show (3 : Int) ∈ W.want ↔ phaseP k = 3 ∧ (-1 : Int) < 0
      rw [h.want]
      exact ⟨fun x => ⟨x.1, by omega⟩, fun x => ⟨x.1, by omega⟩⟩
    · have hs' : 0 ≤ W.k.sess := of_decide_eq_true hs
      obtain ⟨l1, l2, l3, l4, l5, l6⟩ := h.live hs'
      refine ⟨hm, Good_new _, hf, new_peer _, hr, rfl, by show (-1 : Int) ≤ -1; omega, h.line, rfl, rfl, fun hs => absurd (show (0 : Int) ≤ -1 from hs) (by omega), hsent, ?_, fun _ _ => ⟨rfl, l3, l5, l6⟩, h.ip, hsl, ?_⟩
      · show (3 : Int) ∈ W.want ++ [3] ↔ phaseP k = 3 ∧ (-1 : Int) < 0
        exact ⟨fun _ => ⟨l4, by omega⟩, fun _ => by simp⟩
      · show (W.want ++ [3]).length ≤ c + 10
        simp
        omega
  · rw [if_neg h1]
    by_cases h2 : n0.a.st ≠ 9 ∧ (evN n0 e).a.st = 9
    · rw [if_pos h2]
      have hs : ¬ (0 ≤ W.k.sess) := fun hs => h2.1 (ha.trans (h.live hs).1)
      refine ⟨hm, h.n, hf, h.fn, hr, h.nip, h.low, h.line, rfl, h.me, fun hs' => absurd hs' hs, hsent, ?_, h.stop, h.ip, hsl, ?_⟩
      · show (3 : Int) ∈ W.want ++ [1] ↔ phaseP k = 3 ∧ W.k.sess < 0
        rw [← h.want]
        simp
      · show (W.want ++ [1]).length ≤ c + 10
        simp
        omega
    · rw [if_neg h2]
      refine ⟨hm, h.n, hf, h.fn, hr, h.nip, h.low, h.line, h.au, h.me, fun hs => ?_, hsent, h.want, h.stop, h.ip, hsl, by show W.want.length ≤ c + 10; omega⟩
      obtain ⟨l1, l2⟩ := h.live hs
      refine ⟨?_, l2⟩
      show m.a.st = 9
      rw [hst]
      by_cases h9 : (evN n0 e).a.st = 9
      · exact h9
      · exact absurd ⟨ha.trans l1, h9⟩ h1
theorem KeepW.close {k : LinkV} {W : WkV} {c : Nat} (h : KeepW k W c) : KeepW k (closeW W) (c + 10) :=
  h.lcp W.k.l (evN W.k.l 3) 3 (doO W.k.l 3) rfl rfl (ev_good h.l 3) (ev_peer h.fl 3) (by rw [ev_r]; exact h.lip) (evO_len _ _ _ _)
theorem KeepW.good {k : LinkV} {W : WkV} {c : Nat} (h : KeepW k W c) (hg : GoodK k) : GoodK (doneK W) := by
  refine ⟨h.l, h.n, h.lip, h.nip, h.low, rfl, ?_, ?_, h.au, h.me⟩
  · rcases Int.lt_or_le W.k.sess 0 with hs | hs
    · left
      have := h.low
      show W.k.sess = -1
      omega
    · obtain ⟨l1, l2, _⟩ := h.live hs
      exact .inr ⟨(phase3 W.k).2 ⟨l1, hs⟩, l2⟩
  · show lineB W.k.line = true
    rw [h.line]
    exact hg.line
end Go.VL
