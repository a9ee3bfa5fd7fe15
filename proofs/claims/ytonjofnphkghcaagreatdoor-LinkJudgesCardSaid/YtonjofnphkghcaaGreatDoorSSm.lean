/- Contracts of this program's functions over values, joined texts. Conditions: none. -/
import Derived.Test.YtonjofnphkghcaaGreatDoorSSc
import Derived.Test.YtonjofnphkghcaaGreatDoorVVc
set_option linter.unusedVariables false
set_option linter.unusedSimpArgs false
/- Links, and what comes out of them, as values. Conditions: none. -/
namespace Go.VL
open Go.Proofs

structure B16 where
  b0 : UInt8
  b1 : UInt8
  b2 : UInt8
  b3 : UInt8
  b4 : UInt8
  b5 : UInt8
  b6 : UInt8
  b7 : UInt8
  b8 : UInt8
  b9 : UInt8
  b10 : UInt8
  b11 : UInt8
  b12 : UInt8
  b13 : UInt8
  b14 : UInt8
  b15 : UInt8
  deriving DecidableEq
structure LineV where
  b : List UInt8
  nl : Bool
  c : Bool
  sz : Nat
  long : Bool
structure AuthV where
  st : Int
  tries : Int
  left : Int
  id : UInt8
  val : B16
  who : ByteArray
  proof : B16
structure MeterV where
  inn : UInt64
  out : UInt64
  left : Int
structure LinkV where
  phase : Int
  line : LineV
  l : NgV
  n : NgV
  a : AuthV
  m : MeterV
  sess : Int
  addr : UInt32
structure FrV where
  proto : UInt16
  nl : Bool
  c : Bool
  sz : Nat
  d : List UInt8
structure OpV where
  kind : Int
  id : Int
  lnk : Int
  addr : UInt32
  user : ByteArray
  inn : UInt64
  out : UInt64
  cause : Int
  time : Int
/-- A row of values. -/
structure SlV where
  nl : Bool
  c : Bool
  sz : Nat
  es : List V
/-- A link at work: what is sent, what is wanted, an answer, a stop, what has come. -/
structure WkV where
  k : LinkV
  sent : List FrV
  want : List Int
  p : PkV
  stop : OpV
  ip : SlV
  x : List VO
def b16C (x : B16) : List V := [.int .u8 x.b0.toNat, .int .u8 x.b1.toNat, .int .u8 x.b2.toNat, .int .u8 x.b3.toNat, .int .u8 x.b4.toNat, .int .u8 x.b5.toNat, .int .u8 x.b6.toNat, .int .u8 x.b7.toNat, .int .u8 x.b8.toNat, .int .u8 x.b9.toNat, .int .u8 x.b10.toNat, .int .u8 x.b11.toNat, .int .u8 x.b12.toNat, .int .u8 x.b13.toNat, .int .u8 x.b14.toNat, .int .u8 x.b15.toNat]
def auhC (a : AuthV) : List V := [.int .i64 a.st, .int .i64 a.tries, .int .i64 a.left, .int .u8 a.id.toNat, .int .u8 a.val.b0.toNat, .int .u8 a.val.b1.toNat, .int .u8 a.val.b2.toNat, .int .u8 a.val.b3.toNat, .int .u8 a.val.b4.toNat, .int .u8 a.val.b5.toNat, .int .u8 a.val.b6.toNat, .int .u8 a.val.b7.toNat, .int .u8 a.val.b8.toNat, .int .u8 a.val.b9.toNat, .int .u8 a.val.b10.toNat, .int .u8 a.val.b11.toNat, .int .u8 a.val.b12.toNat, .int .u8 a.val.b13.toNat, .int .u8 a.val.b14.toNat, .int .u8 a.val.b15.toNat, .str a.who, .int .u8 a.proof.b0.toNat, .int .u8 a.proof.b1.toNat, .int .u8 a.proof.b2.toNat, .int .u8 a.proof.b3.toNat, .int .u8 a.proof.b4.toNat, .int .u8 a.proof.b5.toNat, .int .u8 a.proof.b6.toNat, .int .u8 a.proof.b7.toNat, .int .u8 a.proof.b8.toNat, .int .u8 a.proof.b9.toNat, .int .u8 a.proof.b10.toNat, .int .u8 a.proof.b11.toNat, .int .u8 a.proof.b12.toNat, .int .u8 a.proof.b13.toNat, .int .u8 a.proof.b14.toNat, .int .u8 a.proof.b15.toNat]
def auhv (a : AuthV) : V := .agg (auhC a)
def meC (m : MeterV) : List V := [.int .u64 m.inn.toNat, .int .u64 m.out.toNat, .int .i64 m.left]
def mev (m : MeterV) : V := .agg (meC m)
def lnC (l : LineV) : List V := [.sl l.nl l.c l.sz (bv l.b), .bool l.long]
def lnv (l : LineV) : V := .agg (lnC l)
def opC (o : OpV) : List V := [.int .i64 o.kind, .int .i64 o.id, .int .i64 o.lnk, .int .u32 o.addr.toNat, .str o.user, .int .u64 o.inn.toNat, .int .u64 o.out.toNat, .int .i64 o.cause, .int .i64 o.time]
def frC (f : FrV) : List V := [.int .u16 f.proto.toNat, .sl f.nl f.c f.sz (bv f.d)]
def frv (f : FrV) : V := .agg (frC f)
def frs (l : List FrV) : List V := l.map frv
def lkC (k : LinkV) : List V := [.int .i64 k.phase, .sl k.line.nl k.line.c k.line.sz (bv k.line.b), .bool k.line.long, .int .i64 k.l.a.st, .int .i64 k.l.a.cnt, .int .i64 k.l.a.left, .int .u8 k.l.a.id.toNat, .bool k.l.r.ip, .int .u32 k.l.r.magic.toNat, .int .u32 k.l.r.other.toNat, .int .u32 k.l.r.addr.toNat, .int .u32 k.l.r.ours.toNat, .sl k.l.on k.l.oc 2 (osv k.l.ours), .int .i64 k.l.naks, .sl k.l.pn k.l.pc k.l.ps (osv k.l.peer), .int .i64 k.n.a.st, .int .i64 k.n.a.cnt, .int .i64 k.n.a.left, .int .u8 k.n.a.id.toNat, .bool k.n.r.ip, .int .u32 k.n.r.magic.toNat, .int .u32 k.n.r.other.toNat, .int .u32 k.n.r.addr.toNat, .int .u32 k.n.r.ours.toNat, .sl k.n.on k.n.oc 2 (osv k.n.ours), .int .i64 k.n.naks, .sl k.n.pn k.n.pc k.n.ps (osv k.n.peer), .int .i64 k.a.st, .int .i64 k.a.tries, .int .i64 k.a.left, .int .u8 k.a.id.toNat, .int .u8 k.a.val.b0.toNat, .int .u8 k.a.val.b1.toNat, .int .u8 k.a.val.b2.toNat, .int .u8 k.a.val.b3.toNat, .int .u8 k.a.val.b4.toNat, .int .u8 k.a.val.b5.toNat, .int .u8 k.a.val.b6.toNat, .int .u8 k.a.val.b7.toNat, .int .u8 k.a.val.b8.toNat, .int .u8 k.a.val.b9.toNat, .int .u8 k.a.val.b10.toNat, .int .u8 k.a.val.b11.toNat, .int .u8 k.a.val.b12.toNat, .int .u8 k.a.val.b13.toNat, .int .u8 k.a.val.b14.toNat, .int .u8 k.a.val.b15.toNat, .str k.a.who, .int .u8 k.a.proof.b0.toNat, .int .u8 k.a.proof.b1.toNat, .int .u8 k.a.proof.b2.toNat, .int .u8 k.a.proof.b3.toNat, .int .u8 k.a.proof.b4.toNat, .int .u8 k.a.proof.b5.toNat, .int .u8 k.a.proof.b6.toNat, .int .u8 k.a.proof.b7.toNat, .int .u8 k.a.proof.b8.toNat, .int .u8 k.a.proof.b9.toNat, .int .u8 k.a.proof.b10.toNat, .int .u8 k.a.proof.b11.toNat, .int .u8 k.a.proof.b12.toNat, .int .u8 k.a.proof.b13.toNat, .int .u8 k.a.proof.b14.toNat, .int .u8 k.a.proof.b15.toNat, .int .u64 k.m.inn.toNat, .int .u64 k.m.out.toNat, .int .i64 k.m.left, .int .i64 k.sess, .int .u32 k.addr.toNat]
def lkv (k : LinkV) : V := .agg (lkC k)
/-- A link at work, with its rows at s and t. -/
def wkC (k : LinkV) (s t : V) (p : PkV) (o : OpV) (ip : SlV) : List V := [.int .i64 k.phase, .sl k.line.nl k.line.c k.line.sz (bv k.line.b), .bool k.line.long, .int .i64 k.l.a.st, .int .i64 k.l.a.cnt, .int .i64 k.l.a.left, .int .u8 k.l.a.id.toNat, .bool k.l.r.ip, .int .u32 k.l.r.magic.toNat, .int .u32 k.l.r.other.toNat, .int .u32 k.l.r.addr.toNat, .int .u32 k.l.r.ours.toNat, .sl k.l.on k.l.oc 2 (osv k.l.ours), .int .i64 k.l.naks, .sl k.l.pn k.l.pc k.l.ps (osv k.l.peer), .int .i64 k.n.a.st, .int .i64 k.n.a.cnt, .int .i64 k.n.a.left, .int .u8 k.n.a.id.toNat, .bool k.n.r.ip, .int .u32 k.n.r.magic.toNat, .int .u32 k.n.r.other.toNat, .int .u32 k.n.r.addr.toNat, .int .u32 k.n.r.ours.toNat, .sl k.n.on k.n.oc 2 (osv k.n.ours), .int .i64 k.n.naks, .sl k.n.pn k.n.pc k.n.ps (osv k.n.peer), .int .i64 k.a.st, .int .i64 k.a.tries, .int .i64 k.a.left, .int .u8 k.a.id.toNat, .int .u8 k.a.val.b0.toNat, .int .u8 k.a.val.b1.toNat, .int .u8 k.a.val.b2.toNat, .int .u8 k.a.val.b3.toNat, .int .u8 k.a.val.b4.toNat, .int .u8 k.a.val.b5.toNat, .int .u8 k.a.val.b6.toNat, .int .u8 k.a.val.b7.toNat, .int .u8 k.a.val.b8.toNat, .int .u8 k.a.val.b9.toNat, .int .u8 k.a.val.b10.toNat, .int .u8 k.a.val.b11.toNat, .int .u8 k.a.val.b12.toNat, .int .u8 k.a.val.b13.toNat, .int .u8 k.a.val.b14.toNat, .int .u8 k.a.val.b15.toNat, .str k.a.who, .int .u8 k.a.proof.b0.toNat, .int .u8 k.a.proof.b1.toNat, .int .u8 k.a.proof.b2.toNat, .int .u8 k.a.proof.b3.toNat, .int .u8 k.a.proof.b4.toNat, .int .u8 k.a.proof.b5.toNat, .int .u8 k.a.proof.b6.toNat, .int .u8 k.a.proof.b7.toNat, .int .u8 k.a.proof.b8.toNat, .int .u8 k.a.proof.b9.toNat, .int .u8 k.a.proof.b10.toNat, .int .u8 k.a.proof.b11.toNat, .int .u8 k.a.proof.b12.toNat, .int .u8 k.a.proof.b13.toNat, .int .u8 k.a.proof.b14.toNat, .int .u8 k.a.proof.b15.toNat, .int .u64 k.m.inn.toNat, .int .u64 k.m.out.toNat, .int .i64 k.m.left, .int .i64 k.sess, .int .u32 k.addr.toNat, s, t, .int .u8 p.code.toNat, .int .u8 p.id.toNat, .sl p.nl p.c p.sz (bv p.d), .int .i64 o.kind, .int .i64 o.id, .int .i64 o.lnk, .int .u32 o.addr.toNat, .str o.user, .int .u64 o.inn.toNat, .int .u64 o.out.toNat, .int .i64 o.cause, .int .i64 o.time, .sl ip.nl ip.c ip.sz ip.es]
def outC (s t : V) (p : PkV) (o : OpV) (ip : SlV) : List V := [s, t, .int .u8 p.code.toNat, .int .u8 p.id.toNat, .sl p.nl p.c p.sz (bv p.d), .int .i64 o.kind, .int .i64 o.id, .int .i64 o.lnk, .int .u32 o.addr.toNat, .str o.user, .int .u64 o.inn.toNat, .int .u64 o.out.toNat, .int .i64 o.cause, .int .i64 o.time, .sl ip.nl ip.c ip.sz ip.es]

end Go.VL

/- What a link at work does, in plain Lean. Conditions: none. -/
namespace Go.VL
open Go.Proofs

def z16 : B16 := ⟨0, 0, 0, 0, 0, 0, 0, 0, 0, 0, 0, 0, 0, 0, 0, 0⟩
def noS : ByteArray := ⟨#[]⟩
def zAu (id : UInt8) : AuthV := ⟨0, 0, 0, id, z16, noS, z16⟩
def zMe : MeterV := ⟨0, 0, 0⟩
def zOp : OpV := ⟨0, 0, 0, 0, noS, 0, 0, 0, 0⟩
def freshN : NgV := newN ipR
/-- No user: a dash. -/
def dash : ByteArray := ⟨#[45]⟩
def frmOf (proto : UInt16) (p : PkV) : FrV := ⟨proto, false, false, 1, pkB p⟩
def sendW (W : WkV) (proto : UInt16) (os : List PkV) : WkV := { W with sent := W.sent ++ os.map (frmOf proto) }
def wantW (W : WkV) (x : Int) : WkV := { W with want := W.want ++ [x] }
def stopO (m : MeterV) (id cause : Int) : OpV := ⟨3, id, 0, 0, dash, m.inn, m.out, cause, 0⟩
def upW (W : WkV) : WkV := wantW { W with k := { W.k with a := zAu W.k.a.id } } 1
def endW (W : WkV) : WkV := bif decide (0 ≤ W.k.sess) then { wantW W 3 with stop := stopO W.k.m W.k.sess 1 } else W
def goneW (W : WkV) : WkV := { W with k := { W.k with a := zAu W.k.a.id, n := freshN, m := zMe, sess := -1, addr := 0 } }
def downW (W : WkV) : WkV := goneW (endW W)
def toldW (W : WkV) (x : Int) : WkV := bif x == 1 then upW W else bif x == 2 then downW W else W
def lcpW (W : WkV) (n : NgV) (os : List PkV) (ts : List Int) : WkV := ts.foldl toldW (sendW { W with k := { W.k with l := n } } 49185 os)
/-- What a layer beside it does, as rows. -/
def doO (n : NgV) (e : Int) : List PkV := evO n e 0 zPk
def closeW (W : WkV) : WkV := lcpW W (evN W.k.l 3) (doO W.k.l 3) (evT W.k.l 3)
def ipcpW (W : WkV) (n : NgV) (os : List PkV) (ts : List Int) : WkV := bif decide ((4 : Int) ∈ ts) then closeW (sendW { W with k := { W.k with n := n } } 32801 os) else sendW { W with k := { W.k with n := n } } 32801 os
def phaseP (k : LinkV) : Int := bif k.l.a.st == 9 && decide (0 ≤ k.sess) then 3 else bif k.l.a.st == 9 then 2 else bif decide (6 ≤ k.l.a.st) then 1 else bif decide (4 ≤ k.l.a.st) then 4 else 0
def doneK (W : WkV) : LinkV := { W.k with phase := phaseP W.k }
def beginW (k : LinkV) : WkV := ⟨k, [], [], zPk, zOp, ⟨true, false, 0, []⟩, []⟩
/-- A link at work, as objects: it, what it sends, what it wants. -/
def wB (σ : St) (W : WkV) : VO := .box (wkC W.k (.rsl (σ.length + 1) W.sent.length 0 W.sent.length) (.rsl (σ.length + 2) W.want.length 0 W.want.length) W.p W.stop W.ip)
def wF (W : WkV) : VO := .arr W.sent.isEmpty W.sent.length 2 (frs W.sent)
def wT (W : WkV) : VO := .arr W.want.isEmpty W.want.length 1 (zv64 W.want)
def wS (σ : St) (W : WkV) : St := σ ++ wB σ W :: wF W :: wT W :: W.x
/-- What has come out. -/
def outW (W : WkV) : V := .agg (outC (.sl W.sent.isEmpty false 2 (frs W.sent)) (.sl W.want.isEmpty false 1 (zv64 W.want)) W.p W.stop W.ip)

end Go.VL

/- What is plugged, and unplugged, in plain Lean. Conditions: none. -/
namespace Go.VL
open Go.Proofs

theorem next_not_all : ∀ s : Fin 10, ∀ e : Fin 16, (nextP s.val e.val).2.2 = false → (nextP s.val e.val).2.1 = s.val := by decide +kernel
theorem next_not {s e : Int} (h : (nextP s e).2.2 = false) : (nextP s e).2.1 = s := by
  by_cases hr : (0 ≤ s ∧ s ≤ 9) ∧ 0 ≤ e ∧ e ≤ 15
  · have := next_not_all ⟨s.toNat, by omega⟩ ⟨e.toNat, by omega⟩
    have e1 : ((s.toNat : Nat) : Int) = s := by omega
    have e2 : ((e.toNat : Nat) : Int) = e := by omega
    simp only [e1, e2] at this
    exact this h
  · unfold nextP
    have : (decide (0 ≤ s) && decide (s ≤ 9) && decide (0 ≤ e) && decide (e ≤ 15)) = false := by
      cases hq : decide (0 ≤ s) && decide (s ≤ 9) && decide (0 ≤ e) && decide (e ≤ 15)
      · rfl
      · simp only [Bool.and_eq_true, decide_eq_true_eq] at hq
        exact absurd ⟨⟨hq.1.1.1, hq.1.1.2⟩, hq.1.2, hq.2⟩ hr
    rw [this]
    rfl
theorem ev_st (n : NgV) (e : Int) : (evN n e).a.st = (nextP n.a.st e).2.1 := by
  cases hd : doneB n e
  · have hd' : (nextP n.a.st e).2.2 = false := hd
    rw [next_not hd']
    unfold evN
    rw [hd]
    rfl
  · rw [ev_a hd]
    have hd' : (nextP n.a.st e).2.2 = true := hd
    unfold doA
    rw [hd']
    rfl
theorem evT_eq (n : NgV) (e : Int) : evT n e = bif (nextP n.a.st e).2.2 then toldOf (nextP n.a.st e).1 else [] := by
  have h : (doA n.a e).2.1 = bif (nextP n.a.st e).2.2 then (nextP n.a.st e).1 else [] := by
    unfold doA
    cases (nextP n.a.st e).2.2 <;> rfl
  unfold evT doneB
  rw [h]
  cases (nextP n.a.st e).2.2 <;> rfl
def toldP (s e : Int) : List Int := bif (nextP s e).2.2 then toldOf (nextP s e).1 else []
theorem ev_told (n : NgV) (e : Int) : evT n e = toldP n.a.st e := evT_eq n e
theorem ev_r (n : NgV) (e : Int) : (evN n e).r = n.r := by
  unfold evN actN
  cases doneB n e
  · rfl
  · simp only [cond_true]
    cases resetB n.a.st (doA n.a e).2.1 <;> rfl

/-! Rows are sent, and a layer's ups and downs told. -/
theorem told_l (W : WkV) (x : Int) : (toldW W x).k.l = W.k.l ∧ (toldW W x).sent = W.sent ∧ (toldW W x).k.line = W.k.line ∧ (toldW W x).ip = W.ip ∧ (toldW W x).p = W.p := by
  unfold toldW
  cases x == 1
  · cases x == 2
    · exact ⟨rfl, rfl, rfl, rfl, rfl⟩
    · unfold downW goneW endW
      cases decide (0 ≤ W.k.sess) <;> exact ⟨rfl, rfl, rfl, rfl, rfl⟩
  · exact ⟨rfl, rfl, rfl, rfl, rfl⟩
theorem tolds_l : ∀ (ts : List Int) (W : WkV), (ts.foldl toldW W).k.l = W.k.l ∧ (ts.foldl toldW W).sent = W.sent ∧ (ts.foldl toldW W).k.line = W.k.line ∧ (ts.foldl toldW W).ip = W.ip ∧ (ts.foldl toldW W).p = W.p
  | [], W => ⟨rfl, rfl, rfl, rfl, rfl⟩
  | x :: ts, W => by
    rw [List.foldl_cons]
    obtain ⟨a1, a2, a3, a4, a5⟩ := tolds_l ts (toldW W x)
    obtain ⟨b1, b2, b3, b4, b5⟩ := told_l W x
    exact ⟨a1.trans b1, a2.trans b2, a3.trans b3, a4.trans b4, a5.trans b5⟩
theorem lcp_l (W : WkV) (n : NgV) (os : List PkV) (ts : List Int) : (lcpW W n os ts).k.l = n ∧ (lcpW W n os ts).sent = W.sent ++ os.map (frmOf 49185) ∧ (lcpW W n os ts).k.line = W.k.line ∧ (lcpW W n os ts).ip = W.ip ∧ (lcpW W n os ts).p = W.p := by
  unfold lcpW
  exact tolds_l ts _
/-- What tells neither up nor down changes nothing. -/
theorem tolds_none : ∀ (ts : List Int) (W : WkV), (∀ x ∈ ts, x ≠ 1 ∧ x ≠ 2) → ts.foldl toldW W = W
  | [], _, _ => rfl
  | x :: ts, W, h => by
    obtain ⟨h1, h2⟩ := h x List.mem_cons_self
    rw [List.foldl_cons]
    have : toldW W x = W := by
      unfold toldW
      have e1 : (x == 1) = false := by simpa using h1
      have e2 : (x == 2) = false := by simpa using h2
      rw [e1, e2]
      rfl
    rw [this]
    exact tolds_none ts W fun y hy => h y (List.mem_cons_of_mem _ hy)

def unplugW (k : LinkV) : WkV := closeW (lcpW (beginW k) (evN k.l 1) (doO k.l 1) (evT k.l 1))
def plugR (m o : UInt32) : RV := ⟨false, m, o, 0, 0⟩
def plug1 (k : LinkV) (m o : UInt32) : WkV := lcpW (beginW { k with l := newN (plugR m o) }) (evN (newN (plugR m o)) 2) (doO (newN (plugR m o)) 2) (evT (newN (plugR m o)) 2)
def plug2 (W : WkV) : WkV := lcpW W (evN W.k.l 0) (doO W.k.l 0) (evT W.k.l 0)
def plugW (k : LinkV) (m o : UInt32) : WkV := bif k.l.a.st == 0 then plug2 (plug1 k m o) else beginW k

theorem down_tab : ∀ s : Fin 10, (nextP (nextP s.val 1).2.1 3).2.1 = 0 ∧ (∀ x ∈ toldP (nextP s.val 1).2.1 3, x ≠ 1 ∧ x ≠ 2) ∧ toldP s.val 1 = (if s.val = 9 then [2] else if s.val = 3 then [3] else []) := by decide +kernel
theorem down_at {s : Int} (hs : 0 ≤ s ∧ s ≤ 9) : (nextP (nextP s 1).2.1 3).2.1 = 0 ∧ (∀ x ∈ toldP (nextP s 1).2.1 3, x ≠ 1 ∧ x ≠ 2) ∧ toldP s 1 = (if s = 9 then [2] else if s = 3 then [3] else []) := by
  have := down_tab ⟨s.toNat, by omega⟩
  have e1 : ((s.toNat : Nat) : Int) = s := by omega
  simp only [e1] at this
  refine ⟨this.1, this.2.1, this.2.2.trans ?_⟩
  by_cases h9 : s = 9
  · subst h9; rfl
  · rw [if_neg h9, if_neg (by omega)]
    by_cases h3 : s = 3
    · subst h3; rfl
    · rw [if_neg h3, if_neg (by omega)]
def goneK (k : LinkV) : LinkV := { k with a := zAu k.a.id, n := freshN, m := zMe, sess := -1, addr := 0 }
def wasK (k : LinkV) : LinkV := bif k.l.a.st == 9 then goneK k else k
theorem unplug_k {k : LinkV} (hs : 0 ≤ k.l.a.st ∧ k.l.a.st ≤ 9) : (unplugW k).k = { wasK k with l := evN (evN k.l 1) 3 } := by
  obtain ⟨_, h2, h3⟩ := down_at hs
  unfold unplugW closeW
  have hl : (lcpW (beginW k) (evN k.l 1) (doO k.l 1) (evT k.l 1)).k.l = evN k.l 1 := (lcp_l _ _ _ _).1
  rw [hl]
  unfold lcpW
  rw [tolds_none (evT (evN k.l 1) 3) _ (by rw [ev_told, ev_st]; exact h2), ev_told, h3]
  unfold wasK
  by_cases h9 : k.l.a.st = 9
  · have e9 : (k.l.a.st == 9) = true := by simpa using h9
    rw [if_pos h9, e9]
    show ({ (downW _).k with l := _ } : LinkV) = _
    unfold downW goneW endW
    cases decide (0 ≤ (sendW { beginW k with k := { (beginW k).k with l := evN k.l 1 } } 49185 (doO k.l 1)).k.sess) <;> rfl
  · have e9 : (k.l.a.st == 9) = false := by simpa using h9
    rw [if_neg h9, e9]
    by_cases h3 : k.l.a.st = 3
    · rw [if_pos h3]; rfl
    · rw [if_neg h3]; rfl
theorem unplug_st {k : LinkV} (hs : 0 ≤ k.l.a.st ∧ k.l.a.st ≤ 9) : (unplugW k).k.l.a.st = 0 := by
  rw [unplug_k hs]
  show (evN (evN k.l 1) 3).a.st = 0
  rw [ev_st, ev_st]
  exact (down_at hs).1

def plN (m o : UInt32) : NgV := { newN (plugR m o) with a := ⟨6, 4, 3, 1⟩ }
theorem plug_up (m o : UInt32) : evN (newN (plugR m o)) 2 = { newN (plugR m o) with a := ⟨1, 0, 0, 0⟩ } ∧ doO (newN (plugR m o)) 2 = [] ∧ evT (newN (plugR m o)) 2 = [3] := by
  have h := ev_of (n := newN (plugR m o)) (e := 2) 0 zPk x_a1 x_a2 (m := { newN (plugR m o) with a := ⟨1, 0, 0, 0⟩ }) rfl
  have hd : doneB (newN (plugR m o)) 2 = true := x_a1
  have ha : doA (newN (plugR m o)).a 2 = (⟨1, 0, 0, 0⟩, [3], 0) := x_a2
  refine ⟨congrArg (fun x => x.1) h, ?_, ?_⟩
  · unfold doO evO
    rw [hd, ha]
    rfl
  · unfold evT
    rw [hd, ha]
    rfl
theorem plug_up2 (m o : UInt32) : evN { newN (plugR m o) with a := ⟨1, 0, 0, 0⟩ } 0 = plN m o ∧ doO { newN (plugR m o) with a := ⟨1, 0, 0, 0⟩ } 0 = [reqP (plN m o)] ∧ evT { newN (plugR m o) with a := ⟨1, 0, 0, 0⟩ } 0 = [] := by
  have h := ev_of (n := { newN (plugR m o) with a := ⟨1, 0, 0, 0⟩ }) (e := 0) 0 zPk x_b1 x_b2 (m := plN m o) rfl
  have hd : doneB { newN (plugR m o) with a := ⟨1, 0, 0, 0⟩ } 0 = true := x_b1
  have ha : doA ({ newN (plugR m o) with a := ⟨1, 0, 0, 0⟩ } : NgV).a 0 = (⟨6, 4, 3, 1⟩, [5, 7], 0) := x_b2
  have h1 : evN { newN (plugR m o) with a := ⟨1, 0, 0, 0⟩ } 0 = plN m o := congrArg (fun x => x.1) h
  refine ⟨h1, ?_, ?_⟩
  · unfold doO evO
    rw [h1, hd, ha]
    rfl
  · unfold evT
    rw [hd, ha]
    rfl
theorem plug_is {k : LinkV} (h : k.l.a.st = 0) (m o : UInt32) : plugW k m o = { beginW { k with l := plN m o } with sent := [frmOf 49185 (reqP (plN m o))] } := by
  obtain ⟨a1, a2, a3⟩ := plug_up m o
  obtain ⟨b1, b2, b3⟩ := plug_up2 m o
  have e0 : (k.l.a.st == 0) = true := by simpa using h
  unfold plugW
  rw [e0]
  show plug2 (plug1 k m o) = _
  unfold plug1
  rw [a1, a2, a3]
  have hw : lcpW (beginW { k with l := newN (plugR m o) }) { newN (plugR m o) with a := ⟨1, 0, 0, 0⟩ } [] [3] = beginW { k with l := { newN (plugR m o) with a := ⟨1, 0, 0, 0⟩ } } := rfl
  rw [hw]
  unfold plug2
  have hl : (beginW { k with l := { newN (plugR m o) with a := ⟨1, 0, 0, 0⟩ } }).k.l = { newN (plugR m o) with a := ⟨1, 0, 0, 0⟩ } := rfl
  rw [hl, b1, b2, b3]
  rfl

end Go.VL

/- Which links are right, small, the same, in plain Lean. Conditions: none. -/
namespace Go.VL
open Go.Proofs

def lineB (l : LineV) : Bool := decide (l.b.length ≤ 1508) && (!l.long || l.b.isEmpty) && !decide ((126 : UInt8) ∈ l.b)
def authB (a : AuthV) : Bool := decide (0 ≤ a.tries) && decide (a.tries ≤ 4) && (bif a.st == 1 then decide (1 ≤ a.left) && decide (a.left ≤ 4) && decide (1 ≤ a.tries) else (a.st == 0 || a.st == 2 || a.st == 3) && a.left == 0)
def meterB (m : MeterV) : Bool := decide (0 ≤ m.left) && decide (m.left ≤ 6)
/-- A phase, as the document tells it. -/
def rphaseP (k : LinkV) : Int :=
  bif k.l.a.st == 4 || k.l.a.st == 5 then 4 else bif k.l.a.st == 6 || k.l.a.st == 7 || k.l.a.st == 8 then 1 else bif k.l.a.st == 9 then (bif decide (0 ≤ k.sess) then 3 else 2) else 0
theorem phase_same {k : LinkV} (h : 0 ≤ k.l.a.st ∧ k.l.a.st ≤ 9) : rphaseP k = phaseP k := by
  have hs : k.l.a.st = 0 ∨ k.l.a.st = 1 ∨ k.l.a.st = 2 ∨ k.l.a.st = 3 ∨ k.l.a.st = 4 ∨ k.l.a.st = 5 ∨ k.l.a.st = 6 ∨ k.l.a.st = 7 ∨ k.l.a.st = 8 ∨ k.l.a.st = 9 := by omega
  unfold rphaseP phaseP
  rcases hs with e | e | e | e | e | e | e | e | e | e <;> rw [e] <;> first | rfl | (cases decide (0 ≤ k.sess) <;> rfl)
def rightK (k : LinkV) : Bool :=
  lineB k.line && rightN k.l && rightN k.n && authB k.a && meterB k.m && !k.l.r.ip && k.n.r.ip && decide (-1 ≤ k.sess) && (k.phase == rphaseP k) && (k.sess == -1 || (k.phase == 3 && k.a.st == 2))
def smallK (k : LinkV) : Bool := smallN k.l && smallN k.n && decide (k.a.who.size ≤ 50) && decide (k.line.b.length ≤ 1600)
def eqAuh (a b : AuthV) : Bool := cellsEq (auhC a) (auhC b)
def eqMe (a b : MeterV) : Bool := cellsEq (meC a) (meC b)
def sameLn (a b : LineV) : Bool := decide (a.b = b.b) && (a.long == b.long)
def sameK (a b : LinkV) : Bool := sameLn a.line b.line && sameN a.l b.l && sameN a.n b.n && (a.phase == b.phase) && eqAuh a.a b.a && eqMe a.m b.m && (a.sess == b.sess) && (a.addr == b.addr)

theorem cellsEq_plain : ∀ l : List V, (∀ x ∈ l, (∃ k n, x = .int k n) ∨ (∃ b, x = .bool b) ∨ ∃ s, x = .str s) → cellsEq l l = true
  | [], _ => rfl
  | x :: l, h => by
    have ih := cellsEq_plain l fun y hy => h y (List.mem_cons_of_mem _ hy)
    rcases h x List.mem_cons_self with ⟨k, n, rfl⟩ | ⟨b, rfl⟩ | ⟨s, rfl⟩
    · simp [cellsEq, cellEq, ih]
    · simp [cellsEq, cellEq, ih]
    · simp [cellsEq, cellEq, ih, strEq]
theorem eqAuh_self (a : AuthV) : eqAuh a a = true := cellsEq_plain _ (by simp [auhC])
theorem eqMe_self (a : MeterV) : eqMe a a = true := cellsEq_plain _ (by simp [meC])
theorem sameLn_self (l : LineV) : sameLn l l = true := by simp [sameLn]
theorem sameK_self (k : LinkV) : sameK k k = true := by
  unfold sameK
  rw [sameLn_self, sameN_self, sameN_self, eqAuh_self, eqMe_self]
  simp

/-- A link that is right, in what its walk needs. -/
structure GoodK (k : LinkV) : Prop where
  l : Good k.l
  n : Good k.n
  lip : k.l.r.ip = false
  nip : k.n.r.ip = true
  low : -1 ≤ k.sess
  phase : k.phase = phaseP k
  sess : k.sess = -1 ∨ (k.phase = 3 ∧ k.a.st = 2)
  line : lineB k.line = true
  au : authB k.a = true
  me : meterB k.m = true
theorem goodK_of {k : LinkV} (hs : smallK k = true) (h : rightK k = true) : GoodK k := by
  unfold smallK smallN at hs
  simp only [Bool.and_eq_true, decide_eq_true_eq] at hs
  unfold rightK at h
  simp only [Bool.and_eq_true, decide_eq_true_eq, Bool.not_eq_true', beq_iff_eq, Bool.or_eq_true] at h
  obtain ⟨⟨⟨⟨⟨⟨⟨⟨⟨h1, h2⟩, h3⟩, h4⟩, h5⟩, h6⟩, h7⟩, h8⟩, h9⟩, h10⟩ := h
  have hl := good_of hs.1.1.1.1 h2
  refine ⟨hl, good_of hs.1.1.2.1 h3, h6, h7, h8, h9.trans (phase_same hl.st), h10, h1, h4, h5⟩
theorem GoodK.right {k : LinkV} (h : GoodK k) : rightK k = true := by
  unfold rightK
  rw [h.line, h.l.right, h.n.right, h.au, h.me, h.lip, h.nip, phase_same h.l.st, ← h.phase]
  simp only [Bool.and_self, Bool.not_false, Bool.and_true, Bool.true_and, BEq.rfl]
  have := h.low
  rcases h.sess with e | ⟨e1, e2⟩
  · rw [e]; rfl
  · rw [e1, e2]; simp [this]
/-- A session is there in Opened alone. -/
theorem GoodK.st9 {k : LinkV} (h : GoodK k) (hs : 0 ≤ k.sess) : k.l.a.st = 9 := by
  rcases h.sess with e | ⟨e1, e2⟩
  · omega
  · have hp := h.phase
    rw [e1] at hp
    unfold phaseP at hp
    cases h9 : k.l.a.st == 9
    · rw [h9] at hp
      simp only [Bool.false_and, cond_false] at hp
      cases h6 : decide (6 ≤ k.l.a.st)
      · rw [h6] at hp
        simp only [cond_false] at hp
        cases h4 : decide (4 ≤ k.l.a.st)
        · rw [h4] at hp; cases hp
        · rw [h4] at hp; cases hp
      · rw [h6] at hp; cases hp
    · simpa using h9

end Go.VL

/- Contracts of this program's functions: links at work: what is wanted, sent, told. Conditions: none. -/
namespace Go.VL
open Go.Proofs

theorem frs_length (l : List FrV) : (frs l).length = l.length := by simp [frs]
theorem frs_getD {l : List FrV} {i : Nat} (h : i < l.length) : (frs l).getD i .undef = frv l[i] := by simp [frs, h]
theorem c_fresh (σ : St) : VCalls Tryz.prog 111 [] σ fun r σ' => r = ngv freshN ∧ σ' = σ := by
  refine vcalls_intro (C := cfg Tryz.prog [] [] []) (cfg_ok mixed) Tryz.func111 rfl rfl rfl rfl rfl ?_
  have hn := c_new ipR σ
  unfold rv rvC at hn
  simp -implicitDefEqProofs only [go_sem]
  refine vgo_call rfl rfl rfl rfl hn ?_
  simp -implicitDefEqProofs only [go_sem, ngv, ngC]
  rfl
theorem c_stop (m : MeterV) (id cause : Int) (σ : St) : VCalls Tryz.prog 116 [mev m, .int .i64 id, .int .i64 cause] σ fun r σ' => r = .agg (opC (stopO m id cause)) ∧ σ' = σ := by
  refine vcalls_intro (C := cfg Tryz.prog [] [] []) (cfg_ok mixed) Tryz.func116 rfl rfl rfl rfl rfl ?_
  simp -implicitDefEqProofs only [go_sem, mev, meC]
  rfl

set_option maxRecDepth 20000 in
theorem c_begun (k : LinkV) (σ : St) : VCalls Tryz.prog 52 [lkv k] σ fun r σ' => r = .ptr σ.length 0 ∧ σ' = wS σ (beginW k) := by
  refine vcalls_keepG (C := cfg Tryz.prog [5] [] []) (cfg_ok mixed) Tryz.func52 rfl rfl rfl rfl rfl ?_
  simp (maxSteps := 1000000) -implicitDefEqProofs only [go_sem, lkv, lkC, vendG]
  refine ⟨_, _, .trans _ _ _ _ _ _ (.adoptO _ _ σ.length 69 2 _ _ _ (get_at _ _) rfl) (.adoptO _ _ σ.length 70 1 _ _ _ (by rw [List.append_assoc, set_at]; exact get_at _ _) rfl), ?_⟩
  simp (maxSteps := 1000000) -implicitDefEqProofs only [go_sem]
  rw [List.append_assoc, set_at, List.append_assoc, set_at]
  unfold wS wB wF wT beginW
  simp only [List.length_append, List.length_set, List.length_cons, List.length_nil, Nat.zero_add, Nat.add_assoc, Nat.reduceAdd]
  rfl

theorem wT_snoc (W : WkV) (x : Int) : wT (wantW W x) = .arr false (W.want.length + 1) 1 (zv64 W.want ++ [.int .i64 x]) := by
  unfold wT wantW zv64
  simp
set_option maxRecDepth 20000 in
theorem c_lwant (W : WkV) (x : Int) (hw : W.want.length ≤ 100000) (σ : St) : VCalls Tryz.prog 110 [.ptr σ.length 0, .int .i64 x] (wS σ W) fun r σ' => r = .tup [] ∧ σ' = wS σ (wantW W x) := by
  refine vcalls_keep (C := cfg Tryz.prog [] [] []) (cfg_ok mixed) Tryz.func110 rfl rfl rfl rfl rfl ?_
  have hl : (wantW W x).want.length = W.want.length + 1 := by simp [wantW]
  unfold wS wB wF
  rw [wT_snoc, hl]
  simp (maxSteps := 1000000) -implicitDefEqProofs only [go_sem, wT, wkC, zv_length]
  refine ⟨by unfold lim; omega, ?_⟩
  rfl

theorem c_pbytesK (p : PkV) (hp : PkOK p) (h : p.d.length ≤ 1496) (σ : St) : VCalls Tryz.prog 137 [pkv p] σ fun r σ' => r = .tup [.sl false false 1 (bv (pkB p)), .int .i64 0] ∧ σ' = σ :=
  (c_pbytes { p with sz := 1 } rfl h σ).ne ⟨pk_ne hp, trivial⟩
theorem send_snoc (W : WkV) (proto : UInt16) {os : List PkV} {i : Nat} (h : i < os.length) : sendW W proto (os.take (i + 1)) = { W with sent := (sendW W proto (os.take i)).sent ++ [frmOf proto os[i]] } := by
  unfold sendW
  rw [List.take_succ_eq_append_getElem h, List.map_append, ← List.append_assoc]
  rfl
theorem wF_snoc (l : List FrV) (f : FrV) : VO.arr (l ++ [f]).isEmpty (l ++ [f]).length 2 (frs (l ++ [f])) = .arr false (l.length + 1) 2 (frs l ++ [.agg [.int .u16 f.proto.toNat, .sl f.nl f.c f.sz (bv f.d)]]) := by
  unfold frs
  simp [frv, frC]
theorem wF_snocW (W : WkV) (l : List FrV) (f : FrV) : wF { W with sent := l ++ [f] } = .arr false (l.length + 1) 2 (frs l ++ [.agg [.int .u16 f.proto.toNat, .sl f.nl f.c f.sz (bv f.d)]]) := wF_snoc l f
theorem wB_snoc (σ : St) (W : WkV) (l : List FrV) (f : FrV) : wB σ { W with sent := l ++ [f] } = .box (wkC W.k (.rsl (σ.length + 1) (l.length + 1) 0 (l.length + 1)) (.rsl (σ.length + 2) W.want.length 0 W.want.length) W.p W.stop W.ip) := by
  unfold wB
  simp only [List.length_append, List.length_cons, List.length_nil]
set_option maxHeartbeats 4000000 in
set_option maxRecDepth 20000 in
theorem c_lsend (W : WkV) (proto : UInt16) (nl c : Bool) (os : List PkV) (hs : W.sent.length ≤ 100000) (ho : os.length ≤ 100000) (hz : ∀ p ∈ os, PkOK p) (hd : ∀ p ∈ os, p.d.length ≤ 1496) (σ : St) : VCalls Tryz.prog 92 [.ptr σ.length 0, .int .u16 proto.toNat, .sl nl c 3 (pkvs os)] (wS σ W) fun r σ' => r = .tup [] ∧ σ' = wS σ (sendW W proto os) := by
  refine vcalls_keep (C := cfg Tryz.prog [] [] []) (cfg_ok mixed) Tryz.func92 rfl rfl rfl rfl rfl ?_
  simp (maxSteps := 1000000) -implicitDefEqProofs only [go_sem, pkvs_length]
  refine w_loopL (fun i => i ≤ os.length) (fun i => [(12, .int .i64 i), (11, .int .i64 os.length), (10, .sl nl c 3 (pkvs os)), (1, .int .u16 proto.toNat), (0, .ptr σ.length 0)]) (fun i => wS σ (sendW W proto (os.take i))) (fun i => os.length - i) 0 (Nat.zero_le _) ?_ ?_ ?_
  · simp (maxSteps := 1000000) -implicitDefEqProofs only [go_sem]
    rfl
  · have : sendW W proto (os.take 0) = W := by unfold sendW; simp
    rw [this]
  intro i hi L hnext hleave
  rcases Nat.lt_or_ge i os.length with h | h
  · have hw1 : IntKind.i64.wrap ((i : Int) + 1) = ((i + 1 : Nat) : Int) := wrap_ok (by omega) (by omega)
    have hb := fun σ => c_pbytesK os[i] (hz _ (List.getElem_mem h)) (hd _ (List.getElem_mem h)) σ
    unfold pkv pkC at hb
    have hsl : (sendW W proto (os.take i)).sent.length = W.sent.length + i := by
      unfold sendW
      rw [List.length_append, List.length_map, List.length_take]
      omega
    simp (maxSteps := 1000000) -implicitDefEqProofs only [go_sem, h, pkvs_length, pkvs_getD h, pkv, pkC]
    refine vgo_call rfl rfl rfl rfl (hb _) ?_
    have hsn := send_snoc W proto h
    simp (maxSteps := 1000000) -implicitDefEqProofs only [go_sem, wS, wB, wF, wkC, frs_length]
    refine ⟨by unfold lim; omega, ?_⟩
    refine hnext (i + 1) _ _ h (by omega) ?_ ?_
    · simp (maxSteps := 1000000) -implicitDefEqProofs only [go_sem, hw1]
    · rw [hsn]
      unfold wS
      rw [wF_snocW, wB_snoc]
      rfl
  · have hn : ¬ (i < os.length) := by omega
    simp (maxSteps := 1000000) -implicitDefEqProofs only [go_sem, hn]
    refine hleave _ _ _ (fun h => by cases h) ?_
    rw [List.take_of_length_le h]
    simp (maxSteps := 1000000) -implicitDefEqProofs only [go_sem, vendK]

end Go.VL

/- Contracts of this program's functions: links at work: LCP, IPCP, closing, the phase. Conditions: none. -/
namespace Go.VL
open Go.Proofs

theorem told_want (W : WkV) (x : Int) : (toldW W x).want.length ≤ W.want.length + 1 := by
  unfold toldW
  cases x == 1
  · cases x == 2
    · exact Nat.le_succ _
    · unfold downW goneW endW
      cases decide (0 ≤ W.k.sess)
      · exact Nat.le_succ _
      · simp [wantW]
  · simp [upW, wantW]
theorem tolds_want : ∀ (ts : List Int) (W : WkV), (ts.foldl toldW W).want.length ≤ W.want.length + ts.length
  | [], W => Nat.le_refl _
  | x :: ts, W => by
    rw [List.foldl_cons, List.length_cons]
    have h1 := tolds_want ts (toldW W x)
    have h2 := told_want W x
    omega

set_option maxHeartbeats 8000000 in
set_option maxRecDepth 20000 in
theorem c_llcp (W : WkV) (n : NgV) (nl c nl' c' : Bool) (os : List PkV) (ts : List Int) (hs : W.sent.length ≤ 1000) (hw : W.want.length ≤ 1000) (ho : os.length ≤ 1000) (ht : ts.length ≤ 1000) (hz : ∀ p ∈ os, PkOK p) (hd : ∀ p ∈ os, p.d.length ≤ 1496) (σ : St) :
    VCalls Tryz.prog 53 [.ptr σ.length 0, ngv n, .sl nl c 3 (pkvs os), .sl nl' c' 1 (zv64 ts)] (wS σ W) fun r σ' => r = .tup [] ∧ σ' = wS σ (lcpW W n os ts) := by
  refine vcalls_keep (C := cfg Tryz.prog [] [] []) (cfg_ok mixed) Tryz.func53 rfl rfl rfl rfl rfl ?_
  generalize hFS : wS σ (lcpW W n os ts) = FS
  simp (maxSteps := 1000000) -implicitDefEqProofs only [go_sem, ngv, ngC, wS, wB, wkC]
  refine vgo_call' rfl rfl rfl (c_lsend { W with k := { W.k with l := n } } 49185 nl c os (by show W.sent.length ≤ 100000; omega) (by omega) hz hd σ) ?_
  rintro r σ' ⟨rfl, rfl⟩
  refine ⟨rfl, ?_⟩
  have hwl : (sendW { W with k := { W.k with l := n } } 49185 os).want.length ≤ 1000 := hw
  have hfin : lcpW W n os ts = ts.foldl toldW (sendW { W with k := { W.k with l := n } } 49185 os) := rfl
  rw [hfin] at hFS
  clear hfin
  generalize sendW { W with k := { W.k with l := n } } 49185 os = W1 at hwl hFS ⊢
  simp (maxSteps := 1000000) -implicitDefEqProofs only [go_sem, zv_length]
  refine w_loopL (fun i => i ≤ ts.length) (fun i => [(20, .int .i64 i), (19, .int .i64 ts.length), (18, .sl nl' c' 1 (zv64 ts)), (0, .ptr σ.length 0)]) (fun i => wS σ ((ts.take i).foldl toldW W1)) (fun i => ts.length - i) 0 (Nat.zero_le _) ?_ rfl ?_
  · simp (maxSteps := 1000000) -implicitDefEqProofs only [go_sem]
    rfl
  intro i hi L hnext hleave
  rcases Nat.lt_or_ge i ts.length with h | h
  · have hw1 : IntKind.i64.wrap ((i : Int) + 1) = ((i + 1 : Nat) : Int) := wrap_ok (by omega) (by omega)
    have hsn : (ts.take (i + 1)).foldl toldW W1 = toldW ((ts.take i).foldl toldW W1) ts[i] := by
      rw [List.take_succ_eq_append_getElem h, List.foldl_append]
      rfl
    have hwn : ((ts.take i).foldl toldW W1).want.length ≤ 100000 := by
      have := tolds_want (ts.take i) W1
      rw [List.length_take] at this
      omega
    have next : ∀ {fr : Fr} {S : St}, S = wS σ (toldW ((ts.take i).foldl toldW W1) ts[i]) → Keeps [(20, .int .i64 ((i + 1 : Nat) : Int)), (19, .int .i64 ts.length), (18, .sl nl' c' 1 (zv64 ts)), (0, .ptr σ.length 0)] fr → L .normal fr S := fun {fr S} hS hk => hnext (i + 1) fr S h (by omega) hk (by rw [hS, hsn])
    clear hnext
    generalize (ts.take i).foldl toldW W1 = Wi at hwn next
    clear hsn
    simp (maxSteps := 1000000) -implicitDefEqProofs only [go_sem, zv_length, zv_getD h, h]
    cases e1 : ts[i] == 1
    · cases e2 : ts[i] == 2
      · have hr : toldW Wi ts[i] = Wi := by unfold toldW; rw [e1, e2]; rfl
        rw [hr] at next
        simp (maxSteps := 1000000) -implicitDefEqProofs only [go_sem, e1, e2]
        refine next rfl ?_
        simp (maxSteps := 1000000) -implicitDefEqProofs only [go_sem, hw1]
      · cases es : decide (0 ≤ Wi.k.sess)
        · have hr : toldW Wi ts[i] = goneW Wi := by unfold toldW downW endW; rw [e1, e2, es]; rfl
          rw [hr] at next
          simp (maxSteps := 1000000) -implicitDefEqProofs only [go_sem, e1, e2, es, wS, wB, wkC]
          refine w_walk2 [15, 19, 23] [0, 1, 2, 3, 4, 5, 6, 7, 8, 9, 10, 11, 12, 13, 14, 15, 16, 17, 18, 19, 20, 21, 22, 23] [65, 66, 67, 68, 69, 70, 71, 72, 73, 74, 75, 76, 77, 78, 79, 80, 81, 82, 83, 84, 85] [0, 0, 0, 0, 8, 24, 56, 120, 248, 504, 0, 0, 2041, 6137, 14329, 30713, 63483, 129019, 260091, 522235, 1048575, 2097151, 4194303, 8388607] rfl rfl rfl rfl ?_
          simp (maxSteps := 1000000) -implicitDefEqProofs only [go_sem]
          refine vdgo_call rfl rfl rfl rfl (c_fresh _) ?_
          simp (maxSteps := 1000000) -implicitDefEqProofs only [go_sem, ngv, ngC]
          refine next rfl ?_
          simp (maxSteps := 1000000) -implicitDefEqProofs only [go_sem, hw1]
        · have hr : toldW Wi ts[i] = goneW { wantW Wi 3 with stop := stopO Wi.k.m Wi.k.sess 1 } := by unfold toldW downW endW; rw [e1, e2, es]; rfl
          rw [hr] at next
          simp (maxSteps := 1000000) -implicitDefEqProofs only [go_sem, e1, e2, es, wS, wB, wkC]
          refine vgo_call' rfl rfl rfl (c_lwant Wi 3 hwn σ) ?_
          rintro r σ' ⟨rfl, rfl⟩
          refine ⟨rfl, ?_⟩
          have hst := fun σ => c_stop Wi.k.m Wi.k.sess 1 σ
          unfold mev meC opC at hst
          simp (maxSteps := 1000000) -implicitDefEqProofs only [go_sem]
          refine w_walk2 [15] [0, 1, 2, 3, 4, 5, 6, 7, 8, 9, 10, 11, 12, 13, 14, 15] [50, 51, 52, 53, 54, 55, 56, 57, 58, 59, 60, 61, 62, 63, 64] [0, 0, 2, 6, 14, 30, 0, 64, 192, 448, 960, 2046, 4095, 8191, 16383, 32767] rfl rfl rfl rfl ?_
          simp (maxSteps := 1000000) -implicitDefEqProofs only [go_sem, wS, wB, wkC, wantW]
          refine vdgo_call rfl rfl rfl rfl (hst _) ?_
          simp (maxSteps := 1000000) -implicitDefEqProofs only [go_sem]
          refine w_walk2 [15, 19, 23] [0, 1, 2, 3, 4, 5, 6, 7, 8, 9, 10, 11, 12, 13, 14, 15, 16, 17, 18, 19, 20, 21, 22, 23] [65, 66, 67, 68, 69, 70, 71, 72, 73, 74, 75, 76, 77, 78, 79, 80, 81, 82, 83, 84, 85] [0, 0, 0, 0, 8, 24, 56, 120, 248, 504, 0, 0, 2041, 6137, 14329, 30713, 63483, 129019, 260091, 522235, 1048575, 2097151, 4194303, 8388607] rfl rfl rfl rfl ?_
          simp (maxSteps := 1000000) -implicitDefEqProofs only [go_sem]
          refine vdgo_call rfl rfl rfl rfl (c_fresh _) ?_
          simp (maxSteps := 1000000) -implicitDefEqProofs only [go_sem, ngv, ngC]
          refine next rfl ?_
          simp (maxSteps := 1000000) -implicitDefEqProofs only [go_sem, hw1]
    · have hr : toldW Wi ts[i] = upW Wi := by unfold toldW; rw [e1]; rfl
      rw [hr] at next
      simp (maxSteps := 1000000) -implicitDefEqProofs only [go_sem, e1, wS, wB, wkC]
      refine vgo_call' rfl rfl rfl (c_lwant { Wi with k := { Wi.k with a := zAu Wi.k.a.id } } 1 hwn σ) ?_
      rintro r σ' ⟨rfl, rfl⟩
      refine ⟨rfl, ?_⟩
      simp (maxSteps := 1000000) -implicitDefEqProofs only [go_sem]
      refine next rfl ?_
      simp (maxSteps := 1000000) -implicitDefEqProofs only [go_sem, hw1]
  · have hn : ¬ (i < ts.length) := by omega
    simp (maxSteps := 1000000) -implicitDefEqProofs only [go_sem, hn]
    refine hleave _ _ _ (fun h => by cases h) ?_
    rw [List.take_of_length_le h]
    simp (maxSteps := 1000000) -implicitDefEqProofs only [go_sem, vendK]
    exact hFS

end Go.VL

/- Contracts of this program's functions: what is plugged and unplugged, phases, what a link has come to. Conditions: none. -/
namespace Go.VL
open Go.Proofs

set_option maxRecDepth 20000 in
theorem c_lphase (k : LinkV) (σ : St) : VCalls Tryz.prog 45 [lkv k] σ fun r σ' => r = .int .i64 (phaseP k) ∧ σ' = σ := by
  refine vcalls_intro (C := cfg Tryz.prog [] [] []) (cfg_ok mixed) Tryz.func45 rfl rfl rfl rfl rfl ?_
  simp (maxSteps := 1000000) -implicitDefEqProofs only [go_sem, lkv, lkC]
  unfold phaseP
  cases e9 : k.l.a.st == 9
  · cases e6 : decide (6 ≤ k.l.a.st)
    · cases e4 : decide (4 ≤ k.l.a.st)
      · simp (maxSteps := 1000000) -implicitDefEqProofs only [go_sem, e9, e6, e4, Bool.false_and, cond_false]
      · simp (maxSteps := 1000000) -implicitDefEqProofs only [go_sem, e9, e6, e4, Bool.false_and, cond_false, cond_true]
    · simp (maxSteps := 1000000) -implicitDefEqProofs only [go_sem, e9, e6, Bool.false_and, cond_false, cond_true]
  · cases es : decide (0 ≤ k.sess)
    · simp (maxSteps := 1000000) -implicitDefEqProofs only [go_sem, e9, es, Bool.true_and, cond_false, cond_true]
    · simp (maxSteps := 1000000) -implicitDefEqProofs only [go_sem, e9, es, Bool.true_and, cond_true]

set_option maxHeartbeats 4000000 in
set_option maxRecDepth 20000 in
theorem c_ldone (W : WkV) (σ : St) : VCalls Tryz.prog 55 [.ptr σ.length 0] (wS σ W) fun r σ' => r = .tup [.agg (lkC (doneK W)), .agg (outC (.rsl (σ.length + 1) W.sent.length 0 W.sent.length) (.rsl (σ.length + 2) W.want.length 0 W.want.length) W.p W.stop W.ip)] ∧ σ' = wS σ { W with k := doneK W } := by
  refine vcalls_keep (C := cfg Tryz.prog [] [] []) (cfg_ok mixed) Tryz.func55 rfl rfl rfl rfl rfl ?_
  have hp := fun σ => c_lphase W.k σ
  unfold lkv lkC at hp
  simp (maxSteps := 1000000) -implicitDefEqProofs only [go_sem, wS, wB, wkC]
  refine vgo_call rfl rfl rfl rfl (hp _) ?_
  simp (maxSteps := 1000000) -implicitDefEqProofs only [go_sem]
  refine w_walk2 [8, 9] [0, 1, 2, 3, 4, 5, 6, 7, 8, 9] [13, 14, 15, 16, 17, 18, 19, 20] [0, 1, 3, 7, 0, 16, 48, 112, 15, 511] rfl rfl rfl rfl ?_
  simp (maxSteps := 1000000) -implicitDefEqProofs only [go_sem, vendK]
  exact ⟨rfl, rfl⟩

theorem c_llcpS (W : WkV) (n : NgV) (os : List PkV) (ts : List Int) (hs : W.sent.length ≤ 1000) (hw : W.want.length ≤ 1000) (ho : os.length ≤ 1000) (ht : ts.length ≤ 1000) (hz : ∀ p ∈ os, PkOK p) (hd : ∀ p ∈ os, p.d.length ≤ 1496) {u v : V} (hu : IsSl u 3 (pkvs os)) (hv : IsSl v 1 (zv64 ts)) (σ : St) :
    VCalls Tryz.prog 53 [.ptr σ.length 0, ngv n, u, v] (wS σ W) fun r σ' => r = .tup [] ∧ σ' = wS σ (lcpW W n os ts) := by
  obtain ⟨n1, h1⟩ := hu.ne
  obtain ⟨n2, h2⟩ := hv.ne
  exact (c_llcp W n n1 false n2 false os ts hs hw ho ht hz hd σ).ne ⟨.refl _, .refl _, h1, h2, trivial⟩

/-- What may be sent. -/
def PkS (p : PkV) : Prop := PkOK p ∧ p.d.length ≤ 1496
theorem outOf_ok {n : NgV} (he : encOK n.ours = true) (pid : UInt8) {reply : PkV} (hr : PkS reply) (x : Int) : ∀ p ∈ outOf n pid reply x, PkS p := by
  unfold outOf
  intro p hp
  split at hp
  · rw [List.mem_singleton.1 hp]
    refine ⟨.inl rfl, ?_⟩
    unfold encOK at he
    simp only [Bool.and_eq_true, decide_eq_true_eq] at he
    exact he.2
  split at hp
  · rw [List.mem_singleton.1 hp]
    exact ⟨.inr ⟨rfl, rfl⟩, Nat.zero_le _⟩
  split at hp
  · rw [List.mem_singleton.1 hp]
    exact ⟨.inr ⟨rfl, rfl⟩, Nat.zero_le _⟩
  split at hp
  · rw [List.mem_singleton.1 hp]
    exact hr
  · cases hp
theorem evO_ok {n : NgV} (h : Good n) (e : Int) (pid : UInt8) {reply : PkV} (hr : PkS reply) : ∀ p ∈ evO n e pid reply, PkS p := by
  unfold evO
  cases doneB n e
  · intro p hp; cases hp
  · intro p hp
    simp only [cond_true] at hp
    unfold outsOf at hp
    obtain ⟨x, _, hx⟩ := List.mem_flatMap.1 hp
    exact outOf_ok (ev_good h e).e pid hr x p hx
theorem evO_len (n : NgV) (e : Int) (pid : UInt8) (reply : PkV) : (evO n e pid reply).length ≤ 10 := by
  unfold evO
  cases doneB n e
  · exact Nat.zero_le _
  · have h1 := outsOf_len (evN n e) pid reply (doA n.a e).2.1 _ (Nat.le_refl _)
    rw [List.take_length] at h1
    exact Nat.le_trans h1 (do_len _ _)
theorem evT_len10 (n : NgV) (e : Int) : (evT n e).length ≤ 10 := by
  unfold evT
  cases doneB n e
  · exact Nat.zero_le _
  · exact Nat.le_trans (told_len _) (do_len _ _)
theorem zero_S : PkS zPk := ⟨.inr ⟨rfl, rfl⟩, Nat.zero_le _⟩
theorem doO_ok {n : NgV} (h : Good n) (e : Int) : ∀ p ∈ doO n e, PkS p := evO_ok h e 0 zero_S
theorem doO_len (n : NgV) (e : Int) : (doO n e).length ≤ 10 := evO_len n e 0 zPk

/-- What comes of an event, as three values. -/
theorem ev_res (n : NgV) (e : Int) (pid : UInt8) (reply : PkV) : ∃ a s b t, rsV (evW n e pid reply) = .tup [.agg (ngC (evN n e)), .sl a false s (pkvs (evO n e pid reply)), .sl b false t (zv64 (evT n e))] ∧ IsSl (.sl a false s (pkvs (evO n e pid reply))) 3 (pkvs (evO n e pid reply)) ∧ IsSl (.sl b false t (zv64 (evT n e))) 1 (zv64 (evT n e)) := by
  obtain ⟨h1, h2⟩ := ev_sl n e pid reply
  obtain ⟨a, s, e1, hs⟩ := h1
  obtain ⟨b, t, e2, ht⟩ := h2
  refine ⟨a, s, b, t, ?_, ⟨a, s, rfl, hs⟩, ⟨b, t, rfl, ht⟩⟩
  unfold rsV
  rw [e1, e2]
  rfl
theorem do_ev {n : NgV} {e : Int} (h : 0 ≤ e ∧ e ≤ 3) : doW n e = evW n e 0 zPk := by
  unfold doW
  have h1 : decide (0 ≤ e) = true := by simpa using h.1
  have h2 : decide (e ≤ 3) = true := by simpa using h.2
  rw [h1, h2]
  rfl
theorem lcp_sent (W : WkV) (n : NgV) (os : List PkV) (ts : List Int) : (lcpW W n os ts).sent.length = W.sent.length + os.length := by
  rw [(lcp_l W n os ts).2.1, List.length_append, List.length_map]
theorem lcp_want (W : WkV) (n : NgV) (os : List PkV) (ts : List Int) : (lcpW W n os ts).want.length ≤ W.want.length + ts.length := tolds_want ts _

set_option maxHeartbeats 4000000 in
set_option maxRecDepth 20000 in
theorem c_lclose (W : WkV) (hg : Good W.k.l) (hs : W.sent.length ≤ 1000) (hw : W.want.length ≤ 1000) (σ : St) : VCalls Tryz.prog 54 [.ptr σ.length 0] (wS σ W) fun r σ' => r = .tup [] ∧ σ' = wS σ (closeW W) := by
  refine vcalls_keep (C := cfg Tryz.prog [] [] []) (cfg_ok mixed) Tryz.func54 rfl rfl rfl rfl rfl ?_
  obtain ⟨a, s, b, t, hr, hu, hv⟩ := ev_res W.k.l 3 0 zPk
  have hd := fun σ => c_ndo W.k.l 3 hg.cnt hg.e σ
  rw [do_ev (by decide), hr] at hd
  unfold ngv ngC at hd
  generalize hFS : wS σ (closeW W) = FS
  simp (maxSteps := 1000000) -implicitDefEqProofs only [go_sem, wS, wB, wkC]
  refine vgo_call rfl rfl rfl rfl (hd _) ?_
  simp (maxSteps := 1000000) -implicitDefEqProofs only [go_sem]
  have hlo := doO_len W.k.l 3
  have hlt := evT_len10 W.k.l 3
  refine vgo_call' rfl rfl rfl (c_llcpS W (evN W.k.l 3) (doO W.k.l 3) (evT W.k.l 3) hs hw (by omega) (by omega) (fun p hp => (doO_ok hg 3 p hp).1) (fun p hp => (doO_ok hg 3 p hp).2) hu hv σ) ?_
  rintro r σ' ⟨rfl, rfl⟩
  refine ⟨rfl, ?_⟩
  simp (maxSteps := 1000000) -implicitDefEqProofs only [go_sem, vendK]
  exact hFS

theorem frs_take (l : List FrV) : (frs l).take l.length = frs l := List.take_of_length_le (Nat.le_of_eq (frs_length l))
theorem zv_take (l : List Int) : (zv64 l).take l.length = zv64 l := List.take_of_length_le (Nat.le_of_eq (zv_length l))
set_option maxHeartbeats 8000000 in
set_option maxRecDepth 20000 in
theorem c_lunplug (k : LinkV) (hg : Good k.l) (σ : St) : VCalls Tryz.prog 14 [lkv k] σ fun r σ' => r = .tup [lkv (doneK (unplugW k)), outW (unplugW k)] ∧ σ' = σ := by
  refine vcalls_intro (C := cfg Tryz.prog [] [] []) (cfg_ok mixed) Tryz.func14 rfl rfl rfl rfl rfl ?_
  obtain ⟨a, s, b, t, hr, hu, hv⟩ := ev_res k.l 1 0 zPk
  have hd := fun σ => c_ndo k.l 1 hg.cnt hg.e σ
  rw [do_ev (by decide), hr] at hd
  unfold ngv ngC at hd
  simp (maxSteps := 1000000) -implicitDefEqProofs only [go_sem, lkv, lkC]
  refine vgo_call' rfl rfl rfl (c_begun k σ) ?_
  rintro r σ' ⟨rfl, rfl⟩
  refine ⟨rfl, ?_⟩
  simp (maxSteps := 1000000) -implicitDefEqProofs only [go_sem, wS, wB, wkC, beginW]
  refine vgo_call rfl rfl rfl rfl (hd _) ?_
  simp (maxSteps := 1000000) -implicitDefEqProofs only [go_sem]
  have hlo := doO_len k.l 1
  have hlt := evT_len10 k.l 1
  refine vgo_call' rfl rfl rfl (c_llcpS (beginW k) (evN k.l 1) (doO k.l 1) (evT k.l 1) (Nat.zero_le _) (Nat.zero_le _) (by omega) (by omega) (fun p hp => (doO_ok hg 1 p hp).1) (fun p hp => (doO_ok hg 1 p hp).2) hu hv σ) ?_
  rintro r σ' ⟨rfl, rfl⟩
  refine ⟨rfl, ?_⟩
  simp (maxSteps := 1000000) -implicitDefEqProofs only [go_sem]
  have hl := (lcp_l (beginW k) (evN k.l 1) (doO k.l 1) (evT k.l 1)).1
  have hs1 := lcp_sent (beginW k) (evN k.l 1) (doO k.l 1) (evT k.l 1)
  have hw1 := lcp_want (beginW k) (evN k.l 1) (doO k.l 1) (evT k.l 1)
  have z1 : (beginW k).sent.length = 0 := rfl
  have z2 : (beginW k).want.length = 0 := rfl
  refine vgo_call' rfl rfl rfl (c_lclose (lcpW (beginW k) (evN k.l 1) (doO k.l 1) (evT k.l 1)) (by rw [hl]; exact ev_good hg 1) (by omega) (by omega) σ) ?_
  rintro r σ' ⟨rfl, rfl⟩
  refine ⟨rfl, ?_⟩
  simp (maxSteps := 1000000) -implicitDefEqProofs only [go_sem]
  refine vgo_call' rfl rfl rfl (c_ldone (unplugW k) σ) ?_
  rintro r σ' ⟨rfl, rfl⟩
  refine ⟨rfl, ?_⟩
  generalize unplugW k = W
  simp (maxSteps := 1000000) -implicitDefEqProofs only [go_sem, lkC, outC, wS, wF, wT]
  rw [frs_take, zv_take]
  rfl

theorem Good_new (r : RV) : Good (newN r) := by
  refine ⟨rfl, ⟨Int.le_refl _, by show (0 : Int) ≤ 3; decide⟩, ask_enc r, ?_⟩
  show (rAsk r).any oddB = false
  unfold rAsk
  cases r.ip <;> rfl
set_option maxHeartbeats 8000000 in
set_option maxRecDepth 20000 in
theorem c_lplug (k : LinkV) (m o : UInt32) (σ : St) : VCalls Tryz.prog 15 [lkv k, .int .u32 m.toNat, .int .u32 o.toNat] σ fun r σ' => r = .tup [lkv (doneK (plugW k m o)), outW (plugW k m o)] ∧ σ' = σ := by
  refine vcalls_intro (C := cfg Tryz.prog [] [] []) (cfg_ok mixed) Tryz.func15 rfl rfl rfl rfl rfl ?_
  simp (maxSteps := 1000000) -implicitDefEqProofs only [go_sem, lkv, lkC]
  refine vgo_call' rfl rfl rfl (c_begun k σ) ?_
  rintro r σ' ⟨rfl, rfl⟩
  refine ⟨rfl, ?_⟩
  simp (maxSteps := 1000000) -implicitDefEqProofs only [go_sem]
  unfold plugW
  cases e0 : k.l.a.st == 0
  · simp (maxSteps := 1000000) -implicitDefEqProofs only [go_sem, e0, cond_false]
    refine vgo_call' rfl rfl rfl (c_ldone (beginW k) σ) ?_
    rintro r σ' ⟨rfl, rfl⟩
    refine ⟨rfl, ?_⟩
    generalize beginW k = W
    simp (maxSteps := 1000000) -implicitDefEqProofs only [go_sem, lkC, outC, wS, wF, wT]
    rw [frs_take, zv_take]
    rfl
  · have hnw := fun σ => c_new (plugR m o) σ
    unfold rv rvC at hnw
    obtain ⟨a, s, b, t, hr, hu, hv⟩ := ev_res (newN (plugR m o)) 2 0 zPk
    have hd := fun σ => c_ndo (newN (plugR m o)) 2 (Good_new _).cnt (Good_new _).e σ
    rw [do_ev (by decide), hr] at hd
    unfold ngv ngC at hd
    have hP : plug2 (plug1 k m o) = plug2 (plug1 k m o) := rfl
    simp (maxSteps := 1000000) -implicitDefEqProofs only [go_sem, e0, cond_true]
    refine vgo_call rfl rfl rfl rfl (hnw _) ?_
    simp (maxSteps := 1000000) -implicitDefEqProofs only [go_sem, ngv, ngC, wS, wB, wkC, beginW]
    refine vgo_call rfl rfl rfl rfl (hd _) ?_
    simp (maxSteps := 1000000) -implicitDefEqProofs only [go_sem]
    have hlo := doO_len (newN (plugR m o)) 2
    have hlt := evT_len10 (newN (plugR m o)) 2
    refine vgo_call' rfl rfl rfl (c_llcpS (beginW { k with l := newN (plugR m o) }) (evN (newN (plugR m o)) 2) (doO (newN (plugR m o)) 2) (evT (newN (plugR m o)) 2) (Nat.zero_le _) (Nat.zero_le _) (by omega) (by omega) (fun p hp => (doO_ok (Good_new _) 2 p hp).1) (fun p hp => (doO_ok (Good_new _) 2 p hp).2) hu hv σ) ?_
    rintro r σ' ⟨rfl, rfl⟩
    refine ⟨rfl, ?_⟩
    have hl : (plug1 k m o).k.l = evN (newN (plugR m o)) 2 := (lcp_l _ _ _ _).1
    have hs1 : (plug1 k m o).sent.length = 0 + (doO (newN (plugR m o)) 2).length := lcp_sent _ _ _ _
    have hw1 : (plug1 k m o).want.length ≤ 0 + (evT (newN (plugR m o)) 2).length := lcp_want _ _ _ _
    have hf : lcpW (beginW { k with l := newN (plugR m o) }) (evN (newN (plugR m o)) 2) (doO (newN (plugR m o)) 2) (evT (newN (plugR m o)) 2) = plug1 k m o := rfl
    rw [hf]
    clear hf hd hr hu hv
    generalize plug1 k m o = W at hl hs1 hw1
    have hg : Good W.k.l := by rw [hl]; exact ev_good (Good_new _) 2
    obtain ⟨a, s, b, t, hr, hu, hv⟩ := ev_res W.k.l 0 0 zPk
    have hd := fun σ => c_ndo W.k.l 0 hg.cnt hg.e σ
    rw [do_ev (by decide), hr] at hd
    unfold ngv ngC at hd
    simp (maxSteps := 1000000) -implicitDefEqProofs only [go_sem, wS, wB, wkC]
    refine vgo_call rfl rfl rfl rfl (hd _) ?_
    simp (maxSteps := 1000000) -implicitDefEqProofs only [go_sem]
    have hlo2 := doO_len W.k.l 0
    have hlt2 := evT_len10 W.k.l 0
    refine vgo_call' rfl rfl rfl (c_llcpS W (evN W.k.l 0) (doO W.k.l 0) (evT W.k.l 0) (by omega) (by omega) (by omega) (by omega) (fun p hp => (doO_ok hg 0 p hp).1) (fun p hp => (doO_ok hg 0 p hp).2) hu hv σ) ?_
    rintro r σ' ⟨rfl, rfl⟩
    refine ⟨rfl, ?_⟩
    have hf : lcpW W (evN W.k.l 0) (doO W.k.l 0) (evT W.k.l 0) = plug2 W := rfl
    rw [hf]
    generalize plug2 W = W2
    simp (maxSteps := 1000000) -implicitDefEqProofs only [go_sem]
    refine vgo_call' rfl rfl rfl (c_ldone W2 σ) ?_
    rintro r σ' ⟨rfl, rfl⟩
    refine ⟨rfl, ?_⟩
    simp (maxSteps := 1000000) -implicitDefEqProofs only [go_sem, lkC, outC, wS, wF, wT]
    rw [frs_take, zv_take]
    rfl

end Go.VL

/- Contracts of this program's functions: which links are right, small, the same, as the document says. Conditions: none. -/
namespace Go.VL
open Go.Proofs

def LnOK (l : LineV) : Prop := l.sz = 1 ∨ (l.nl = true ∧ l.b = [])
structure LkOK (k : LinkV) : Prop where
  ln : LnOK k.line
  l : NgOK k.l
  n : NgOK k.n
def fullL (l : LineV) : LineV := { l with sz := 1 }
def fullK (k : LinkV) : LinkV := { k with line := fullL k.line, l := fullN k.l, n := fullN k.n }
theorem ln_ne {l : LineV} (h : LnOK l) : NE (.sl l.nl l.c l.sz (bv l.b)) (.sl l.nl l.c 1 (bv l.b)) := by
  rcases h with h | ⟨h1, h2⟩
  · rw [h]; exact .refl _
  · rw [h1, h2]; exact .nil _ _ _ _
theorem pn_ne {n : NgV} (h : NgOK n) : NE (.sl n.pn n.pc n.ps (osv n.peer)) (.sl n.pn n.pc 2 (osv n.peer)) := by
  rcases h with h | ⟨h1, h2⟩
  · rw [h]; exact .refl _
  · rw [h1, h2]; exact .nil _ _ _ _
theorem lk_ne {k : LinkV} (h : LkOK k) : NE (lkv k) (lkv (fullK k)) :=
  .aggL ⟨.refl _, ln_ne h.ln, .refl _, .refl _, .refl _, .refl _, .refl _, .refl _, .refl _, .refl _, .refl _, .refl _, .refl _, .refl _, pn_ne h.l, .refl _, .refl _, .refl _, .refl _, .refl _, .refl _, .refl _, .refl _, .refl _, .refl _, .refl _, pn_ne h.n, .refl _, .refl _, .refl _, .refl _, .refl _, .refl _, .refl _, .refl _, .refl _, .refl _, .refl _, .refl _, .refl _, .refl _, .refl _, .refl _, .refl _, .refl _, .refl _, .refl _, .refl _, .refl _, .refl _, .refl _, .refl _, .refl _, .refl _, .refl _, .refl _, .refl _, .refl _, .refl _, .refl _, .refl _, .refl _, .refl _, .refl _, .refl _, .refl _, .refl _, .refl _, .refl _, trivial⟩

theorem c_r7right (l : LineV) (hz : l.sz = 1) (σ : St) : VCalls Tryz.prog 48 [lnv l] σ fun r σ' => r = .bool (lineB l) ∧ σ' = σ := by
  refine vcalls_intro (C := cfg Tryz.prog [] [] []) (cfg_ok mixed) Tryz.func48 rfl rfl rfl rfl rfl ?_
  have e1 : decide ((1508 : Int) < (l.b.length : Int)) = !decide (l.b.length ≤ 1508) := by rw [Bool.eq_iff_iff]; simp; omega
  have e2 : decide ((0 : Int) < (l.b.length : Int)) = !l.b.isEmpty := by cases l.b <;> simp
  have e2' : decide (0 < l.b.length) = !l.b.isEmpty := by cases l.b <;> simp
  unfold lineB
  simp -implicitDefEqProofs only [go_sem, lnv, lnC, hz, bv_length, e1]
  cases q1 : decide (l.b.length ≤ 1508)
  · simp -implicitDefEqProofs only [go_sem, Bool.false_and]
  cases q2 : l.long && !l.b.isEmpty
  case true =>
    simp only [Bool.and_eq_true, Bool.not_eq_true'] at q2
    simp -implicitDefEqProofs only [go_sem, q2.1, q2.2, e2, e2', bv_length, Bool.false_and, Bool.and_false]
  have q3 : (!l.long || l.b.isEmpty) = true := by cases hl : l.long <;> cases hb : l.b.isEmpty <;> rw [hl, hb] at q2 <;> first | rfl | cases q2
  have hlen : l.b.length ≤ 1508 := of_decide_eq_true q1
  rw [q3]
  have main : ∀ {Q : Exit → Fr → St → Prop}, True := trivial
  have cs : l.long = false ∨ (l.long = true ∧ l.b.isEmpty = true) := by cases hl : l.long <;> cases hb : l.b.isEmpty <;> rw [hl, hb] at q2 <;> simp_all
  rcases cs with c1 | ⟨c1, c2⟩
  all_goals first
    | simp -implicitDefEqProofs only [go_sem, c1, c2, e2, e2', bv_length, Bool.true_and]
    | simp -implicitDefEqProofs only [go_sem, c1, bv_length, Bool.true_and]
  all_goals
    refine w_loopL (fun i => i ≤ l.b.length ∧ (126 : UInt8) ∉ l.b.take i) (fun i => [(3, .int .i64 i), (1, .ip (lnC l))]) (fun _ => σ) (fun i => l.b.length - i) 0 ⟨Nat.zero_le _, by simp⟩ ?_ rfl ?_
    · simp -implicitDefEqProofs only [go_sem, lnC, hz, c1]
      rfl
    rintro i ⟨hi, hno⟩ L hnext hleave
    rcases Nat.lt_or_ge i l.b.length with h | h
    · have hw1 : IntKind.i64.wrap ((i : Int) + 1) = ((i + 1 : Nat) : Int) := wrap_ok (by omega) (by omega)
      have e6 : ((l.b[i].toNat : Int) == 126) = (l.b[i] == 126) := toNat_beq _ 126
      simp -implicitDefEqProofs only [go_sem, lnC, hz, bv_length, bv_getD h, h, e6]
      cases q : l.b[i] == 126
      · have hne : ¬ l.b[i] = 126 := by simpa using q
        simp -implicitDefEqProofs only [go_sem, q]
        refine hnext (i + 1) _ _ ⟨h, ?_⟩ (by show l.b.length - (i + 1) < l.b.length - i; omega) ?_ rfl
        · rw [List.take_succ_eq_append_getElem h, List.mem_append]
          rintro (hm | hm)
          · exact hno hm
          · exact hne (List.mem_singleton.1 hm).symm
        · simp -implicitDefEqProofs only [go_sem, hw1, lnC, hz]
      · have he : l.b[i] = 126 := by simpa using q
        have hm : decide ((126 : UInt8) ∈ l.b) = true := by rw [decide_eq_true_iff, ← he]; exact List.getElem_mem h
        simp -implicitDefEqProofs only [go_sem, q]
        refine hleave _ _ _ (fun h => by cases h) ?_
        simp -implicitDefEqProofs only [go_sem, hm]
    · have hn : ¬ (i < l.b.length) := by omega
      rw [List.take_of_length_le h] at hno
      have hm : decide ((126 : UInt8) ∈ l.b) = false := by rw [decide_eq_false_iff_not]; exact hno
      simp -implicitDefEqProofs only [go_sem, lnC, hz, bv_length, hn]
      refine hleave _ _ _ (fun h => by cases h) ?_
      simp -implicitDefEqProofs only [go_sem, hm]

theorem c_r15right (a : AuthV) (σ : St) : VCalls Tryz.prog 49 [auhv a] σ fun r σ' => r = .bool (authB a) ∧ σ' = σ := by
  refine vcalls_intro (C := cfg Tryz.prog [] [] []) (cfg_ok mixed) Tryz.func49 rfl rfl rfl rfl rfl ?_
  have e1 : decide (a.tries < 0) = !decide (0 ≤ a.tries) := by rw [Bool.eq_iff_iff]; simp
  have e2 : decide (4 < a.tries) = !decide (a.tries ≤ 4) := by rw [Bool.eq_iff_iff]; simp
  unfold authB
  simp (maxSteps := 1000000) -implicitDefEqProofs only [go_sem, auhv, auhC, e1, e2]
  cases q1 : decide (0 ≤ a.tries)
  · simp (maxSteps := 1000000) -implicitDefEqProofs only [go_sem, Bool.false_and]
  cases q2 : decide (a.tries ≤ 4)
  · simp (maxSteps := 1000000) -implicitDefEqProofs only [go_sem, e2, q2, Bool.false_and, Bool.and_false]
  simp (maxSteps := 1000000) -implicitDefEqProofs only [go_sem, e2, q2, Bool.true_and]
  cases s0 : a.st == 0
  case true =>
    have s1 : (a.st == 1) = false := by rw [beq_iff_eq.1 s0]; rfl
    simp (maxSteps := 1000000) -implicitDefEqProofs only [go_sem, s0, s1, cond_false, Bool.true_or, Bool.true_and]
  cases s2 : a.st == 2
  case true =>
    have s1 : (a.st == 1) = false := by rw [beq_iff_eq.1 s2]; rfl
    simp (maxSteps := 1000000) -implicitDefEqProofs only [go_sem, s0, s2, s1, cond_false, Bool.true_or, Bool.false_or, Bool.true_and]
  cases s3 : a.st == 3
  case true =>
    have s1 : (a.st == 1) = false := by rw [beq_iff_eq.1 s3]; rfl
    simp (maxSteps := 1000000) -implicitDefEqProofs only [go_sem, s0, s2, s3, s1, cond_false, Bool.true_or, Bool.false_or, Bool.true_and]
  cases s1 : a.st == 1
  · simp (maxSteps := 1000000) -implicitDefEqProofs only [go_sem, s0, s2, s3, s1, cond_false, Bool.false_or, Bool.false_and]
  simp (maxSteps := 1000000) -implicitDefEqProofs only [go_sem, s0, s2, s3, s1, cond_true]
  cases t1 : decide (1 ≤ a.left)
  · simp (maxSteps := 1000000) -implicitDefEqProofs only [go_sem, t1, Bool.false_and]
  cases t2 : decide (a.left ≤ 4)
  · simp (maxSteps := 1000000) -implicitDefEqProofs only [go_sem, t1, t2, Bool.false_and, Bool.true_and]
  cases t3 : decide (1 ≤ a.tries) <;> simp (maxSteps := 1000000) -implicitDefEqProofs only [go_sem, t1, t2, t3, Bool.true_and]

theorem c_r17right (m : MeterV) (σ : St) : VCalls Tryz.prog 50 [mev m] σ fun r σ' => r = .bool (meterB m) ∧ σ' = σ := by
  refine vcalls_intro (C := cfg Tryz.prog [] [] []) (cfg_ok mixed) Tryz.func50 rfl rfl rfl rfl rfl ?_
  unfold meterB
  simp -implicitDefEqProofs only [go_sem, mev, meC]
  cases q1 : decide (0 ≤ m.left) <;> simp -implicitDefEqProofs only [go_sem, q1, Bool.false_and, Bool.true_and]

set_option maxRecDepth 20000 in
theorem c_r18phase (k : LinkV) (σ : St) : VCalls Tryz.prog 51 [lkv k] σ fun r σ' => r = .int .i64 (rphaseP k) ∧ σ' = σ := by
  refine vcalls_intro (C := cfg Tryz.prog [] [] []) (cfg_ok mixed) Tryz.func51 rfl rfl rfl rfl rfl ?_
  unfold rphaseP
  simp (maxSteps := 1000000) -implicitDefEqProofs only [go_sem, lkv, lkC]
  cases e4 : k.l.a.st == 4
  case true => simp (maxSteps := 1000000) -implicitDefEqProofs only [go_sem, e4, Bool.true_or, cond_true]
  cases e5 : k.l.a.st == 5
  case true => simp (maxSteps := 1000000) -implicitDefEqProofs only [go_sem, e4, e5, Bool.false_or, cond_true]
  cases e6 : k.l.a.st == 6
  case true => simp (maxSteps := 1000000) -implicitDefEqProofs only [go_sem, e4, e5, e6, Bool.false_or, Bool.true_or, cond_true, cond_false]
  cases e7 : k.l.a.st == 7
  case true => simp (maxSteps := 1000000) -implicitDefEqProofs only [go_sem, e4, e5, e6, e7, Bool.false_or, Bool.true_or, cond_true, cond_false]
  cases e8 : k.l.a.st == 8
  case true => simp (maxSteps := 1000000) -implicitDefEqProofs only [go_sem, e4, e5, e6, e7, e8, Bool.false_or, Bool.true_or, cond_true, cond_false]
  cases e9 : k.l.a.st == 9
  · simp (maxSteps := 1000000) -implicitDefEqProofs only [go_sem, e4, e5, e6, e7, e8, e9, Bool.false_or, cond_false]
  · cases es : decide (0 ≤ k.sess) <;> simp (maxSteps := 1000000) -implicitDefEqProofs only [go_sem, e4, e5, e6, e7, e8, e9, es, Bool.false_or, cond_false, cond_true]

set_option maxRecDepth 20000 in
theorem c_r18small (k : LinkV) (h1 : k.l.ps = 2) (h2 : k.n.ps = 2) (σ : St) : VCalls Tryz.prog 12 [lkv k] σ fun r σ' => r = .bool (smallK k) ∧ σ' = σ := by
  refine vcalls_intro (C := cfg Tryz.prog [] [] []) (cfg_ok mixed) Tryz.func12 rfl rfl rfl rfl rfl ?_
  have s1 := c_small14 k.l h1 σ
  have s2 := c_small14 k.n h2 σ
  unfold ngv ngC at s1 s2
  have e1 : decide ((k.a.who.size : Int) ≤ 50) = decide (k.a.who.size ≤ 50) := by rw [Bool.eq_iff_iff]; simp; omega
  have e2 : decide ((k.line.b.length : Int) ≤ 1600) = decide (k.line.b.length ≤ 1600) := by rw [Bool.eq_iff_iff]; simp; omega
  unfold smallK
  simp (maxSteps := 1000000) -implicitDefEqProofs only [go_sem, lkv, lkC]
  refine vgo_call rfl rfl rfl rfl s1 ?_
  simp (maxSteps := 1000000) -implicitDefEqProofs only [go_sem]
  refine vgo_call rfl rfl rfl rfl s2 ?_
  simp (maxSteps := 1000000) -implicitDefEqProofs only [go_sem]
  cases smallN k.l
  · simp (maxSteps := 1000000) -implicitDefEqProofs only [go_sem, Bool.false_and]
  cases smallN k.n
  · simp (maxSteps := 1000000) -implicitDefEqProofs only [go_sem, Bool.false_and, Bool.true_and]
  cases q3 : decide (k.a.who.size ≤ 50)
  · simp (maxSteps := 1000000) -implicitDefEqProofs only [go_sem, e1, q3, Bool.false_and, Bool.true_and]
  · simp (maxSteps := 1000000) -implicitDefEqProofs only [go_sem, e1, q3, e2, bv_length, Bool.true_and]

set_option maxHeartbeats 4000000 in
set_option maxRecDepth 20000 in
theorem c_r18right1 (k : LinkV) (hz : k.line.sz = 1) (hL : ∀ σ : St, VCalls Tryz.prog 26 [ngv k.l] σ fun r σ' => r = .bool (rightN k.l) ∧ σ' = σ) (hN : ∀ σ : St, VCalls Tryz.prog 26 [ngv k.n] σ fun r σ' => r = .bool (rightN k.n) ∧ σ' = σ) (σ : St) : VCalls Tryz.prog 13 [lkv k] σ fun r σ' => r = .bool (rightK k) ∧ σ' = σ := by
  refine vcalls_intro (C := cfg Tryz.prog [] [] []) (cfg_ok mixed) Tryz.func13 rfl rfl rfl rfl rfl ?_
  have h1 := c_r7right k.line hz σ
  have h4 := c_r15right k.a σ
  have h5 := c_r17right k.m σ
  have h6 := c_r18phase k σ
  have hL := hL σ
  have hN := hN σ
  unfold lnv lnC at h1
  unfold auhv auhC at h4
  unfold mev meC at h5
  unfold lkv lkC at h6
  unfold ngv ngC at hL hN
  have e8 : decide (k.sess < -1) = !decide (-1 ≤ k.sess) := by rw [Bool.eq_iff_iff]; simp
  unfold rightK
  simp (maxSteps := 1000000) -implicitDefEqProofs only [go_sem, lkv, lkC]
  refine vgo_call rfl rfl rfl rfl h1 ?_
  simp (maxSteps := 1000000) -implicitDefEqProofs only [go_sem]
  refine vgo_call rfl rfl rfl rfl hL ?_
  simp (maxSteps := 1000000) -implicitDefEqProofs only [go_sem]
  refine vgo_call rfl rfl rfl rfl hN ?_
  simp (maxSteps := 1000000) -implicitDefEqProofs only [go_sem]
  refine vgo_call rfl rfl rfl rfl h4 ?_
  simp (maxSteps := 1000000) -implicitDefEqProofs only [go_sem]
  refine vgo_call rfl rfl rfl rfl h5 ?_
  simp (maxSteps := 1000000) -implicitDefEqProofs only [go_sem]
  cases a1 : lineB k.line
  case false =>
    refine w_walk2 [] [0, 1, 2, 3, 4, 5, 6, 7, 8, 9, 10, 11, 12, 13, 14, 15, 16, 17, 18, 19, 20, 21, 22, 23, 24, 25, 26, 27, 28, 29, 30, 31, 32, 33, 34, 35, 36, 37, 38, 39, 40, 41, 42] [23, 24, 25, 26, 27, 28, 29, 30, 31, 32, 33, 34, 35, 36, 37, 38, 39, 40, 41, 42, 43, 44, 45, 46, 47, 48, 49, 50, 51, 52, 53, 54, 55, 56, 57, 58, 59, 60, 61, 62, 63, 64, 65] [0, 1, 3, 7, 15, 31, 63, 127, 255, 511, 1023, 2047, 4095, 8191, 16383, 32767, 65535, 131071, 262143, 524287, 1048575, 2097151, 4194303, 8388607, 16777215, 33554431, 67108863, 134217727, 268435455, 536870911, 1073741823, 2147483647, 4294967295, 8589934591, 17179869183, 34359738367, 68719476735, 137438953471, 274877906943, 137438953471, 687194767359, 2199023255551, 4398046511103] rfl rfl rfl rfl ?_
    simp (maxSteps := 1000000) -implicitDefEqProofs only [go_sem, Bool.false_and, Bool.true_and, Bool.not_true, Bool.not_false]
  cases a2 : rightN k.l
  case false =>
    refine w_walk2 [] [0, 1, 2, 3, 4, 5, 6, 7, 8, 9, 10, 11, 12, 13, 14, 15, 16, 17, 18, 19, 20, 21, 22, 23, 24, 25, 26, 27, 28, 29, 30, 31, 32, 33, 34, 35, 36, 37, 38, 39, 40, 41, 42] [23, 24, 25, 26, 27, 28, 29, 30, 31, 32, 33, 34, 35, 36, 37, 38, 39, 40, 41, 42, 43, 44, 45, 46, 47, 48, 49, 50, 51, 52, 53, 54, 55, 56, 57, 58, 59, 60, 61, 62, 63, 64, 65] [0, 1, 3, 7, 15, 31, 63, 127, 255, 511, 1023, 2047, 4095, 8191, 16383, 32767, 65535, 131071, 262143, 524287, 1048575, 2097151, 4194303, 8388607, 16777215, 33554431, 67108863, 134217727, 268435455, 536870911, 1073741823, 2147483647, 4294967295, 8589934591, 17179869183, 34359738367, 68719476735, 137438953471, 274877906943, 137438953471, 687194767359, 2199023255551, 4398046511103] rfl rfl rfl rfl ?_
    simp (maxSteps := 1000000) -implicitDefEqProofs only [go_sem, Bool.false_and, Bool.true_and, Bool.not_true, Bool.not_false]
  cases a3 : rightN k.n
  case false =>
    refine w_walk2 [] [0, 1, 2, 3, 4, 5, 6, 7, 8, 9, 10, 11, 12, 13, 14, 15, 16, 17, 18, 19, 20, 21, 22, 23, 24, 25, 26, 27, 28, 29, 30, 31, 32, 33, 34, 35, 36, 37, 38, 39, 40, 41, 42] [23, 24, 25, 26, 27, 28, 29, 30, 31, 32, 33, 34, 35, 36, 37, 38, 39, 40, 41, 42, 43, 44, 45, 46, 47, 48, 49, 50, 51, 52, 53, 54, 55, 56, 57, 58, 59, 60, 61, 62, 63, 64, 65] [0, 1, 3, 7, 15, 31, 63, 127, 255, 511, 1023, 2047, 4095, 8191, 16383, 32767, 65535, 131071, 262143, 524287, 1048575, 2097151, 4194303, 8388607, 16777215, 33554431, 67108863, 134217727, 268435455, 536870911, 1073741823, 2147483647, 4294967295, 8589934591, 17179869183, 34359738367, 68719476735, 137438953471, 274877906943, 137438953471, 687194767359, 2199023255551, 4398046511103] rfl rfl rfl rfl ?_
    simp (maxSteps := 1000000) -implicitDefEqProofs only [go_sem, Bool.false_and, Bool.true_and, Bool.not_true, Bool.not_false]
  cases a4 : authB k.a
  case false =>
    refine w_walk2 [] [0, 1, 2, 3, 4, 5, 6, 7, 8, 9, 10, 11, 12, 13, 14, 15, 16, 17, 18, 19, 20, 21, 22, 23, 24, 25, 26, 27, 28, 29, 30, 31, 32, 33, 34, 35, 36, 37, 38, 39, 40, 41, 42] [23, 24, 25, 26, 27, 28, 29, 30, 31, 32, 33, 34, 35, 36, 37, 38, 39, 40, 41, 42, 43, 44, 45, 46, 47, 48, 49, 50, 51, 52, 53, 54, 55, 56, 57, 58, 59, 60, 61, 62, 63, 64, 65] [0, 1, 3, 7, 15, 31, 63, 127, 255, 511, 1023, 2047, 4095, 8191, 16383, 32767, 65535, 131071, 262143, 524287, 1048575, 2097151, 4194303, 8388607, 16777215, 33554431, 67108863, 134217727, 268435455, 536870911, 1073741823, 2147483647, 4294967295, 8589934591, 17179869183, 34359738367, 68719476735, 137438953471, 274877906943, 137438953471, 687194767359, 2199023255551, 4398046511103] rfl rfl rfl rfl ?_
    simp (maxSteps := 1000000) -implicitDefEqProofs only [go_sem, Bool.false_and, Bool.true_and, Bool.not_true, Bool.not_false]
  cases a5 : meterB k.m
  case false =>
    refine w_walk2 [] [0, 1, 2, 3, 4, 5, 6, 7, 8, 9, 10, 11, 12, 13, 14, 15, 16, 17, 18, 19, 20, 21, 22, 23, 24, 25, 26, 27, 28, 29, 30, 31, 32, 33, 34, 35, 36, 37, 38, 39, 40, 41, 42] [23, 24, 25, 26, 27, 28, 29, 30, 31, 32, 33, 34, 35, 36, 37, 38, 39, 40, 41, 42, 43, 44, 45, 46, 47, 48, 49, 50, 51, 52, 53, 54, 55, 56, 57, 58, 59, 60, 61, 62, 63, 64, 65] [0, 1, 3, 7, 15, 31, 63, 127, 255, 511, 1023, 2047, 4095, 8191, 16383, 32767, 65535, 131071, 262143, 524287, 1048575, 2097151, 4194303, 8388607, 16777215, 33554431, 67108863, 134217727, 268435455, 536870911, 1073741823, 2147483647, 4294967295, 8589934591, 17179869183, 34359738367, 68719476735, 137438953471, 274877906943, 137438953471, 687194767359, 2199023255551, 4398046511103] rfl rfl rfl rfl ?_
    simp (maxSteps := 1000000) -implicitDefEqProofs only [go_sem, Bool.false_and, Bool.true_and, Bool.not_true, Bool.not_false]
  cases a6 : k.l.r.ip
  case true =>
    refine w_walk2 [] [0, 1, 2, 3, 4, 5, 6, 7, 8, 9, 10, 11, 12, 13, 14, 15, 16, 17, 18, 19, 20, 21, 22, 23, 24, 25, 26, 27, 28, 29, 30, 31, 32, 33, 34, 35, 36, 37, 38, 39, 40, 41, 42] [23, 24, 25, 26, 27, 28, 29, 30, 31, 32, 33, 34, 35, 36, 37, 38, 39, 40, 41, 42, 43, 44, 45, 46, 47, 48, 49, 50, 51, 52, 53, 54, 55, 56, 57, 58, 59, 60, 61, 62, 63, 64, 65] [0, 1, 3, 7, 15, 31, 63, 127, 255, 511, 1023, 2047, 4095, 8191, 16383, 32767, 65535, 131071, 262143, 524287, 1048575, 2097151, 4194303, 8388607, 16777215, 33554431, 67108863, 134217727, 268435455, 536870911, 1073741823, 2147483647, 4294967295, 8589934591, 17179869183, 34359738367, 68719476735, 137438953471, 274877906943, 137438953471, 687194767359, 2199023255551, 4398046511103] rfl rfl rfl rfl ?_
    simp (maxSteps := 1000000) -implicitDefEqProofs only [go_sem, a6, Bool.false_and, Bool.true_and, Bool.not_true, Bool.not_false]
  cases a7 : k.n.r.ip
  case false =>
    refine w_walk2 [] [0, 1, 2, 3, 4, 5, 6, 7, 8, 9, 10, 11, 12, 13, 14, 15, 16, 17, 18, 19, 20, 21, 22, 23, 24, 25, 26, 27, 28, 29, 30, 31, 32, 33, 34, 35, 36, 37, 38, 39, 40, 41, 42] [23, 24, 25, 26, 27, 28, 29, 30, 31, 32, 33, 34, 35, 36, 37, 38, 39, 40, 41, 42, 43, 44, 45, 46, 47, 48, 49, 50, 51, 52, 53, 54, 55, 56, 57, 58, 59, 60, 61, 62, 63, 64, 65] [0, 1, 3, 7, 15, 31, 63, 127, 255, 511, 1023, 2047, 4095, 8191, 16383, 32767, 65535, 131071, 262143, 524287, 1048575, 2097151, 4194303, 8388607, 16777215, 33554431, 67108863, 134217727, 268435455, 536870911, 1073741823, 2147483647, 4294967295, 8589934591, 17179869183, 34359738367, 68719476735, 137438953471, 274877906943, 137438953471, 687194767359, 2199023255551, 4398046511103] rfl rfl rfl rfl ?_
    simp (maxSteps := 1000000) -implicitDefEqProofs only [go_sem, a6, a7, Bool.false_and, Bool.true_and, Bool.not_true, Bool.not_false]
  cases a8 : decide (-1 ≤ k.sess)
  case false =>
    refine w_walk2 [] [0, 1, 2, 3, 4, 5, 6, 7, 8, 9, 10, 11, 12, 13, 14, 15, 16, 17, 18, 19, 20, 21, 22, 23, 24, 25, 26, 27, 28, 29, 30, 31, 32, 33, 34, 35, 36, 37, 38, 39, 40, 41, 42] [23, 24, 25, 26, 27, 28, 29, 30, 31, 32, 33, 34, 35, 36, 37, 38, 39, 40, 41, 42, 43, 44, 45, 46, 47, 48, 49, 50, 51, 52, 53, 54, 55, 56, 57, 58, 59, 60, 61, 62, 63, 64, 65] [0, 1, 3, 7, 15, 31, 63, 127, 255, 511, 1023, 2047, 4095, 8191, 16383, 32767, 65535, 131071, 262143, 524287, 1048575, 2097151, 4194303, 8388607, 16777215, 33554431, 67108863, 134217727, 268435455, 536870911, 1073741823, 2147483647, 4294967295, 8589934591, 17179869183, 34359738367, 68719476735, 137438953471, 274877906943, 137438953471, 687194767359, 2199023255551, 4398046511103] rfl rfl rfl rfl ?_
    simp (maxSteps := 1000000) -implicitDefEqProofs only [go_sem, a6, a7, e8, a8, Bool.false_and, Bool.true_and, Bool.not_true, Bool.not_false]
  refine w_walk2 [] [0, 1, 2, 3, 4, 5, 6, 7, 8, 9, 10, 11, 12, 13, 14, 15, 16, 17, 18, 19, 20, 21, 22, 23, 24, 25, 26, 27, 28, 29, 30, 31, 32, 33, 34, 35, 36, 37, 38, 39, 40, 41, 42] [23, 24, 25, 26, 27, 28, 29, 30, 31, 32, 33, 34, 35, 36, 37, 38, 39, 40, 41, 42, 43, 44, 45, 46, 47, 48, 49, 50, 51, 52, 53, 54, 55, 56, 57, 58, 59, 60, 61, 62, 63, 64, 65] [0, 1, 3, 7, 15, 31, 63, 127, 255, 511, 1023, 2047, 4095, 8191, 16383, 32767, 65535, 131071, 262143, 524287, 1048575, 2097151, 4194303, 8388607, 16777215, 33554431, 67108863, 134217727, 268435455, 536870911, 1073741823, 2147483647, 4294967295, 8589934591, 17179869183, 34359738367, 68719476735, 137438953471, 274877906943, 137438953471, 687194767359, 2199023255551, 4398046511103] rfl rfl rfl rfl ?_
  simp (maxSteps := 1000000) -implicitDefEqProofs only [go_sem, a6, a7, e8, a8, Bool.true_and, Bool.not_true, Bool.not_false]
  rw [a6, a7] at h6
  refine vdgo_call rfl rfl rfl rfl h6 ?_
  cases a9 : k.phase == rphaseP k
  case false => simp (maxSteps := 1000000) -implicitDefEqProofs only [go_sem, a9, bne, Bool.false_and, Bool.true_and, Bool.not_true, Bool.not_false]
  simp (maxSteps := 1000000) -implicitDefEqProofs only [go_sem, a9, bne, Bool.false_and, Bool.true_and, Bool.not_true, Bool.not_false]
  cases b1 : k.sess == -1
  case true => simp (maxSteps := 1000000) -implicitDefEqProofs only [go_sem, b1, Bool.true_or]
  cases b2 : k.phase == 3
  case false => simp (maxSteps := 1000000) -implicitDefEqProofs only [go_sem, b1, b2, Bool.false_or, Bool.false_and]
  simp (maxSteps := 1000000) -implicitDefEqProofs only [go_sem, b1, b2, Bool.false_or, Bool.true_and]

theorem c_r7same (a b : LineV) (h1 : a.sz = 1) (h2 : b.sz = 1) (hl : a.b.length ≤ lim) (σ : St) : VCalls Tryz.prog 57 [lnv a, lnv b] σ fun r σ' => r = .bool (sameLn a b) ∧ σ' = σ := by
  refine vcalls_intro (C := cfg Tryz.prog [] [] []) (cfg_ok mixed) Tryz.func57 rfl rfl rfl rfl rfl ?_
  unfold sameLn
  simp -implicitDefEqProofs only [go_sem, lnv, lnC, h1, h2]
  refine vgo_call rfl rfl rfl rfl (c_row a.nl a.c b.nl b.c a.b b.b hl σ) ?_
  cases decide (a.b = b.b) <;> simp -implicitDefEqProofs only [go_sem, Bool.false_and, Bool.true_and]

/-- A struct's cells, by kind, where authentications are compared. -/
def auKs : List PK := [.int .i64, .int .i64, .int .i64, .int .u8, .int .u8, .int .u8, .int .u8, .int .u8, .int .u8, .int .u8, .int .u8, .int .u8, .int .u8, .int .u8, .int .u8, .int .u8, .int .u8, .int .u8, .int .u8, .int .u8, .str, .int .u8, .int .u8, .int .u8, .int .u8, .int .u8, .int .u8, .int .u8, .int .u8, .int .u8, .int .u8, .int .u8, .int .u8, .int .u8, .int .u8, .int .u8, .int .u8]
theorem auKs_ok : eqs2 Tryz.prog 35 = some auKs := by kernel_rfl
/-- Two rows of options that can be compared. -/
structure CmpN (n : NgV) : Prop where
  o : n.ours.length ≤ lim ∧ ∀ x ∈ n.ours, x.d.length ≤ lim
  p : n.peer.length ≤ lim ∧ ∀ x ∈ n.peer, x.d.length ≤ lim
set_option maxHeartbeats 4000000 in
set_option maxRecDepth 20000 in
theorem c_r18same1 (a b : LinkV) (z1 : a.line.sz = 1) (z2 : b.line.sz = 1) (l1 : a.l.ps = 2) (l2 : b.l.ps = 2) (n1 : a.n.ps = 2) (n2 : b.n.ps = 2) (hl : a.line.b.length ≤ lim) (hL : CmpN a.l) (hN : CmpN a.n) (σ : St) : VCalls Tryz.prog 16 [lkv a, lkv b] σ fun r σ' => r = .bool (sameK a b) ∧ σ' = σ := by
  refine vcalls_intro (C := cfgE Tryz.prog 35 auKs [] [] []) (cfgE_ok mixed auKs_ok fun n e h => by rw [ty35] at h; cases h) Tryz.func16 rfl rfl rfl rfl rfl ?_
  have h1 := c_r7same a.line b.line z1 z2 hl σ
  have h2 := c_rsame14 a.l b.l l1 l2 hL.o.1 hL.p.1 hL.o.2 hL.p.2 σ
  have h3 := c_rsame14 a.n b.n n1 n2 hN.o.1 hN.p.1 hN.o.2 hN.p.2 σ
  unfold lnv lnC at h1
  unfold ngv ngC at h2 h3
  unfold sameK
  simp (maxSteps := 1000000) -implicitDefEqProofs only [go_sem, cfgE_T, cfgE_P, cfgE_esc, cfgE_wrt, cfgE_frz, tyE_if, auKs, lkv, lkC]
  refine vgo_call rfl rfl rfl rfl h1 ?_
  simp (maxSteps := 1000000) -implicitDefEqProofs only [go_sem, cfgE_T, cfgE_P, cfgE_esc, cfgE_wrt, cfgE_frz, tyE_if, auKs]
  refine vgo_call rfl rfl rfl rfl h2 ?_
  simp (maxSteps := 1000000) -implicitDefEqProofs only [go_sem, cfgE_T, cfgE_P, cfgE_esc, cfgE_wrt, cfgE_frz, tyE_if, auKs]
  refine vgo_call rfl rfl rfl rfl h3 ?_
  simp (maxSteps := 1000000) -implicitDefEqProofs only [go_sem, cfgE_T, cfgE_P, cfgE_esc, cfgE_wrt, cfgE_frz, tyE_if, auKs]
  cases sameLn a.line b.line
  case false => simp (maxSteps := 1000000) -implicitDefEqProofs only [go_sem, cfgE_T, cfgE_P, cfgE_esc, cfgE_wrt, cfgE_frz, tyE_if, auKs, Bool.false_and]
  cases sameN a.l b.l
  case false => simp (maxSteps := 1000000) -implicitDefEqProofs only [go_sem, cfgE_T, cfgE_P, cfgE_esc, cfgE_wrt, cfgE_frz, tyE_if, auKs, Bool.false_and, Bool.true_and]
  cases sameN a.n b.n
  case false => simp (maxSteps := 1000000) -implicitDefEqProofs only [go_sem, cfgE_T, cfgE_P, cfgE_esc, cfgE_wrt, cfgE_frz, tyE_if, auKs, Bool.false_and, Bool.true_and]
  cases q4 : a.phase == b.phase
  case false => simp (maxSteps := 1000000) -implicitDefEqProofs only [go_sem, cfgE_T, cfgE_P, cfgE_esc, cfgE_wrt, cfgE_frz, tyE_if, auKs, q4, Bool.false_and, Bool.true_and]
  simp (maxSteps := 1000000) -implicitDefEqProofs only [go_sem, cfgE_T, cfgE_P, cfgE_esc, cfgE_wrt, cfgE_frz, tyE_if, auKs, q4, Bool.true_and]
  cases hA : eqAuh a.a b.a
  case false =>
    simp (maxSteps := 1000000) -implicitDefEqProofs only [go_sem, cfgE_T, cfgE_P, cfgE_esc, cfgE_wrt, cfgE_frz, tyE_if, auKs, eqAuh, auhC] at hA
    simp (maxSteps := 1000000) -implicitDefEqProofs only [go_sem, cfgE_T, cfgE_P, cfgE_esc, cfgE_wrt, cfgE_frz, tyE_if, auKs, mk, hA, Bool.false_and]
  simp (maxSteps := 1000000) -implicitDefEqProofs only [go_sem, cfgE_T, cfgE_P, cfgE_esc, cfgE_wrt, cfgE_frz, tyE_if, auKs, eqAuh, auhC] at hA
  simp (maxSteps := 1000000) -implicitDefEqProofs only [go_sem, cfgE_T, cfgE_P, cfgE_esc, cfgE_wrt, cfgE_frz, tyE_if, auKs, mk, hA, Bool.true_and]
  cases hB : eqMe a.m b.m
  case false =>
    simp (maxSteps := 1000000) -implicitDefEqProofs only [go_sem, cfgE_T, cfgE_P, cfgE_esc, cfgE_wrt, cfgE_frz, tyE_if, auKs, eqMe, meC] at hB
    simp (maxSteps := 1000000) -implicitDefEqProofs only [go_sem, cfgE_T, cfgE_P, cfgE_esc, cfgE_wrt, cfgE_frz, tyE_if, auKs, mk, hB, Bool.false_and]
  simp (maxSteps := 1000000) -implicitDefEqProofs only [go_sem, cfgE_T, cfgE_P, cfgE_esc, cfgE_wrt, cfgE_frz, tyE_if, auKs, eqMe, meC] at hB
  simp (maxSteps := 1000000) -implicitDefEqProofs only [go_sem, cfgE_T, cfgE_P, cfgE_esc, cfgE_wrt, cfgE_frz, tyE_if, auKs, mk, hB, Bool.true_and]
  have e8 : ((a.addr.toNat : Int) == (b.addr.toNat : Int)) = (a.addr == b.addr) := by
    rw [Bool.eq_iff_iff]
    simp only [beq_iff_eq]
    constructor
    · intro h
      apply UInt32.toNat.inj
      omega
    · intro h
      rw [h]
  cases q7 : a.sess == b.sess
  case false => simp (maxSteps := 1000000) -implicitDefEqProofs only [go_sem, cfgE_T, cfgE_P, cfgE_esc, cfgE_wrt, cfgE_frz, tyE_if, auKs, q7, Bool.false_and, Bool.true_and]
  simp (maxSteps := 1000000) -implicitDefEqProofs only [go_sem, cfgE_T, cfgE_P, cfgE_esc, cfgE_wrt, cfgE_frz, tyE_if, auKs, q7, e8, Bool.true_and]

theorem c_r18same (a b : LinkV) (ha : LkOK a) (hb : LkOK b) (hl : a.line.b.length ≤ lim) (hL : CmpN a.l) (hN : CmpN a.n) (σ : St) : VCalls Tryz.prog 16 [lkv a, lkv b] σ fun r σ' => r = .bool (sameK a b) ∧ σ' = σ :=
  (c_r18same1 (fullK a) (fullK b) rfl rfl rfl rfl rfl rfl hl ⟨hL.o, hL.p⟩ ⟨hN.o, hN.p⟩ σ).ne ⟨lk_ne ha, lk_ne hb, trivial⟩
theorem few_lim {l : List OV} (h : few l = true) : l.length ≤ lim ∧ ∀ x ∈ l, x.d.length ≤ lim := by
  refine ⟨by have := few_len h; unfold lim; omega, fun x hx => by have := few_data h x hx; unfold lim; omega⟩
theorem cmp_small {n : NgV} (h : smallN n = true) : CmpN n := by
  unfold smallN at h
  simp only [Bool.and_eq_true] at h
  exact ⟨few_lim h.1, few_lim h.2⟩
end Go.VL
