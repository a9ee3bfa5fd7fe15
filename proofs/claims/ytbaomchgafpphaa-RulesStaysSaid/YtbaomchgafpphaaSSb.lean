/- Contracts of this program's functions over values, joined texts. Conditions: none. -/
import Derived.Test.YtbaomchgafpphaaSSa
import Derived.Test.YtbaomchgafpphaaVVc
set_option linter.unusedVariables false
set_option linter.unusedSimpArgs false
/- Contracts of this program's functions: rules, first part. Conditions: none. -/
namespace Go.VL
open Go.Proofs

structure RV where
  ip : Bool
  magic : UInt32
  other : UInt32
  addr : UInt32
  ours : UInt32
def rvC (r : RV) : List V := [.bool r.ip, .int .u32 r.magic.toNat, .int .u32 r.other.toNat, .int .u32 r.addr.toNat, .int .u32 r.ours.toNat]
def rv (r : RV) : V := .agg (rvC r)

/-- Which numbers may not be. -/
inductive NK where
  | addr
  | mru
  | never
  | magic
def gOf : NK → FuncId
  | .addr => 62
  | .mru => 63
  | .never => 64
  | .magic => 65
def capOf (r : RV) : NK → List V
  | .addr => [.ip (rvC r)]
  | .mru => []
  | .never => []
  | .magic => [.ip (rvC r)]
def notK (r : RV) (n : UInt32) : NK → Bool
  | .addr => n != r.addr
  | .mru => decide (n < 64)
  | .never => false
  | .magic => n == 0 || n == r.magic

theorem toNat32_beq (a b : UInt32) : ((a.toNat : Int) == (b.toNat : Int)) = (a == b) := by
  rw [Bool.eq_iff_iff]
  simp only [beq_iff_eq]
  exact ⟨fun h => UInt32.toNat_inj.1 (by omega), fun h => by rw [h]⟩
theorem toNat32_bne (a b : UInt32) : ((a.toNat : Int) != (b.toNat : Int)) = (a != b) := by
  simp only [bne, toNat32_beq]
theorem toNat32_beq0 (a : UInt32) : ((a.toNat : Int) == 0) = (a == 0) := toNat32_beq a 0
theorem toNat32_lt64 (a : UInt32) : decide ((a.toNat : Int) < 64) = decide (a < 64) := by
  have : a < 64 ↔ a.toNat < 64 := UInt32.lt_iff_toNat_lt
  rw [Bool.eq_iff_iff]
  simp only [decide_eq_true_eq, this]
  omega

theorem c_not (r : RV) (k : NK) (n : UInt32) (σ : St) : VCalls Try.prog (gOf k) ([] ++ [.int .u32 n.toNat] ++ capOf r k) σ fun x σ' => x = .bool (notK r n k) ∧ σ' = σ := by
  cases k
  · refine vcalls_intro (C := cfg Try.prog [] [] []) (cfg_ok mixed) Try.func62 rfl rfl rfl rfl rfl ?_
    simp only [go_sem, capOf, rvC, notK, toNat32_bne]
  · refine vcalls_intro (C := cfg Try.prog [] [] []) (cfg_ok mixed) Try.func63 rfl rfl rfl rfl rfl ?_
    simp only [go_sem, capOf, notK, toNat32_lt64]
  · refine vcalls_intro (C := cfg Try.prog [] [] []) (cfg_ok mixed) Try.func64 rfl rfl rfl rfl rfl ?_
    simp only [go_sem, capOf, notK]
  · refine vcalls_intro (C := cfg Try.prog [] [] []) (cfg_ok mixed) Try.func65 rfl rfl rfl rfl rfl ?_
    simp only [go_sem, capOf, rvC, notK, toNat32_beq0]
    cases h : n == 0 <;> simp only [go_sem, toNat32_beq]

/-- A kind of option. -/
structure KV where
  long : Nat
  nf : NK
  should : UInt32
def kv (r : RV) (k : KV) : V := .agg [.int .i64 k.long, .fn (.func (gOf k.nf)) [] (capOf r k.nf), .int .u32 k.should.toNat]
def kOf (r : RV) (t : UInt8) : Option KV := bif r.ip then (bif t == 3 then some ⟨4, .addr, r.addr⟩ else none) else
  bif t == 1 then some ⟨2, .mru, 64⟩ else bif t == 2 then some ⟨4, .never, 0⟩ else bif t == 5 then some ⟨4, .magic, r.other⟩ else bif t == 7 then some ⟨0, .never, 0⟩ else bif t == 8 then some ⟨0, .never, 0⟩ else none
def kindsL (r : RV) : List (V × V) := bif r.ip then [(.int .u8 3, kv r ⟨4, .addr, r.addr⟩)] else
  [(.int .u8 1, kv r ⟨2, .mru, 64⟩), (.int .u8 2, kv r ⟨4, .never, 0⟩), (.int .u8 5, kv r ⟨4, .magic, r.other⟩), (.int .u8 7, kv r ⟨0, .never, 0⟩), (.int .u8 8, kv r ⟨0, .never, 0⟩)]
def zeroK : V := .agg [.int .i64 0, .nilf, .int .u32 0]

theorem kindsL_kind (r : RV) (n : Int) : ((kindsL r).all fun kv => sameKind (.int .u8 n) kv.1) = true := by
  unfold kindsL
  cases r.ip <;> rfl
theorem kindsL_get (r : RV) (t : UInt8) : vget (kindsL r) (.int .u8 t.toNat) = (kOf r t).map (kv r) := by
  have e1 : ((t.toNat : Int) == 1) = (t == 1) := toNat_beq t 1
  have e2 : ((t.toNat : Int) == 2) = (t == 2) := toNat_beq t 2
  have e3 : ((t.toNat : Int) == 3) = (t == 3) := toNat_beq t 3
  have e5 : ((t.toNat : Int) == 5) = (t == 5) := toNat_beq t 5
  have e7 : ((t.toNat : Int) == 7) = (t == 7) := toNat_beq t 7
  have e8 : ((t.toNat : Int) == 8) = (t == 8) := toNat_beq t 8
  unfold kindsL kOf vget
  cases r.ip
  · simp only [cond_false, List.find?_cons, keq, e1, e2, e5, e7, e8]
    cases t == 1 <;> cases t == 2 <;> cases t == 5 <;> cases t == 7 <;> cases t == 8 <;> rfl
  · simp only [cond_true, List.find?_cons, keq, e3]
    cases t == 3 <;> rfl

theorem int_beq (a b : Int) : (a == b) = decide (a = b) := by
  rw [Bool.eq_iff_iff]
  simp

set_option maxRecDepth 20000 in
theorem c_kinds (r : RV) (σ : St) : VCalls Try.prog 60 [rv r] σ fun x σ' => x = .im (kindsL r) ∧ σ' = σ := by
  refine vcalls_intro (C := cfg Try.prog [] [] []) (cfg_ok mixed) Try.func60 rfl rfl rfl rfl rfl ?_
  simp only [go_sem, rv, rvC]
  unfold kindsL
  cases hi : r.ip
  · simp only [go_sem, hi, vput, keq, kv, gOf, capOf, rvC, int_beq]
    rfl
  · simp only [go_sem, hi, vput, keq, kv, gOf, capOf, rvC, int_beq]
    rfl

end Go.VL

/- Contracts of this program's functions: rules, second part. Conditions: none. -/
namespace Go.VL
open Go.Proofs

def kOrZ (r : RV) (t : UInt8) : V := match kOf r t with
  | some k => kv r k
  | none => zeroK
def isK (r : RV) (o : OV) : Bool := match kOf r o.t with
  | some k => k.long == o.d.length
  | none => false

theorem nat_beq (a b : Nat) : ((a : Int) == (b : Int)) = (a == b) := by
  rw [Bool.eq_iff_iff]
  simp only [beq_iff_eq]
  omega

theorem capOf_fz (r : RV) (k : NK) (n : Nat) (σ : St) : (capOf r k).map (fz0 n σ) = capOf r k := by cases k <;> rfl
theorem capOf_ref (r : RV) (k : NK) (n : Nat) : (capOf r k).all (ref0 n) = true := by cases k <;> rfl
theorem kinds_same (r : RV) (n : Int) : ((kindsL r).all fun kv => sameKind (.int .u8 n) kv.1) = true := kindsL_kind r n

set_option maxRecDepth 20000 in
theorem c_rof (r : RV) (o : OV) (σ : St) : VCalls Try.prog 46 [rv r, ov o] σ fun x σ' => x = .tup [kOrZ r o.t, .bool (isK r o)] ∧ σ' = σ := by
  have hs := kindsL_kind r o.t.toNat
  simp only [sameKind] at hs
  refine vcalls_intro (C := cfg Try.prog [] [] []) (cfg_ok mixed) Try.func46 rfl rfl rfl rfl rfl ?_
  simp only [go_sem, rv, rvC, ov]
  refine w_walk2 [8, 9] [0, 1, 2, 3, 4, 5, 6, 7, 8, 9, 10] [9, 10, 11, 12, 13, 8, 14, 15, 7] [0, 1, 0, 4, 15, 31, 63, 63, 0, 383, 1023] rfl rfl rfl rfl ?_
  simp only [go_sem]
  refine vdgo_call rfl rfl rfl rfl (c_kinds r σ) ?_
  simp only [go_sem, hs, kindsL_get]
  unfold kOrZ isK
  cases hk : kOf r o.t with
  | none =>
    simp only [go_sem]
    refine w_walk3 [10] [0, 1, 2, 3, 4, 5, 6, 7, 8, 9, 10, 11] [16, 17, 18, 19, 20, 21, 22, 23, 24, 25, 5] [0, 0, 2, 6, 14, 6, 38, 102, 254, 510, 7, 2047] [5] rfl rfl rfl rfl rfl ?_
    simp only [go_sem, zeroK]
  | some k =>
    simp only [go_sem, kv]
    refine w_walk3 [10] [0, 1, 2, 3, 4, 5, 6, 7, 8, 9, 10, 11] [16, 17, 18, 19, 20, 21, 22, 23, 24, 25, 5] [0, 0, 2, 6, 14, 6, 38, 102, 254, 510, 7, 2047] [5] rfl rfl rfl rfl rfl ?_
    simp only [go_sem, bv_length, nat_beq, capOf_fz, capOf_ref]

end Go.VL

/- Contracts of this program's functions: rules, third part. Conditions: none. -/
namespace Go.VL
open Go.Proofs

/-- A number as an option. -/
def numO (t : UInt8) (long : Nat) (n : UInt32) : OV := { t := t, nl := false, c := true, d := (fourB n).drop (4 - long) }
theorem fourB_length (n : UInt32) : (fourB n).length = 4 := rfl
theorem bv_drop (l : List UInt8) (k : Nat) : (bv l).drop k = bv (l.drop k) := by simp [bv, List.map_drop]
theorem bv_take (l : List UInt8) : (bv l).take l.length = bv l := by rw [← bv_length l, List.take_length]

theorem c_rnumb (t : UInt8) (long : Nat) (hlong : long ≤ 4) (n : UInt32) (σ : St) : VCalls Try.prog 47 [.int .u8 t.toNat, .int .i64 long, .int .u32 n.toNat] σ fun r σ' => r = ov (numO t long n) ∧ σ' = σ := by
  refine vcalls_intro (C := cfg Try.prog [] [] []) (cfg_ok mixed) Try.func47 rfl rfl rfl rfl rfl ?_
  simp only [go_sem]
  refine vgo_call rfl rfl rfl rfl (c_four' n σ) ?_
  have e4 : ((4 : Nat) : Int) = 4 := rfl
  have hw : IntKind.i64.wrap (4 - (long : Int)) = ((4 - long : Nat) : Int) := by rw [IntWalk.i64_in _ (by omega)]; omega
  have h1 : ((4 - long : Nat) : Int) ≤ 4 := by omega
  have hb : (bv (fourB n)).take 4 = bv (fourB n) := bv_take (fourB n)
  have h2 : 4 - long ≤ 4 := by omega
  simp only [go_sem, bv_length, fourB_length, e4, hw, h1, h2, hb, bv_drop, ov, numO]

def rAsk (r : RV) : List OV := bif r.ip then [numO 3 4 r.ours] else [{ t := 3, nl := false, c := true, d := [194, 35, 5] }, numO 5 4 r.magic]

theorem c_ask (r : RV) (σ : St) : VCalls Try.prog 29 [rv r] σ fun x σ' => x = .sl false true 2 (osv (rAsk r)) ∧ σ' = σ := by
  refine vcalls_intro (C := cfg Try.prog [] [] []) (cfg_ok mixed) Try.func29 rfl rfl rfl rfl rfl ?_
  simp only [go_sem, rv, rvC]
  unfold rAsk
  cases hi : r.ip
  · simp only [go_sem]
    refine vgo_call rfl rfl rfl rfl (c_rnumb 5 4 (Nat.le_refl _) r.magic σ) ?_
    simp only [go_sem, ov]
    rfl
  · simp only [go_sem]
    refine vgo_call rfl rfl rfl rfl (c_rnumb 3 4 (Nat.le_refl _) r.ours σ) ?_
    simp only [go_sem, ov]
    rfl

theorem numO_four (t : UInt8) (n : UInt32) : numO t 4 n = { t := t, nl := false, c := true, d := fourB n } := rfl

theorem c_rask (r : RV) (σ : St) : VCalls Try.prog 30 [rv r] σ fun x σ' => x = .sl false true 2 (osv (rAsk r)) ∧ σ' = σ := by
  refine vcalls_intro (C := cfg Try.prog [] [] []) (cfg_ok mixed) Try.func30 rfl rfl rfl rfl rfl ?_
  simp only [go_sem, rv, rvC]
  unfold rAsk
  cases hi : r.ip
  · simp only [go_sem]
    refine vgo_call rfl rfl rfl rfl (c_rfour' r.magic σ) ?_
    simp only [go_sem, ov]
    rfl
  · simp only [go_sem]
    refine vgo_call rfl rfl rfl rfl (c_rfour' r.ours σ) ?_
    simp only [go_sem, ov]
    rfl

/-- Is an option known? -/
def knownB (ip : Bool) (o : OV) : Bool := bif ip then (o.t == 3 && o.d.length == 4) else
  bif o.t == 1 then o.d.length == 2 else bif o.t == 2 || o.t == 5 then o.d.length == 4 else bif o.t == 7 || o.t == 8 then o.d.length == 0 else false

theorem nat_beqL (a : Nat) (b : Nat) : ((a : Int) == (OfNat.ofNat b : Int)) = (a == b) := nat_beq a b

theorem c_known (ip : Bool) (o : OV) (σ : St) : VCalls Try.prog 36 [.bool ip, ov o] σ fun x σ' => x = .bool (knownB ip o) ∧ σ' = σ := by
  have e1 : ((o.t.toNat : Int) == 1) = (o.t == 1) := toNat_beq o.t 1
  have e2 : ((o.t.toNat : Int) == 2) = (o.t == 2) := toNat_beq o.t 2
  have e3 : ((o.t.toNat : Int) == 3) = (o.t == 3) := toNat_beq o.t 3
  have e5 : ((o.t.toNat : Int) == 5) = (o.t == 5) := toNat_beq o.t 5
  have e7 : ((o.t.toNat : Int) == 7) = (o.t == 7) := toNat_beq o.t 7
  have e8 : ((o.t.toNat : Int) == 8) = (o.t == 8) := toNat_beq o.t 8
  have l0 : ((o.d.length : Int) == 0) = (o.d.length == 0) := nat_beq _ 0
  have l2 : ((o.d.length : Int) == 2) = (o.d.length == 2) := nat_beq _ 2
  have l4 : ((o.d.length : Int) == 4) = (o.d.length == 4) := nat_beq _ 4
  refine vcalls_intro (C := cfg Try.prog [] [] []) (cfg_ok mixed) Try.func36 rfl rfl rfl rfl rfl ?_
  simp only [go_sem, ov, bv_length]
  unfold knownB
  cases ip
  · simp only [go_sem, e1]
    cases o.t == 1
    · simp only [go_sem, e2]
      cases o.t == 2
      · simp only [go_sem, e5]
        cases o.t == 5
        · simp only [go_sem, e7]
          cases o.t == 7
          · simp only [go_sem, e8]
            cases o.t == 8
            · simp only [go_sem]
            · simp only [go_sem, l0]
          · simp only [go_sem, l0]
        · simp only [go_sem, l4]
      · simp only [go_sem, l4]
    · simp only [go_sem, l2]
  · simp only [go_sem, e3]
    cases o.t == 3
    · simp only [go_sem]
    · simp only [go_sem, l4]

theorem isK_known (r : RV) (o : OV) : isK r o = knownB r.ip o := by
  unfold isK kOf knownB
  cases r.ip
  · simp only [cond_false]
    cases o.t == 1
    · cases o.t == 2
      · cases o.t == 5
        · cases o.t == 7
          · cases o.t == 8
            · rfl
            · simp [Bool.beq_comm (a := o.d.length == 0), eq_comm, BEq.comm]
          · simp [BEq.comm]
        · simp [BEq.comm]
      · simp [BEq.comm]
    · simp [BEq.comm]
  · simp only [cond_true]
    cases o.t == 3
    · rfl
    · simp [BEq.comm]

end Go.VL

/- Contracts of this program's functions: rules, fourth part. Conditions: none. -/
namespace Go.VL
open Go.Proofs

/-- What is found, as a number. -/
def numV (o : Option OV) : V := match o with
  | some o => .tup [.int .u32 (numU o.d).toNat, .bool true]
  | none => .tup [.int .u32 0, .bool false]
def smallD (l : List OV) : Prop := ∀ o ∈ l, o.d.length ≤ lim

def ipR : RV := { ip := true, magic := 0, other := 0, addr := 0, ours := 0 }
def lcR : RV := { ip := false, magic := 0, other := 0, addr := 0, ours := 0 }

theorem c_addr1 (o : OV) (σ : St) : VCalls Try.prog 51 [ov o] σ fun x σ' => x = .bool (knownB true o) ∧ σ' = σ := by
  refine vcalls_intro (C := cfg Try.prog [] [] []) (cfg_ok mixed) Try.func51 rfl rfl rfl rfl rfl ?_
  simp only [go_sem, ov]
  refine vgo_call rfl rfl rfl rfl (c_rof ipR o σ) ?_
  have e : isK ipR o = knownB true o := isK_known ipR o
  unfold kOrZ
  rw [e]
  cases kOf ipR o.t <;> simp only [go_sem, zeroK, kv]

theorem c_address (nl c : Bool) (l : List OV) (hl : l.length ≤ lim) (hd : smallD l) (σ : St) : VCalls Try.prog 27 [.sl nl c 2 (osv l)] σ fun x σ' => x = numV (l.find? (knownB true)) ∧ σ' = σ := by
  refine vcalls_intro (C := cfg Try.prog [] [] []) (cfg_ok mixed) Try.func27 rfl rfl rfl rfl rfl ?_
  simp only [go_sem]
  refine vgo_call rfl rfl rfl rfl (c_index nl c l (knownB true) _ [] [] hl σ fun o => c_addr1 o σ) ?_
  simp only [go_sem]
  unfold numV
  rcases idx_cases (knownB true) l with h | ⟨i, h1, h2, h3⟩
  · simp only [go_sem, idxO_none h, find_none h]
  · have hn : ¬ ((i : Int) < 0) := by omega
    simp only [go_sem, idxO_at h1 h2 h3, find_at h1 h2 h3, hn, osv_length, h1, ov_getD h1]
    refine vgo_call rfl rfl rfl rfl (c_number' _ _ _ (hd _ (List.getElem_mem h1)) σ) ?_
    simp only [go_sem]

theorem c_known1 (o : OV) (t : UInt8) (σ : St) : VCalls Try.prog 61 [ov o, .ip [.int .u8 t.toNat]] σ fun x σ' => x = .bool (knownB false o && o.t == t) ∧ σ' = σ := by
  refine vcalls_intro (C := cfg Try.prog [] [] []) (cfg_ok mixed) Try.func61 rfl rfl rfl rfl rfl ?_
  simp only [go_sem, ov]
  refine vgo_call rfl rfl rfl rfl (c_rof lcR o σ) ?_
  have e : isK lcR o = knownB false o := isK_known lcR o
  unfold kOrZ
  rw [e]
  cases kOf lcR o.t <;> cases knownB false o <;> simp only [go_sem, zeroK, kv, toNat_beq]

def knownT (t : UInt8) (o : OV) : Bool := knownB false o && o.t == t

theorem c_knownN (nl c : Bool) (l : List OV) (t : UInt8) (hl : l.length ≤ lim) (hd : smallD l) (σ : St) : VCalls Try.prog 52 [.sl nl c 2 (osv l), .int .u8 t.toNat] σ fun x σ' => x = numV (l.find? (knownT t)) ∧ σ' = σ := by
  refine vcalls_intro (C := cfg Try.prog [] [] []) (cfg_ok mixed) Try.func52 rfl rfl rfl rfl rfl ?_
  simp only [go_sem]
  refine vgo_call rfl rfl rfl rfl (c_index nl c l (knownT t) _ [] _ hl σ fun o => c_known1 o t σ) ?_
  simp only [go_sem]
  unfold numV
  rcases idx_cases (knownT t) l with h | ⟨i, h1, h2, h3⟩
  · simp only [go_sem, idxO_none h, find_none h]
  · have hn : ¬ ((i : Int) < 0) := by omega
    simp only [go_sem, idxO_at h1 h2 h3, find_at h1 h2 h3, hn, osv_length, h1, ov_getD h1]
    refine vgo_call rfl rfl rfl rfl (c_number' _ _ _ (hd _ (List.getElem_mem h1)) σ) ?_
    simp only [go_sem]

theorem c_raddress (nl c : Bool) (l : List OV) (hl : l.length ≤ lim) (hd : smallD l) (σ : St) : VCalls Try.prog 28 [.sl nl c 2 (osv l)] σ fun x σ' => x = numV (l.find? (knownB true)) ∧ σ' = σ := by
  refine vcalls_intro (C := cfg Try.prog [] [] []) (cfg_ok mixed) Try.func28 rfl rfl rfl rfl rfl ?_
  simp only [go_sem]
  unfold lim at hl
  refine w_loop (fun i => i ≤ l.length ∧ noneO (knownB true) (l.take i) = true) (fun i => [(4, .int .i64 i), (0, .sl nl c 2 (osv l))]) (fun _ => σ) (fun i => l.length - i) 0 ⟨Nat.zero_le _, rfl⟩ ?_ rfl ?_
  · simp only [go_sem]
    rfl
  rintro i ⟨hi, hn⟩
  rcases Nat.lt_or_ge i l.length with h | h
  · have hw : IntKind.i64.wrap ((i : Int) + 1) = ((i + 1 : Nat) : Int) := wrap_ok (by omega) (by omega)
    have e3 : ((l[i].t.toNat : Int) == 3) = (l[i].t == 3) := toNat_beq l[i].t 3
    have l4 : ((l[i].d.length : Int) == 4) = (l[i].d.length == 4) := nat_beq _ 4
    have hk : knownB true l[i] = (l[i].t == 3 && l[i].d.length == 4) := rfl
    simp only [go_sem, osv_length, h, ov_getD h, e3, bv_length, l4]
    cases ht : l[i].t == 3
    · simp only [go_sem]
      rw [ht] at hk
      refine l_next (i + 1) ⟨h, noneO_take h hn (by rw [hk]; rfl)⟩ (by omega) ?_ rfl
      simp only [go_sem, hw]
    · simp only [go_sem, osv_length, h, ov_getD h, bv_length, l4]
      rw [ht] at hk
      cases hq : l[i].d.length == 4
      · simp only [go_sem]
        rw [hq] at hk
        refine l_next (i + 1) ⟨h, noneO_take h hn (by rw [hk]; rfl)⟩ (by omega) ?_ rfl
        simp only [go_sem, hw]
      · simp only [go_sem, osv_length, h, ov_getD h]
        rw [hq] at hk
        refine vgo_call rfl rfl rfl rfl (c_rnumber' _ _ _ (hd _ (List.getElem_mem h)) σ) ?_
        simp only [go_sem]
        refine l_ret ?_
        have hf := find_at h hn (by rw [hk]; rfl)
        simp only [go_sem, hf, numV]
  · have hh : ¬ (i < l.length) := by omega
    simp only [go_sem, osv_length, hh]
    refine l_exit ?_
    rw [List.take_of_length_le h] at hn
    simp only [go_sem, find_none hn, numV]

theorem c_rfirst (nl c : Bool) (l : List OV) (t : UInt8) (hl : l.length ≤ lim) (hd : smallD l) (σ : St) : VCalls Try.prog 53 [.sl nl c 2 (osv l), .int .u8 t.toNat] σ fun x σ' => x = numV (l.find? (knownT t)) ∧ σ' = σ := by
  refine vcalls_intro (C := cfg Try.prog [] [] []) (cfg_ok mixed) Try.func53 rfl rfl rfl rfl rfl ?_
  simp only [go_sem]
  unfold lim at hl
  refine w_loop (fun i => i ≤ l.length ∧ noneO (knownT t) (l.take i) = true) (fun i => [(6, .int .i64 i), (0, .sl nl c 2 (osv l)), (1, .int .u8 t.toNat)]) (fun _ => σ) (fun i => l.length - i) 0 ⟨Nat.zero_le _, rfl⟩ ?_ rfl ?_
  · simp only [go_sem]
    rfl
  rintro i ⟨hi, hn⟩
  rcases Nat.lt_or_ge i l.length with h | h
  · have hw : IntKind.i64.wrap ((i : Int) + 1) = ((i + 1 : Nat) : Int) := wrap_ok (by omega) (by omega)
    have hk : knownT t l[i] = (knownB false l[i] && l[i].t == t) := rfl
    simp only [go_sem, osv_length, h, ov_getD h]
    refine vgo_call rfl rfl rfl rfl (c_known false l[i] σ) ?_
    cases ht : knownB false l[i]
    · simp only [go_sem]
      rw [ht] at hk
      refine l_next (i + 1) ⟨h, noneO_take h hn (by rw [hk]; rfl)⟩ (by omega) ?_ rfl
      simp only [go_sem, hw]
    · simp only [go_sem, osv_length, h, ov_getD h, toNat_beq]
      rw [ht] at hk
      cases hq : l[i].t == t
      · simp only [go_sem]
        rw [hq] at hk
        refine l_next (i + 1) ⟨h, noneO_take h hn (by rw [hk]; rfl)⟩ (by omega) ?_ rfl
        simp only [go_sem, hw]
      · simp only [go_sem, osv_length, h, ov_getD h]
        rw [hq] at hk
        refine vgo_call rfl rfl rfl rfl (c_rnumber' _ _ _ (hd _ (List.getElem_mem h)) σ) ?_
        simp only [go_sem]
        refine l_ret ?_
        have hf := find_at h hn (by rw [hk]; rfl)
        simp only [go_sem, hf, numV]
  · have hh : ¬ (i < l.length) := by omega
    simp only [go_sem, osv_length, hh]
    refine l_exit ?_
    rw [List.take_of_length_le h] at hn
    simp only [go_sem, find_none hn, numV]

end Go.VL

/- Contracts of this program's functions: rules, fifth part. Conditions: none. -/
namespace Go.VL
open Go.Proofs

/-- What an option should be, by the document. -/
def shouldR (r : RV) (o : OV) : OV × Bool := bif r.ip then (numO 3 4 r.addr, numU o.d != r.addr) else
  bif o.t == 1 && decide (numU o.d < 64) then ({ t := 1, nl := false, c := true, d := [0, 64] }, true) else
  bif o.t == 5 && (numU o.d == 0 || numU o.d == r.magic) then (numO 5 4 r.other, true) else (o, false)
def shouldV (x : OV × Bool) : V := .tup [ov x.1, .bool x.2]

set_option maxRecDepth 20000 in
theorem c_should (r : RV) (o : OV) (ho : o.d.length ≤ lim) (σ : St) : VCalls Try.prog 48 [rv r, ov o] σ fun x σ' => x = shouldV (shouldR r o) ∧ σ' = σ := by
  have e1 : ((o.t.toNat : Int) == 1) = (o.t == 1) := toNat_beq o.t 1
  have e5 : ((o.t.toNat : Int) == 5) = (o.t == 5) := toNat_beq o.t 5
  refine vcalls_intro (C := cfg Try.prog [] [] []) (cfg_ok mixed) Try.func48 rfl rfl rfl rfl rfl ?_
  simp only [go_sem, rv, rvC, ov]
  refine vgo_call rfl rfl rfl rfl (c_rnumber' _ _ _ ho σ) ?_
  unfold shouldR
  cases hi : r.ip
  · simp only [go_sem, e1]
    cases h1 : o.t == 1
    · simp only [go_sem, e5]
      cases h5 : o.t == 5
      · simp only [go_sem, shouldV, ov]
      · simp only [go_sem, toNat32_beq0]
        cases h0 : numU o.d == 0
        · simp only [go_sem, toNat32_beq]
          cases hm : numU o.d == r.magic
          · simp only [go_sem, shouldV, ov]
          · simp only [go_sem]
            refine vgo_call rfl rfl rfl rfl (c_rfour' r.other σ) ?_
            simp only [go_sem, shouldV, ov, numO_four]
            rfl
        · simp only [go_sem]
          refine vgo_call rfl rfl rfl rfl (c_rfour' r.other σ) ?_
          simp only [go_sem, shouldV, ov, numO_four]
          rfl
    · simp only [go_sem, toNat32_lt64]
      cases h64 : decide (numU o.d < 64)
      · have h5 : (o.t == 5) = false := by
          have : o.t = 1 := by simpa using h1
          rw [this]; rfl
        simp only [go_sem, e5, h5, shouldV, ov]
      · simp only [go_sem, shouldV, ov]
        rfl
  · simp only [go_sem]
    refine w_walk3 [8] [0, 1, 2, 3, 4, 5, 6, 7, 8, 9] [12, 13, 14, 15, 16, 17, 18, 19, 5] [0, 1, 3, 7, 0, 0, 32, 112, 15, 511] [5] rfl rfl rfl rfl rfl ?_
    simp only [go_sem]
    refine vdgo_call rfl rfl rfl rfl (c_rfour' r.addr σ) ?_
    simp only [go_sem, toNat32_bne, shouldV, ov, numO_four]
    rfl

/-- What the peer's options tell. -/
def learnV (l : List OV) : V := .agg [
  .int .i64 (match l.find? (knownT 1) with | some o => ((numU o.d).toNat : Int) | none => 1500),
  .int .u32 (match l.find? (knownT 2) with | some o => ((numU o.d).toNat : Int) | none => 4294967295),
  .int .u32 (match l.find? (knownT 5) with | some o => ((numU o.d).toNat : Int) | none => 0),
  .bool (l.find? (knownT 7)).isSome, .bool (l.find? (knownT 8)).isSome]

theorem numU_i64 (n : UInt32) : IntKind.i64.wrap (n.toNat : Int) = n.toNat := IntWalk.i64_in _ (by have := n.toNat_lt; omega)

set_option maxRecDepth 20000 in
theorem c_learn (nl c : Bool) (l : List OV) (hl : l.length ≤ lim) (hd : smallD l) (σ : St) : VCalls Try.prog 31 [.sl nl c 2 (osv l)] σ fun x σ' => x = learnV l ∧ σ' = σ := by
  refine vcalls_intro (C := cfg Try.prog [] [] []) (cfg_ok mixed) Try.func31 rfl rfl rfl rfl rfl ?_
  have hv : ∀ t, (numV (l.find? (knownT t))).isVal = true := fun t => by unfold numV; split <;> rfl
  simp only [go_sem]
  refine vgo_call rfl rfl rfl (hv 1) (c_knownN nl c l 1 hl hd σ) ?_
  unfold learnV
  cases h1 : l.find? (knownT 1) <;> simp only [go_sem, numV, numU_i64]
  all_goals refine vgo_call rfl rfl rfl (hv 2) (c_knownN nl c l 2 hl hd σ) ?_
  all_goals cases h2 : l.find? (knownT 2) <;> simp only [go_sem, numV]
  all_goals refine vgo_call rfl rfl rfl (hv 5) (c_knownN nl c l 5 hl hd σ) ?_
  all_goals cases h5 : l.find? (knownT 5) <;> simp only [go_sem, numV]
  all_goals refine vgo_call rfl rfl rfl (hv 7) (c_knownN nl c l 7 hl hd σ) ?_
  all_goals cases h7 : l.find? (knownT 7) <;> simp only [go_sem, numV]
  all_goals refine vgo_call rfl rfl rfl (hv 8) (c_knownN nl c l 8 hl hd σ) ?_
  all_goals cases h8 : l.find? (knownT 8) <;> simp only [go_sem, numV]

set_option maxRecDepth 20000 in
theorem c_rlearn (nl c : Bool) (l : List OV) (hl : l.length ≤ lim) (hd : smallD l) (σ : St) : VCalls Try.prog 32 [.sl nl c 2 (osv l)] σ fun x σ' => x = learnV l ∧ σ' = σ := by
  refine vcalls_intro (C := cfg Try.prog [] [] []) (cfg_ok mixed) Try.func32 rfl rfl rfl rfl rfl ?_
  have hv : ∀ t, (numV (l.find? (knownT t))).isVal = true := fun t => by unfold numV; split <;> rfl
  simp only [go_sem]
  refine vgo_call rfl rfl rfl (hv 1) (c_rfirst nl c l 1 hl hd σ) ?_
  unfold learnV
  cases h1 : l.find? (knownT 1) <;> simp only [go_sem, numV, numU_i64]
  all_goals refine vgo_call rfl rfl rfl (hv 2) (c_rfirst nl c l 2 hl hd σ) ?_
  all_goals cases h2 : l.find? (knownT 2) <;> simp only [go_sem, numV]
  all_goals refine vgo_call rfl rfl rfl (hv 5) (c_rfirst nl c l 5 hl hd σ) ?_
  all_goals cases h5 : l.find? (knownT 5) <;> simp only [go_sem, numV]
  all_goals refine vgo_call rfl rfl rfl (hv 7) (c_rfirst nl c l 7 hl hd σ) ?_
  all_goals cases h7 : l.find? (knownT 7) <;> simp only [go_sem, numV]
  all_goals refine vgo_call rfl rfl rfl (hv 8) (c_rfirst nl c l 8 hl hd σ) ?_
  all_goals cases h8 : l.find? (knownT 8) <;> simp only [go_sem, numV]

end Go.VL

/- Contracts of this program's functions: rules.Answer. Conditions: none. -/
namespace Go.VL
open Go.Proofs

def notO (r : RV) (o : OV) : Bool := match kOf r o.t with
  | some k => notK r (numU o.d) k.nf
  | none => false
def fixO (r : RV) (o : OV) : OV := match kOf r o.t with
  | some k => numO o.t k.long k.should
  | none => o
def oddL (r : RV) (l : List OV) : List OV := l.filter fun o => !isK r o
def asL (r : RV) (l : List OV) : List OV := l.filter fun o => isK r o && notO r o
def toL (r : RV) (l : List OV) : List OV := (asL r l).map (fixO r) ++ (bif r.ip && (l.find? (knownB true)).isNone then [numO 3 4 r.addr] else [])
def refL (r : RV) (l : List OV) (big : Bool) : List OV := bif big && (oddL r l).isEmpty then asL r l else oddL r l
def ansP (r : RV) (l : List OV) (naks : Int) : UInt8 × List OV :=
  bif !(refL r l (decide (3 ≤ naks))).isEmpty then (4, refL r l (decide (3 ≤ naks))) else bif !decide (3 ≤ naks) && !(toL r l).isEmpty then (3, toL r l) else (2, l)
def ansV (nl c : Bool) (x : UInt8 × List OV) : V := .tup [.int .u8 x.1.toNat, bif x.1 == 2 then .sl nl c 2 (osv x.2) else .sl false false 2 (osv x.2)]

theorem filt_take {p : OV → Bool} {l : List OV} {i : Nat} (h : i < l.length) : (l.take (i + 1)).filter p = (l.take i).filter p ++ (bif p l[i] then [l[i]] else []) := by
  rw [List.take_succ_eq_append_getElem h, List.filter_append]
  cases hp : p l[i] <;> simp [hp]
theorem oddL_take {r : RV} {l : List OV} {i : Nat} (h : i < l.length) : oddL r (l.take (i + 1)) = oddL r (l.take i) ++ (bif !isK r l[i] then [l[i]] else []) := filt_take h
theorem asL_take {r : RV} {l : List OV} {i : Nat} (h : i < l.length) : asL r (l.take (i + 1)) = asL r (l.take i) ++ (bif isK r l[i] && notO r l[i] then [l[i]] else []) := filt_take h
theorem oddL_length (r : RV) (l : List OV) (i : Nat) : (oddL r (l.take i)).length ≤ i := Nat.le_trans (List.length_filter_le _ _) (by simp; omega)
theorem asL_length (r : RV) (l : List OV) (i : Nat) : (asL r (l.take i)).length ≤ i := Nat.le_trans (List.length_filter_le _ _) (by simp; omega)
theorem isEmpty_app (l : List OV) (o : OV) : (l ++ [o]).isEmpty = false := by cases l <;> rfl
theorem osv_app (l : List OV) (o : OV) : osv l ++ [.agg [.int .u8 o.t.toNat, .sl o.nl o.c 1 (bv o.d)]] = osv (l ++ [o]) := by simp [osv, ov]
theorem osv_isEmpty (l : List OV) : (osv l).isEmpty = l.isEmpty := by cases l <;> rfl

theorem c_number0 (o : OV) (ho : o.d.length ≤ lim) (σ : St) : VCalls Try.prog 18 [.sl o.nl o.c 1 (bv o.d)] σ fun r σ' => r = .int .u32 (numU o.d).toNat ∧ σ' = σ := c_number' _ _ _ ho σ

theorem kOf_long {r : RV} {t : UInt8} {k : KV} : kOf r t = some k → k.long ≤ 4 := by
  unfold kOf
  cases r.ip <;> cases t == 1 <;> cases t == 2 <;> cases t == 3 <;> cases t == 5 <;> cases t == 7 <;> cases t == 8 <;> simp <;> (rintro rfl; simp)

theorem pos_len (l : List OV) : decide ((0 : Int) < (l.length : Int)) = !l.isEmpty := by
  cases l with
  | nil => rfl
  | cons x l => simp
theorem eq0_len (l : List OV) : ((l.length : Int) == 0) = l.isEmpty := by
  cases l with
  | nil => rfl
  | cons x l => simp; omega
theorem pos_succ (n : Nat) : ((0 : Int) < ((n + 1 : Nat) : Int)) = True := by
  apply eq_true
  omega
theorem map_isEmpty (f : OV → OV) (l : List OV) : (l.map f).isEmpty = l.isEmpty := by cases l <;> rfl
theorem app_isEmpty (l : List OV) (o : OV) : (l ++ [o]).isEmpty = false := by cases l <;> rfl
theorem osv_takeM (f : OV → OV) (k : List OV) : (osv (k.map f)).take k.length = osv (k.map f) := by
  have := osv_take (k.map f)
  rwa [List.length_map] at this
theorem osv_takeA (k : List OV) (o : OV) (n : Nat) (h : n = k.length + 1) : (osv (k ++ [o])).take n = osv (k ++ [o]) := by
  subst h
  have := osv_take (k ++ [o])
  rwa [List.length_append] at this

set_option maxHeartbeats 4000000 in
set_option maxRecDepth 20000 in
theorem c_answer (r : RV) (nl c : Bool) (l : List OV) (naks : Int) (hl : l.length < lim) (hd : smallD l) (σ : St) :
    VCalls Try.prog 25 [rv r, .sl nl c 2 (osv l), .int .i64 naks] σ fun x σ' => x = ansV nl c (ansP r l naks) ∧ σ' = σ := by
  refine vcalls_intro (C := cfg Try.prog [] [] []) (cfg_ok mixed) Try.func25 rfl rfl rfl rfl rfl ?_
  simp only [go_sem, rv, rvC]
  have hl' := hl
  unfold lim at hl
  refine loop_adopt 8 2 σ.length rfl rfl ?_
  refine loop_adopt 9 2 (σ.length + 1) rfl (len_app1 _ _) ?_
  refine loop_adopt 10 2 (σ.length + 2) rfl (len_app2 _ _ _) ?_
  refine w_loop (fun i => i ≤ l.length) (fun i => [(19, .int .i64 i), (18, .int .i64 l.length), (17, .sl nl c 2 (osv l)), (1, .sl nl c 2 (osv l)), (2, .int .i64 naks), (3, .ip (rvC r)),
      (8, .rsl σ.length (oddL r (l.take i)).length 0 (oddL r (l.take i)).length), (9, .rsl (σ.length + 1) (asL r (l.take i)).length 0 (asL r (l.take i)).length), (10, .rsl (σ.length + 2) (asL r (l.take i)).length 0 (asL r (l.take i)).length)])
    (fun i => σ ++ [.arr (oddL r (l.take i)).isEmpty (oddL r (l.take i)).length 2 (osv (oddL r (l.take i))), .arr (asL r (l.take i)).isEmpty (asL r (l.take i)).length 2 (osv (asL r (l.take i))), .arr (asL r (l.take i)).isEmpty (asL r (l.take i)).length 2 (osv ((asL r (l.take i)).map (fixO r)))])
    (fun i => l.length - i) 0 (Nat.zero_le _) ?_ ?_ ?_
  · simp only [go_sem, rvC, osv_length]
    exact ⟨rfl, rfl, rfl, rfl⟩
  · simp [oddL, asL, osv]
  intro i hi
  rcases Nat.lt_or_ge i l.length with h | h
  · have hw : IntKind.i64.wrap ((i : Int) + 1) = ((i + 1 : Nat) : Int) := wrap_ok (by omega) (by omega)
    have ho := oddL_length r l i
    have ha := asL_length r l i
    simp only [go_sem, osv_length, h, ov_getD h, rvC]
    refine vgo_call rfl rfl rfl rfl (c_rof r l[i] _) ?_
    unfold kOrZ
    cases hkk : kOf r l[i].t with
    | none =>
      have hk : isK r l[i] = false := by unfold isK; rw [hkk]
      simp only [go_sem, zeroK, hk, osv_length, h, ov_getD h]
      refine ⟨by unfold lim; omega, l_next (i + 1) h (by omega) ?_ ?_⟩
      · simp only [go_sem, hw, rvC, oddL_take h, asL_take h, hk, List.length_append]
      · simp only [oddL_take h, asL_take h, hk, go_sem, osv_app, isEmpty_app, List.length_append]
    | some k =>
      cases hk : isK r l[i]
      · simp only [go_sem, kv, osv_length, h, ov_getD h]
        refine ⟨by unfold lim; omega, l_next (i + 1) h (by omega) ?_ ?_⟩
        · simp only [go_sem, hw, rvC, oddL_take h, asL_take h, hk, List.length_append]
        · simp only [oddL_take h, asL_take h, hk, go_sem, osv_app, isEmpty_app, List.length_append]
      · have hno : notO r l[i] = notK r (numU l[i].d) k.nf := by unfold notO; rw [hkk]
        have hfx : fixO r l[i] = numO l[i].t k.long k.should := by unfold fixO; rw [hkk]
        have hkl := kOf_long hkk
        simp only [go_sem, kv]
        refine w_walk2 [] [0, 1, 2, 3, 4, 5, 6] [37, 38, 39, 40, 41, 42, 36] [0, 1, 0, 4, 12, 31, 63] rfl rfl rfl rfl ?_
        simp only [go_sem]
        refine vdgo_call rfl rfl rfl rfl (c_number0 l[i] (hd _ (List.getElem_mem h)) _) ?_
        simp only [go_sem]
        refine vdgo_call rfl rfl rfl rfl (c_not r k.nf (numU l[i].d) _) ?_
        cases hn : notK r (numU l[i].d) k.nf
        · simp only [go_sem]
          refine l_next (i + 1) h (by omega) ?_ ?_
          · simp only [go_sem, hw, rvC, oddL_take h, asL_take h, hk, hno, hn, List.length_append]
          · simp only [oddL_take h, asL_take h, hk, hno, hn, go_sem, List.append_nil]
        · simp only [go_sem, osv_length, h, ov_getD h]
          refine ⟨by unfold lim; omega, ?_⟩
          refine vgo_call rfl rfl rfl rfl (c_rnumb l[i].t k.long hkl k.should _) ?_
          simp only [go_sem, osv_length, h, ov_getD h, ov, List.length_map]
          refine ⟨by unfold lim; omega, l_next (i + 1) h (by omega) ?_ ?_⟩
          · simp only [go_sem, hw, rvC, oddL_take h, asL_take h, hk, hno, hn, List.length_append]
          · simp only [oddL_take h, asL_take h, hk, hno, hn, hfx, go_sem, osv_app, isEmpty_app, List.length_append, List.map_append]
  · have hn : ¬ (i < l.length) := by omega
    have hol := oddL_length r l l.length
    have hal := asL_length r l l.length
    rw [List.take_length] at hol hal
    have hv : (numV (l.find? (knownB true))).isVal = true := by unfold numV; split <;> rfl
    simp only [go_sem, hn, rvC]
    refine l_exit ?_
    rw [List.take_of_length_le h]
    simp only [go_sem]
    refine vgo_call rfl rfl rfl hv (c_address nl c l (Nat.le_of_lt hl') hd _) ?_
    unfold ansP refL toL
    have ht : (osv ((asL r l).map (fixO r) ++ [numO 3 4 r.addr])).take ((asL r l).length + 1) = osv ((asL r l).map (fixO r) ++ [numO 3 4 r.addr]) := osv_takeA _ _ _ (by simp)
    cases hf : l.find? (knownB true) <;> cases hi : r.ip <;> cases hb : decide (3 ≤ naks) <;> cases ho : (oddL r l).isEmpty <;> cases hs : (asL r l).isEmpty
    all_goals simp only [go_sem, numV, hb, Nat.sub_zero, eq0_len, pos_len, ho, hs, osv_take, osv_takeM, Int.cast_ofNat_Int]
    all_goals first
      | (simp only [ansV, map_isEmpty, hs, List.append_nil, Option.isNone_some, go_sem]; done)
      | (simp only [ansV, map_isEmpty, hs, List.append_nil, Option.isNone_some, go_sem]; rfl)
      | skip
    all_goals refine vgo_call rfl rfl rfl rfl (c_rnumb 3 4 (Nat.le_refl _) r.addr _) ?_
    all_goals simp only [go_sem, osv_length, List.length_map, ov]
    all_goals refine ⟨by unfold lim; omega, ?_⟩
    all_goals simp only [go_sem, hb, Nat.sub_zero, eq0_len, pos_len, pos_succ, ho, hs, osv_take, osv_takeM, osv_app, ht, app_isEmpty, ansV, Int.cast_ofNat_Int]
    all_goals rfl

end Go.VL

/- Contracts of this program's functions: the document's Answer. Conditions: none. -/
namespace Go.VL
open Go.Proofs

theorem shouldR_eq {r : RV} {o : OV} (h : isK r o = true) : (shouldR r o).2 = notO r o ∧ (notO r o = true → (shouldR r o).1 = fixO r o) := by
  unfold isK at h
  unfold shouldR notO fixO
  cases hk : kOf r o.t with
  | none => rw [hk] at h; cases h
  | some k =>
    rw [hk] at h
    unfold kOf at hk
    cases hi : r.ip
    · rw [hi] at hk
      simp only [cond_false] at hk ⊢
      cases h1 : o.t == 1
      · rw [h1] at hk
        cases h2 : o.t == 2
        · rw [h2] at hk
          cases h5 : o.t == 5
          · rw [h5] at hk
            cases h7 : o.t == 7
            · rw [h7] at hk
              cases h8 : o.t == 8
              · rw [h8] at hk; cases hk
              · rw [h8] at hk; cases hk; simp [notK]
            · rw [h7] at hk; cases hk; simp [notK]
          · rw [h5] at hk
            cases hk
            have ht : o.t = 5 := by simpa using h5
            simp only [notK, Bool.false_and, cond_false, Bool.true_and, numO, ht]
            cases (numU o.d == 0 || numU o.d == r.magic) <;> simp
        · rw [h2] at hk
          cases hk
          have h5 : (o.t == 5) = false := by
            have ht : o.t = 2 := by simpa using h2
            rw [ht]; rfl
          simp [notK, h5]
      · rw [h1] at hk
        cases hk
        have ht : o.t = 1 := by simpa using h1
        simp only [notK, Bool.true_and, numO, ht]
        have h5 : ((1 : UInt8) == 5) = false := rfl
        cases decide (numU o.d < 64)
        · simp [h5]
        · simp [fourB]
    · rw [hi] at hk
      simp only [cond_true] at hk ⊢
      cases h3 : o.t == 3
      · rw [h3] at hk; cases hk
      · rw [h3] at hk
        cases hk
        have ht : o.t = 3 := by simpa using h3
        simp only [notK, ht]
        refine ⟨?_, fun _ => ?_⟩ <;> first | rfl | trivial

set_option maxHeartbeats 4000000 in
set_option maxRecDepth 20000 in
theorem c_ranswer (r : RV) (nl c : Bool) (l : List OV) (naks : Int) (hl : l.length < lim) (hd : smallD l) (σ : St) :
    VCalls Try.prog 26 [rv r, .sl nl c 2 (osv l), .int .i64 naks] σ fun x σ' => x = ansV nl c (ansP r l naks) ∧ σ' = σ := by
  refine vcalls_intro (C := cfg Try.prog [] [] []) (cfg_ok mixed) Try.func26 rfl rfl rfl rfl rfl ?_
  simp only [go_sem, rv, rvC]
  have hl' := hl
  unfold lim at hl
  refine loop_adopt 8 2 σ.length rfl rfl ?_
  refine loop_adopt 9 2 (σ.length + 1) rfl (len_app1 _ _) ?_
  refine loop_adopt 10 2 (σ.length + 2) rfl (len_app2 _ _ _) ?_
  refine w_loop (fun i => i ≤ l.length) (fun i => [(11, .int .i64 i), (1, .sl nl c 2 (osv l)), (2, .int .i64 naks), (3, .ip (rvC r)),
      (8, .rsl σ.length (oddL r (l.take i)).length 0 (oddL r (l.take i)).length), (9, .rsl (σ.length + 1) (asL r (l.take i)).length 0 (asL r (l.take i)).length), (10, .rsl (σ.length + 2) (asL r (l.take i)).length 0 (asL r (l.take i)).length)])
    (fun i => σ ++ [.arr (oddL r (l.take i)).isEmpty (oddL r (l.take i)).length 2 (osv (oddL r (l.take i))), .arr (asL r (l.take i)).isEmpty (asL r (l.take i)).length 2 (osv (asL r (l.take i))), .arr (asL r (l.take i)).isEmpty (asL r (l.take i)).length 2 (osv ((asL r (l.take i)).map (fixO r)))])
    (fun i => l.length - i) 0 (Nat.zero_le _) ?_ ?_ ?_
  · simp only [go_sem, rvC, osv_length]
    exact ⟨rfl, rfl, rfl, rfl⟩
  · simp [oddL, asL, osv]
  intro i hi
  rcases Nat.lt_or_ge i l.length with h | h
  · have hw : IntKind.i64.wrap ((i : Int) + 1) = ((i + 1 : Nat) : Int) := wrap_ok (by omega) (by omega)
    have ho := oddL_length r l i
    have ha := asL_length r l i
    simp only [go_sem, osv_length, h, ov_getD h, rvC]
    refine w_walk2 [] [0, 1, 2, 3, 4, 5, 6, 7] [23, 24, 25, 26, 27, 28, 29, 12] [0, 1, 0, 0, 12, 28, 63, 127] rfl rfl rfl rfl ?_
    simp only [go_sem, osv_length, h, ov_getD h]
    refine vdgo_call rfl rfl rfl rfl (c_known r.ip l[i] _) ?_
    rw [← isK_known]
    cases hk : isK r l[i]
    · simp only [go_sem, osv_length, h, ov_getD h]
      refine ⟨by unfold lim; omega, l_next (i + 1) h (by omega) ?_ ?_⟩
      · simp only [go_sem, hw, rvC, oddL_take h, asL_take h, hk, List.length_append]
      · simp only [oddL_take h, asL_take h, hk, go_sem, osv_app, isEmpty_app, List.length_append]
    · obtain ⟨hq1, hq2⟩ := shouldR_eq hk
      simp only [go_sem]
      refine w_walk2 [9, 10] [0, 1, 2, 3, 4, 5, 6, 7, 8, 9, 10, 11] [40, 41, 42, 43, 44, 45, 39, 46, 47, 14] [0, 0, 0, 6, 14, 31, 63, 127, 127, 0, 767, 2047] rfl rfl rfl rfl ?_
      simp only [go_sem, osv_length, h, ov_getD h]
      refine vdgo_call rfl rfl rfl rfl (c_should r l[i] (hd _ (List.getElem_mem h)) _) ?_
      simp only [go_sem, shouldV, ov]
      cases hn : notO r l[i]
      · rw [hn] at hq1
        simp only [go_sem, hq1]
        refine l_next (i + 1) h (by omega) ?_ ?_
        · simp only [go_sem, hw, rvC, oddL_take h, asL_take h, hk, hn, List.length_append]
        · simp only [oddL_take h, asL_take h, hk, hn, go_sem, List.append_nil]
      · rw [hn] at hq1
        have hq3 := hq2 hn
        simp only [go_sem, hq1, osv_length, h, ov_getD h, List.length_map]
        refine ⟨by unfold lim; omega, by unfold lim; omega, l_next (i + 1) h (by omega) ?_ ?_⟩
        · simp only [go_sem, hw, rvC, oddL_take h, asL_take h, hk, hn, List.length_append]
        · simp only [oddL_take h, asL_take h, hk, hn, hq3, go_sem, osv_app, isEmpty_app, List.length_append, List.map_append]
  · have hn : ¬ (i < l.length) := by omega
    have hol := oddL_length r l l.length
    have hal := asL_length r l l.length
    rw [List.take_length] at hol hal
    have hv : (numV (l.find? (knownB true))).isVal = true := by unfold numV; split <;> rfl
    have hlt : decide (naks < 3) = !decide (3 ≤ naks) := by
      rw [Bool.eq_iff_iff]
      simp
    simp only [go_sem, osv_length, hn, rvC]
    refine l_exit ?_
    rw [List.take_of_length_le h]
    simp only [go_sem]
    unfold ansP refL toL
    have ht : (osv ((asL r l).map (fixO r) ++ [numO 3 4 r.addr])).take ((asL r l).length + 1) = osv ((asL r l).map (fixO r) ++ [numO 3 4 r.addr]) := osv_takeA _ _ _ (by simp)
    have he : osv ((asL r l).map (fixO r)) ++ [V.agg [V.int .u8 3, V.sl false true 1 (bv (fourB r.addr))]] = osv ((asL r l).map (fixO r) ++ [numO 3 4 r.addr]) := osv_app _ (numO 3 4 r.addr)
    cases hb : decide (3 ≤ naks) <;> cases ho : (oddL r l).isEmpty <;> cases hs : (asL r l).isEmpty
    all_goals simp only [go_sem, hb, Nat.sub_zero, eq0_len, pos_len, ho, hs, osv_take, osv_takeM, Int.cast_ofNat_Int]
    all_goals first
      | (simp only [ansV, map_isEmpty, hs, List.append_nil, Option.isNone_some, go_sem]; done)
      | (simp only [ansV, map_isEmpty, hs, List.append_nil, Option.isNone_some, go_sem]; rfl)
      | skip
    all_goals refine vgo_call rfl rfl rfl hv (c_raddress nl c l (Nat.le_of_lt hl') hd _) ?_
    all_goals cases hf : l.find? (knownB true) <;> cases hi : r.ip
    all_goals simp only [go_sem, numV, hb, hlt, Nat.sub_zero, eq0_len, pos_len, ho, hs, osv_take, osv_takeM, Int.cast_ofNat_Int]
    all_goals first
      | (simp only [ansV, map_isEmpty, hs, List.append_nil, Option.isNone_some, go_sem]; done)
      | (simp only [ansV, map_isEmpty, hs, List.append_nil, Option.isNone_some, go_sem]; rfl)
      | skip
    all_goals refine vgo_call rfl rfl rfl rfl (c_rfour' r.addr _) ?_
    all_goals simp only [go_sem, osv_length, List.length_map, ov]
    all_goals refine ⟨by unfold lim; omega, ?_⟩
    all_goals simp only [go_sem, hb, hlt, Nat.sub_zero, eq0_len, pos_len, pos_succ, ho, hs, osv_take, osv_takeM, osv_app, he, ht, app_isEmpty, ansV, Int.cast_ofNat_Int]
    all_goals rfl

end Go.VL

/- Contracts of this program's functions: rules.Turn. Conditions: none. -/
namespace Go.VL
open Go.Proofs

def inO (l : List OV) (o : OV) : Bool := (findO l o.t).isSome
theorem resO_val (x : Option OV) : (resO x).isVal = true := by cases x <;> rfl

theorem c_turn1 (nl c : Bool) (l : List OV) (o : OV) (hl : l.length ≤ lim) (σ : St) : VCalls Try.prog 54 [ov o, .ip [.sl nl c 2 (osv l)]] σ fun x σ' => x = .bool (inO l o) ∧ σ' = σ := by
  refine vcalls_intro (C := cfg Try.prog [] [] []) (cfg_ok mixed) Try.func54 rfl rfl rfl rfl rfl ?_
  simp only [go_sem, ov]
  refine vgo_call rfl rfl rfl (resO_val _) (c_find nl c l o.t hl σ) ?_
  unfold inO
  cases findO l o.t <;> simp only [go_sem, resO, ov, zeroO]

/-- What we ask for behind the peer's answer. -/
def turnV (r : RV) (nl c : Bool) (ours : List OV) (code : UInt8) (l : List OV) : V :=
  bif !r.ip && (findO l 3).isSome then .tup [.sl nl c 2 (osv ours), .bool false] else
  bif code == 4 then .tup [copyV nl (keepO (inO l) ours), .bool true] else
  bif code != 3 then .tup [.sl nl c 2 (osv ours), .bool false] else
  bif !r.ip && (findO l 5).isSome && (findO ours 5).isSome then .tup [.sl false false 2 (osv (putO ours (numO 5 4 r.other))), .bool true] else
  .tup [.sl nl c 2 (osv ours), .bool true]

theorem toNat_beq4 (a : UInt8) : ((a.toNat : Int) == 4) = (a == 4) := toNat_beq a 4
theorem toNat_bne3 (a : UInt8) : ((a.toNat : Int) != 3) = (a != 3) := toNat_bne a 3

set_option maxHeartbeats 1000000 in
set_option maxRecDepth 20000 in
theorem c_turn (r : RV) (nl c nl' c' : Bool) (ours l : List OV) (code : UInt8) (ho : ours.length < lim) (hl : l.length ≤ lim) (σ : St) :
    VCalls Try.prog 38 [rv r, .sl nl c 2 (osv ours), .int .u8 code.toNat, .sl nl' c' 2 (osv l)] σ fun x σ' => x = turnV r nl c ours code l ∧ σ' = σ := by
  refine VCalls.res ?_
  refine vcalls_intro (C := cfg Try.prog [] [] []) (cfg_ok mixed) Try.func38 rfl rfl rfl rfl rfl ?_
  simp only [go_sem, rv, rvC]
  refine vgo_call rfl rfl rfl (resO_val _) (c_find nl' c' l 3 hl σ) ?_
  unfold turnV
  cases h3 : findO l 3 <;> simp only [go_sem, resO, ov, zeroO]
  all_goals refine vgo_call rfl rfl rfl (resO_val _) (c_find nl' c' l 5 hl σ) ?_
  all_goals cases h5 : findO l 5 <;> simp only [go_sem, resO, ov, zeroO]
  all_goals refine vgo_call rfl rfl rfl (resO_val _) (c_find nl c ours 5 (Nat.le_of_lt ho) σ) ?_
  all_goals cases ho5 : findO ours 5 <;> simp only [go_sem, resO, ov, zeroO]
  all_goals cases hi : r.ip <;> simp only [go_sem, Option.isSome_some, Option.isSome_none]
  all_goals try exact .refl _
  all_goals simp only [toNat_beq4]
  all_goals cases h4 : code == 4 <;> simp only [go_sem, toNat_bne3]
  all_goals try (
    refine vgo_call' rfl rfl rfl (c_clone nl c ours (Nat.le_of_lt ho) σ) ?_
    rintro x σ' (⟨rfl, rfl, rfl⟩ | ⟨rfl, rfl, rfl⟩)
    · refine ⟨rfl, ?_⟩
      simp only [go_sem]
      refine vgo_call rfl rfl rfl rfl (c_delete_nil _ _ _ [] _ _) ?_
      simp only [go_sem, copyV]
      exact NE.tupL ⟨.nil _ _ _ _, .refl _, trivial⟩
    · refine ⟨rfl, ?_⟩
      simp only [go_sem]
      refine vgo_call' rfl rfl rfl (c_delete false ours (inO l) _ [] _ ho _ σ.length 0 (get_at _ _) fun o σ' => c_turn1 nl' c' l o hl σ') ?_
      rintro x σ'' ⟨rfl, rfl⟩
      refine ⟨rfl, ?_⟩
      simp only [go_sem, copyV, take_osv]
      exact .refl _)
  all_goals cases hc : code != 3 <;> simp only [go_sem]
  all_goals try exact .refl _
  all_goals refine vgo_call rfl rfl rfl rfl (c_rnumb 5 4 (Nat.le_refl _) r.other _) ?_
  all_goals simp only [go_sem]
  all_goals refine vgo_call rfl rfl rfl rfl (c_put nl c ours (numO 5 4 r.other) ho _) ?_
  all_goals simp only [go_sem]
  all_goals exact .refl _

end Go.VL
