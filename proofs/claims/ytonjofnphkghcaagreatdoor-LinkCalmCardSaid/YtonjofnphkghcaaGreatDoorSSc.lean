/- Contracts of this program's functions over values, joined texts. Conditions: none. -/
import Derived.Test.YtonjofnphkghcaaGreatDoorSSb
import Derived.Test.YtonjofnphkghcaaGreatDoorSSa
set_option linter.unusedVariables false
set_option linter.unusedSimpArgs false
/- Contracts of this program's functions: what each code does. Conditions: none. -/
namespace Go.VL
open Go.Proofs

/-- A call among the changes of a drawn region. -/
theorem ve_call {C : Cfg} {fr : Fr} {σ : St} {o : Oper} {K0 : Fr → St → Prop} {f : Operand} {args : Array Operand} {ats : Array TypeId} {g : FuncId} {first cap : List V} {K : V → St → Prop} (ho : o.op = .call { callee := .value f, args := args, argTypes := ats }) (hf : opv fr f = .fn (.func g) first cap)
    (ha : (args.toList.map (opv fr)).all V.isVal = true) (hc : VCalls C.P g (first ++ args.toList.map (opv fr) ++ cap) σ K) (hk : ∀ r σ', K r σ' → r.isVal = true ∧ K0 (putd fr o r) σ') : ve C fr σ o K0 := by
  unfold ve
  rw [ho]
  simp only
  rw [hf]
  exact ⟨ha, hc.mono hk⟩

theorem findO_mem : ∀ {l : List OV} {t : UInt8} {o : OV}, findO l t = some o → o ∈ l ∧ (o.t == t) = true
  | x :: l, t, o, h => by
    unfold findO at h
    cases e : x.t == t
    · rw [e] at h
      have := findO_mem h
      exact ⟨List.mem_cons_of_mem _ this.1, this.2⟩
    · rw [e] at h
      cases h
      exact ⟨List.mem_cons_self, e⟩
/-- What comes of a handler: the protocol, what is sent and told. -/
abbrev RS := NgV × V × V
def evW (n : NgV) (e : Int) (pid : UInt8) (reply : PkV) : RS := (evN n e, evOV n e pid reply, evTV n e)
def zPk : PkV := ⟨0, 0, true, false, 0, []⟩
def stayW (n : NgV) : RS := (n, nilV, nilV)
def nwR (r : RS) (p : PkV) : List V := nwC r.1 r.2.1 r.2.2 p
theorem ask_enc (r : RV) : encOK (rAsk r) = true := by
  unfold rAsk
  cases r.ip <;> rfl
theorem ev_enc {n : NgV} (h : encOK n.ours = true) (e : Int) : encOK (evN n e).ours = true := by
  unfold evN actN
  cases doneB n e
  · exact h
  · simp only [cond_true]
    cases resetB n.a.st (doA n.a e).2.1
    · exact h
    · exact ask_enc _

/-- An event, without a reply, and its result let go. -/
theorem c_event0 (n : NgV) (p : PkV) (e : Int) (h : 0 ≤ n.a.cnt ∧ n.a.cnt ≤ 5) (hE : encOK n.ours = true) (σ : St) (id : Nat) (hσ : σ[id]? = some (.box (nwR (stayW n) p))) :
    VCalls Tryz.prog 74 [.ptr id 0, .int .i64 e, .agg [.int .u8 0, .int .u8 0, .sl true false 0 []]] σ fun r σ' => r = evLV n e ∧ σ' = σ.set id (.box (nwR (evW n e p.id zPk) p)) :=
  c_event n p zPk e h (ev_enc hE e) σ id hσ
theorem evLV_val (n : NgV) (e : Int) : (evLV n e).isVal = true := by
  unfold evLV
  cases doneB n e <;> rfl

section handlers
variable (n : NgV) (p : PkV) (h : 0 ≤ n.a.cnt ∧ n.a.cnt ≤ 5) (hE : encOK n.ours = true) (σ : St) (id : Nat) (hσ : σ[id]? = some (.box (nwR (stayW n) p)))
include h hE hσ
theorem c_term : VCalls Tryz.prog 142 [.ptr id 0] σ fun r σ' => r = .tup [] ∧ σ' = σ.set id (.box (nwR (evW n 10 p.id zPk) p)) := by
  refine vcalls_keep (C := cfg Tryz.prog [] [] []) (cfg_ok mixed) Tryz.func142 rfl rfl rfl rfl rfl ?_
  simp -implicitDefEqProofs only [go_sem]
  refine vgo_call' rfl rfl rfl (c_event0 n p 10 h hE σ id hσ) ?_
  rintro r σ' ⟨rfl, rfl⟩
  refine ⟨evLV_val _ _, ?_⟩
  simp -implicitDefEqProofs only [go_sem, vendK]
theorem c_termed : VCalls Tryz.prog 143 [.ptr id 0] σ fun r σ' => r = .tup [] ∧ σ' = σ.set id (.box (nwR (evW n 11 p.id zPk) p)) := by
  refine vcalls_keep (C := cfg Tryz.prog [] [] []) (cfg_ok mixed) Tryz.func143 rfl rfl rfl rfl rfl ?_
  simp -implicitDefEqProofs only [go_sem]
  refine vgo_call' rfl rfl rfl (c_event0 n p 11 h hE σ id hσ) ?_
  rintro r σ' ⟨rfl, rfl⟩
  refine ⟨evLV_val _ _, ?_⟩
  simp -implicitDefEqProofs only [go_sem, vendK]
theorem c_rejected (may : Bool) : VCalls Tryz.prog 192 [.ptr id 0, .bool may] σ fun r σ' => r = .tup [] ∧ σ' = σ.set id (.box (nwR (evW n (bif may then 13 else 14) p.id zPk) p)) := by
  refine vcalls_keep (C := cfg Tryz.prog [] [] []) (cfg_ok mixed) Tryz.func192 rfl rfl rfl rfl rfl ?_
  cases may
  · simp -implicitDefEqProofs only [go_sem]
    refine vgo_call' rfl rfl rfl (c_event0 n p 14 h hE σ id hσ) ?_
    rintro r σ' ⟨rfl, rfl⟩
    refine ⟨evLV_val _ _, ?_⟩
    simp -implicitDefEqProofs only [go_sem, vendK, cond_false]
  · simp -implicitDefEqProofs only [go_sem]
    refine vgo_call' rfl rfl rfl (c_event0 n p 13 h hE σ id hσ) ?_
    rintro r σ' ⟨rfl, rfl⟩
    refine ⟨evLV_val _ _, ?_⟩
    simp -implicitDefEqProofs only [go_sem, vendK, cond_true]
omit h hE hσ in
theorem c_nothing : VCalls Tryz.prog 147 [.ptr id 0] σ fun r σ' => r = .tup [] ∧ σ' = σ := by
  refine vcalls_intro (C := cfg Tryz.prog [] [] []) (cfg_ok mixed) Tryz.func147 rfl rfl rfl rfl rfl ?_
  simp -implicitDefEqProofs only [go_sem]

/-- May a code be rejected? -/
def mayC (d : List UInt8) : Bool := match d with
  | [] => true
  | b :: _ => decide ((b.toNat : Int) < 1) || decide ((7 : Int) < (b.toNat : Int))
set_option maxRecDepth 20000 in
theorem c_code (hp : p.sz = 1) : VCalls Tryz.prog 144 [.ptr id 0] σ fun r σ' => r = .tup [] ∧ σ' = σ.set id (.box (nwR (evW n (bif mayC p.d then 13 else 14) p.id zPk) p)) := by
  refine vcalls_keep (C := cfg Tryz.prog [] [] []) (cfg_ok mixed) Tryz.func144 rfl rfl rfl rfl rfl ?_
  have hr := c_rejected n p h hE σ id hσ (mayC p.d)
  have hg := hσ
  simp only [nwR, stayW, nwC, nilV, hp] at hg
  simp -implicitDefEqProofs only [go_sem, hg, bv_length]
  generalize hm : mayC p.d = m at hr
  have fin : ∀ {fr : Fr}, True := trivial
  cases hd : p.d with
  | nil =>
    have hm' : m = true := by rw [← hm, hd]; rfl
    subst hm'
    have e0 : (((([] : List UInt8).length : Nat) : Int) == 0) = true := rfl
    have e0' : (((0 : Nat) : Int) == 0) = true := rfl
    simp -implicitDefEqProofs only [go_sem, e0, e0']
    refine vgo_call' rfl rfl rfl hr ?_
    rintro r σ' ⟨rfl, rfl⟩
    refine ⟨rfl, ?_⟩
    simp -implicitDefEqProofs only [go_sem, vendK]
  | cons b r =>
    have hm' : m = (decide ((b.toNat : Int) < 1) || decide ((7 : Int) < (b.toNat : Int))) := by rw [← hm, hd]; rfl
    have e0 : ((((b :: r).length : Nat) : Int) == 0) = false := by simp; omega
    have e0' : (((r.length + 1 : Nat) : Int) == 0) = false := by simp; omega
    have e1 : (bv (b :: r)).getD 0 .undef = .int .u8 b.toNat := rfl
    have e2 : 0 < (bv (b :: r)).length := by simp [bv]
    have e2' : (0 : Int) < (((bv (b :: r)).length : Nat) : Int) := by omega
    simp -implicitDefEqProofs only [go_sem, e0, e0', e1, e2]
    refine ⟨e2', ?_⟩
    cases q1 : decide ((b.toNat : Int) < 1)
    · rw [q1, Bool.false_or] at hm'
      rw [hm'] at hr ⊢
      simp -implicitDefEqProofs only [go_sem, q1, e1, e2]
      refine ⟨e2', ?_⟩
      refine vgo_call' rfl rfl rfl hr ?_
      rintro r σ' ⟨rfl, rfl⟩
      refine ⟨rfl, ?_⟩
      simp -implicitDefEqProofs only [go_sem, vendK]
    · rw [q1, Bool.true_or] at hm'
      rw [hm'] at hr ⊢
      simp -implicitDefEqProofs only [go_sem, q1, e1, e2]
      refine vgo_call' rfl rfl rfl hr ?_
      rintro r σ' ⟨rfl, rfl⟩
      refine ⟨rfl, ?_⟩
      simp -implicitDefEqProofs only [go_sem, vendK]

omit h hE hσ in
theorem prefix_short {d : List UInt8} (hd : ¬ 2 ≤ d.length) : decide (d.take 2 = [192, 33]) = false := by
  rw [decide_eq_false_iff_not]
  intro e
  have := congrArg List.length e
  simp at this
  omega
omit h hE hσ in
theorem c_hasPrefix (nl c : Bool) (d : List UInt8) (hd : d.length ≤ lim) : VCalls Tryz.prog 193 [.sl nl c 1 (bv d), .sl false true 1 [.int .u8 192, .int .u8 33]] σ fun r σ' => r = .bool (decide (d.take 2 = [192, 33])) ∧ σ' = σ := by
  refine vcalls_intro (C := cfg Tryz.prog [] [] []) (cfg_ok mixed) Tryz.func193 rfl rfl rfl rfl rfl ?_
  have e2 : decide ((2 : Int) ≤ (d.length : Int)) = decide (2 ≤ d.length) := by rw [Bool.eq_iff_iff]; simp; omega
  have e3 : decide (((2 : Nat) : Int) ≤ (d.length : Int)) = decide (2 ≤ d.length) := e2
  simp -implicitDefEqProofs only [go_sem, bv_length, e2, e3]
  cases hl : decide (2 ≤ d.length)
  · rw [prefix_short (of_decide_eq_false hl)]
    simp -implicitDefEqProofs only [go_sem, hl]
  · have h2 : 2 ≤ d.length := of_decide_eq_true hl
    have ht : (bv d).take 2 = bv (d.take 2) := by unfold bv; rw [List.map_take]
    have hb : ([.int .u8 192, .int .u8 33] : List V) = bv [192, 33] := rfl
    simp -implicitDefEqProofs only [go_sem, hl, bv_length]
    refine ⟨h2, ?_⟩
    have hc := c_bytesEqual nl (c && (2 == d.length)) false true (d.take 2) [192, 33] σ
    rw [← ht] at hc
    refine vgo_call rfl rfl rfl rfl hc ?_
    simp -implicitDefEqProofs only [go_sem]
theorem c_proto (hp : p.sz = 1) (hd : p.d.length ≤ lim) : VCalls Tryz.prog 145 [.ptr id 0] σ fun r σ' => r = .tup [] ∧ σ' = σ.set id (.box (nwR (evW n (bif !decide (p.d.take 2 = [192, 33]) then 13 else 14) p.id zPk) p)) := by
  refine vcalls_keep (C := cfg Tryz.prog [] [] []) (cfg_ok mixed) Tryz.func145 rfl rfl rfl rfl rfl ?_
  have hg := hσ
  simp only [nwR, stayW, nwC, nilV, hp] at hg
  simp -implicitDefEqProofs only [go_sem, hg]
  refine vgo_call rfl rfl rfl rfl (c_hasPrefix σ p.nl p.c p.d hd) ?_
  simp -implicitDefEqProofs only [go_sem]
  refine vgo_call' rfl rfl rfl (c_rejected n p h hE σ id hσ _) ?_
  rintro r σ' ⟨rfl, rfl⟩
  refine ⟨rfl, ?_⟩
  simp -implicitDefEqProofs only [go_sem, vendK]
/-- What is asked for is as bytes; a packet's data is these. -/
def ackW (n : NgV) (p : PkV) : RS := bif p.id == n.a.id && decide (encL n.ours = p.d) then evW n 8 p.id zPk else stayW n
theorem c_ack (hp : p.sz = 1) : VCalls Tryz.prog 140 [.ptr id 0] σ fun r σ' => r = .tup [] ∧ σ' = σ.set id (.box (nwR (ackW n p) p)) := by
  refine vcalls_keep (C := cfg Tryz.prog [] [] []) (cfg_ok mixed) Tryz.func140 rfl rfl rfl rfl rfl ?_
  have hs := set_same hσ
  have hg := hσ
  simp only [nwR, stayW, nwC, nilV, hp] at hg
  simp -implicitDefEqProofs only [go_sem, hg]
  refine vgo_call rfl rfl rfl rfl (c_bytesE n.on n.oc hE σ) ?_
  simp -implicitDefEqProofs only [go_sem]
  refine w_walk2 [] [0, 1, 2, 3, 4, 5, 6, 7, 8, 9, 10, 11, 12, 13, 14, 15, 16, 17, 18, 19, 20] [13, 14, 15, 16, 17, 18, 19, 20, 21, 22, 23, 24, 25, 26, 27, 28, 29, 30, 31, 32, 33] [0, 1, 3, 7, 15, 0, 32, 96, 224, 480, 992, 2047, 4095, 8191, 8191, 24575, 57343, 122879, 253951, 524287, 1048575] rfl rfl rfl rfl ?_
  simp -implicitDefEqProofs only [go_sem, hg, toNat_beq]
  unfold ackW
  cases e1 : p.id == n.a.id
  · simp -implicitDefEqProofs only [go_sem, vendK, Bool.false_and, cond_false]
    exact hs
  · simp -implicitDefEqProofs only [go_sem, hg]
    refine vdgo_call rfl rfl rfl rfl (c_bytesEqual _ _ _ _ (encL n.ours) p.d σ) ?_
    cases e2 : decide (encL n.ours = p.d)
    · simp -implicitDefEqProofs only [go_sem, vendK, Bool.and_false, cond_false]
      exact hs
    · simp -implicitDefEqProofs only [go_sem, Bool.and_self, cond_true]
      refine vgo_call' rfl rfl rfl (c_event0 n p 8 h hE σ id hσ) ?_
      rintro r σ' ⟨rfl, rfl⟩
      refine ⟨evLV_val _ _, ?_⟩
      simp -implicitDefEqProofs only [go_sem, vendK]

/-- Our magic number. -/
def magicN (n : NgV) : UInt32 := bif n.r.ip then 0 else match findO n.ours 5 with
  | some o => numU o.d
  | none => 0
omit h hσ in
theorem c_magic : VCalls Tryz.prog 68 [ngv n] σ fun r σ' => r = .int .u32 (magicN n).toNat ∧ σ' = σ := by
  refine vcalls_intro (C := cfg Tryz.prog [] [] []) (cfg_ok mixed) Tryz.func68 rfl rfl rfl rfl rfl ?_
  have hl : n.ours.length ≤ lim := by have := enc_len hE; unfold lim; omega
  simp -implicitDefEqProofs only [go_sem, ngv, ngC]
  refine vgo_call rfl rfl rfl (resO_val _) (c_find n.on n.oc n.ours 5 hl σ) ?_
  unfold magicN
  cases hf : findO n.ours 5 with
  | none =>
    cases hi : n.r.ip
    · simp -implicitDefEqProofs only [go_sem, resO, zeroO, hi, cond_false]
      refine vgo_call rfl rfl rfl rfl ((c_number' true false [] (Nat.zero_le _) σ).ne ⟨.nil _ _ _ _, trivial⟩) ?_
      simp -implicitDefEqProofs only [go_sem]
      rfl
    · simp -implicitDefEqProofs only [go_sem, resO, zeroO, hi, cond_true]
      rfl
  | some o =>
    cases hi : n.r.ip
    · simp -implicitDefEqProofs only [go_sem, resO, ov, hi, cond_false]
      refine vgo_call rfl rfl rfl rfl (c_number' o.nl o.c o.d (enc_data hE o (findO_mem hf).1) σ) ?_
      simp -implicitDefEqProofs only [go_sem]
    · simp -implicitDefEqProofs only [go_sem, resO, ov, hi, cond_true]
      rfl
/-- What an Echo-Request is answered with. -/
def echoP (n : NgV) (p : PkV) : PkV := ⟨10, p.id, false, false, 1, fourB (magicN n) ++ p.d.drop 4⟩
def echoW (n : NgV) (p : PkV) : RS := bif decide (4 ≤ p.d.length) then (evN n 15, evOV n 15 p.id (echoP n p), evTV n 15) else stayW n
theorem c_echo (hp : p.sz = 1) (hd : p.d.length ≤ 1500) : VCalls Tryz.prog 146 [.ptr id 0] σ fun r σ' => r = .tup [] ∧ σ' = σ.set id (.box (nwR (echoW n p) p)) := by
  refine vcalls_keep (C := cfg Tryz.prog [] [] [23]) (cfg_ok mixed) Tryz.func146 rfl rfl rfl rfl rfl ?_
  have hs := set_same hσ
  have hg := hσ
  simp only [nwR, stayW, nwC, nilV, hp] at hg
  have e4 : decide ((4 : Int) ≤ (p.d.length : Int)) = decide (4 ≤ p.d.length) := by rw [Bool.eq_iff_iff]; simp; omega
  simp -implicitDefEqProofs only [go_sem, hg, bv_length, e4]
  unfold echoW
  cases hl : decide (4 ≤ p.d.length)
  · simp -implicitDefEqProofs only [go_sem, hl, vendK, cond_false]
    exact hs
  · have h4 : 4 ≤ p.d.length := of_decide_eq_true hl
    have hmg := c_magic n hE σ
    unfold ngv ngC at hmg
    simp -implicitDefEqProofs only [go_sem, hl, cond_true]
    refine w_walk2 [14, 16] [0, 1, 2, 3, 4, 5, 6, 7, 8, 9, 10, 11, 12, 13, 14, 15, 16] [9, 10, 11, 12, 13, 14, 15, 16, 17, 18, 19, 20, 21, 22, 24] [0, 0, 0, 4, 12, 28, 60, 124, 0, 256, 768, 1792, 3840, 7936, 16380, 32766, 65535] rfl rfl rfl rfl ?_
    simp -implicitDefEqProofs only [go_sem, hg]
    refine vdgo_call rfl rfl rfl rfl hmg ?_
    simp -implicitDefEqProofs only [go_sem, hg]
    refine vdgo_call rfl rfl rfl rfl (c_four' (magicN n) σ) ?_
    simp -implicitDefEqProofs only [go_sem, hg, bv_length]
    have htd : bv (fourB (magicN n)) ++ List.drop 4 (List.take p.d.length (bv p.d)) = bv (fourB (magicN n) ++ p.d.drop 4) := by
      rw [List.take_of_length_le (Nat.le_of_eq (bv_length p.d))]
      unfold bv
      rw [List.map_append, List.map_drop]
    have hf4 : (fourB (magicN n)).length = 4 := rfl
    have hre := c_reply n nilV nilV p 10 false false 1 (fourB (magicN n) ++ p.d.drop 4) σ id hσ
    refine ⟨by omega, Nat.le_refl _, by rw [hf4]; simp [bv]; unfold lim; omega, ?_⟩
    rw [htd]
    refine vdgo_call rfl rfl rfl rfl hre ?_
    simp -implicitDefEqProofs only [go_sem, pkv, pkC]
    refine ve_call rfl rfl rfl (c_event n p (echoP n p) 15 h (ev_enc hE 15) σ id hσ) ?_
    rintro r σ' ⟨rfl, rfl⟩
    refine ⟨evLV_val _ _, ?_⟩
    simp -implicitDefEqProofs only [go_sem, vendK]
    rfl

/-- Behind a ConfNak or a ConfRej. -/
def turnP (n : NgV) (code : UInt8) (l : List OV) : Option (List OV × Bool × Bool) :=
  bif !n.r.ip && (findO l 3).isSome then none else
  bif code == 4 then some (if n.on then [] else keepO (inO l) n.ours, n.on, false) else
  bif code != 3 then none else
  bif !n.r.ip && (findO l 5).isSome && (findO n.ours 5).isSome then some (putO n.ours (numO 5 4 n.r.other), false, false) else
  some (n.ours, n.on, n.oc)
def nakW (n : NgV) (p : PkV) : RS := match parse p.nl [] p.d with
  | none => stayW n
  | some l => bif p.id == n.a.id then (match turnP n p.code l with
    | none => evW n 3 p.id zPk
    | some (o, on, oc) => evW { n with ours := o, on := on, oc := oc } 9 p.id zPk) else stayW n
omit h hE hσ in
theorem turn_eq (code : UInt8) (l : List OV) : turnV n.r n.on n.oc n.ours code l = match turnP n code l with
    | none => .tup [.sl n.on n.oc 2 (osv n.ours), .bool false]
    | some (o, on, oc) => .tup [.sl on oc 2 (osv o), .bool true] := by
  unfold turnV turnP
  cases !n.r.ip && (findO l 3).isSome
  · cases code == 4
    · cases code != 3
      · cases !n.r.ip && (findO l 5).isSome && (findO n.ours 5).isSome <;> rfl
      · rfl
    · unfold copyV
      cases n.on <;> rfl
  · rfl
/-- What Read hands back. -/
def rowV : List OV → V
  | [] => .sl true false 0 []
  | x :: l => .sl false false 2 (osv (x :: l))
omit h hE hσ in
theorem readV_some (l : List OV) : readV (some l) = .tup [rowV l, .int .i64 0] := by cases l <;> rfl
omit h hE hσ in
theorem c_turnR (code : UInt8) (l : List OV) (ho : n.ours.length < lim) (hl : l.length ≤ lim) : VCalls Tryz.prog 191 [rv n.r, .sl n.on n.oc 2 (osv n.ours), .int .u8 code.toNat, rowV l] σ fun x σ' => x = turnV n.r n.on n.oc n.ours code l ∧ σ' = σ := by
  cases l with
  | nil => exact (c_turn n.r n.on n.oc true false n.ours [] code ho hl σ).ne ⟨.refl _, .refl _, .refl _, .nil _ _ _ _, trivial⟩
  | cons x l => exact c_turn n.r n.on n.oc false false n.ours (x :: l) code ho hl σ
omit h hE hσ in
theorem parse_len {nl : Bool} {d : List UInt8} {l : List OV} (h : parse nl [] d = some l) : l.length ≤ d.length ∧ ∀ o ∈ l, o.d.length ≤ 253 := by
  obtain ⟨l', h1, h2, h3, h4⟩ := enc_parse nl d.length d [] l (Nat.le_refl _) h
  rw [List.nil_append] at h1
  subst h1
  refine ⟨?_, h3⟩
  rw [← h2]
  clear h h2 h3 h4
  induction l with
  | nil => simp
  | cons o l ih =>
    have : encL (o :: l) = encO o ++ encL l := rfl
    rw [this]
    simp [encO]
    omega
set_option maxHeartbeats 4000000 in
set_option maxRecDepth 20000 in
theorem c_nak (hp : p.sz = 1) (hd : p.d.length ≤ 1500) (hT : ∀ l o on oc, parse p.nl [] p.d = some l → turnP n p.code l = some (o, on, oc) → encOK o = true) : VCalls Tryz.prog 141 [.ptr id 0] σ fun r σ' => r = .tup [] ∧ σ' = σ.set id (.box (nwR (nakW n p) p)) := by
  refine vcalls_keep (C := cfg Tryz.prog [] [] []) (cfg_ok mixed) Tryz.func141 rfl rfl rfl rfl rfl ?_
  have hs := set_same hσ
  have hg := hσ
  have hid : id < σ.length := lt_of_some hσ
  simp only [nwR, stayW, nwC, nilV, hp] at hg
  have hlo : n.ours.length < lim := by have := enc_len hE; unfold lim; omega
  simp -implicitDefEqProofs only [go_sem, hg]
  unfold nakW
  cases hq : parse p.nl [] p.d with
  | none =>
    refine vgo_call rfl rfl rfl rfl (c_read' p.nl p.c p.d hq (by unfold lim; omega) σ) ?_
    simp -implicitDefEqProofs only [go_sem, readV]
    refine w_walk2 [] [0, 1, 2, 3, 4, 5, 6, 7, 8, 9, 10, 11, 12, 13, 14, 15] [15, 16, 17, 18, 19, 20, 21, 22, 23, 24, 25, 26, 27, 28, 29, 30] [0, 1, 3, 7, 15, 0, 32, 96, 224, 480, 992, 2047, 4095, 8191, 16383, 32767] rfl rfl rfl rfl ?_
    simp -implicitDefEqProofs only [go_sem, hg, bne, toNat_beq]
    cases e1 : p.id == n.a.id
    · simp -implicitDefEqProofs only [go_sem, e1, vendK, Bool.not_false]
      exact hs
    · simp -implicitDefEqProofs only [go_sem, e1, vendK, Bool.not_true]
      exact hs
  | some l =>
    have hrl := parse_len hq
    have hrow : ∃ nl c sz es, rowV l = .sl nl c sz es := by cases l <;> exact ⟨_, _, _, _, rfl⟩
    have htu := c_turnR n σ p.code l hlo (by unfold lim; omega)
    have hcr := c_read' p.nl p.c p.d hq (by unfold lim; omega) σ
    rw [readV_some] at hcr
    rw [turn_eq] at htu
    obtain ⟨r1, r2, r3, r4, hre⟩ := hrow
    rw [hre] at hcr htu
    refine vgo_call rfl rfl rfl rfl hcr ?_
    simp -implicitDefEqProofs only [go_sem]
    refine w_walk2 [] [0, 1, 2, 3, 4, 5, 6, 7, 8, 9, 10, 11, 12, 13, 14, 15] [15, 16, 17, 18, 19, 20, 21, 22, 23, 24, 25, 26, 27, 28, 29, 30] [0, 1, 3, 7, 15, 0, 32, 96, 224, 480, 992, 2047, 4095, 8191, 16383, 32767] rfl rfl rfl rfl ?_
    simp -implicitDefEqProofs only [go_sem, hg, bne, toNat_beq]
    cases e1 : p.id == n.a.id
    · simp -implicitDefEqProofs only [go_sem, e1, vendK, Bool.not_false, cond_false]
      exact hs
    · simp -implicitDefEqProofs only [go_sem, e1, Bool.not_true, cond_true]
      unfold rv rvC at htu
      refine w_walk2 [20, 21] [0, 1, 2, 3, 4, 5, 6, 7, 8, 9, 10, 11, 12, 13, 14, 15, 16, 17, 18, 19, 20, 21] [32, 33, 34, 35, 36, 37, 38, 39, 40, 41, 42, 43, 44, 45, 46, 47, 48, 31, 49, 50] [0, 1, 3, 7, 15, 0, 32, 96, 224, 480, 0, 1024, 3072, 7168, 15360, 0, 65535, 131071, 262143, 262143, 524287, 2097151] rfl rfl rfl rfl ?_
      simp -implicitDefEqProofs only [go_sem, hg]
      cases ht : turnP n p.code l with
      | none =>
        rw [ht] at htu
        refine vdgo_call rfl rfl rfl rfl htu ?_
        simp -implicitDefEqProofs only [go_sem]
        refine vgo_call' rfl rfl rfl (c_event0 n p 3 h hE σ id hσ) ?_
        rintro r σ' ⟨rfl, rfl⟩
        refine ⟨evLV_val _ _, ?_⟩
        simp -implicitDefEqProofs only [go_sem, vendK]
      | some x =>
        obtain ⟨o, on, oc⟩ := x
        rw [ht] at htu
        have hoE := hT l o on oc hq ht
        refine vdgo_call rfl rfl rfl rfl htu ?_
        simp -implicitDefEqProofs only [go_sem, hg]
        have hset : (σ.set id (.box (nwR (stayW { n with ours := o, on := on, oc := oc }) p)))[id]? = some (.box (nwR (stayW { n with ours := o, on := on, oc := oc }) p)) := by simp [hid]
        have hev := c_event0 { n with ours := o, on := on, oc := oc } p 9 h hoE _ id hset
        simp only [nwR, stayW, nwC, nilV, hp] at hev
        refine vgo_call' rfl rfl rfl hev ?_
        rintro r σ' ⟨rfl, rfl⟩
        refine ⟨evLV_val _ _, ?_⟩
        simp -implicitDefEqProofs only [go_sem, vendK, List.set_set]
        unfold nwR nwC
        rw [hp]
end handlers

end Go.VL

/- Contracts of this program's functions: what a Configure-Request does. Conditions: none. -/
namespace Go.VL
open Go.Proofs

/-- A reply with options. -/
def repP (code id : UInt8) (m : List OV) : PkV := bif encOK m then ⟨code, id, m.isEmpty, false, 1, encL m⟩ else ⟨code, id, true, false, 0, []⟩
theorem bytes_rep (code id : UInt8) (m : List OV) : bytesV' m = .tup [.sl (repP code id m).nl (repP code id m).c (repP code id m).sz (bv (repP code id m).d), .int .i64 (bif encOK m then 0 else 1)] := by
  unfold bytesV' repP
  change (bif encOK m then _ else _) = _
  cases encOK m <;> rfl
theorem rep_code (code id : UInt8) (m : List OV) : (repP code id m).code = code ∧ (repP code id m).id = id := by
  unfold repP
  cases encOK m <;> exact ⟨rfl, rfl⟩
theorem fix_small (r : RV) (o : OV) (h : o.d.length ≤ 253) : (fixO r o).d.length ≤ 253 := by
  unfold fixO
  cases kOf r o.t with
  | none => simp; try exact h
  | some k =>
    show ((fourB k.should).drop (4 - k.long)).length ≤ 253
    have : (fourB k.should).length = 4 := rfl
    simp only [List.length_drop]
    omega
theorem ans_small (r : RV) (l : List OV) (naks : Int) (h : ∀ o ∈ l, o.d.length ≤ 253) : (ansP r l naks).2.length ≤ l.length + 1 ∧ ∀ o ∈ (ansP r l naks).2, o.d.length ≤ 253 := by
  have hf : ∀ (q : OV → Bool), (l.filter q).length ≤ l.length + 1 ∧ ∀ o ∈ l.filter q, o.d.length ≤ 253 := fun q => ⟨Nat.le_trans (List.length_filter_le _ _) (Nat.le_succ _), fun o ho => h o (List.mem_filter.1 ho).1⟩
  unfold ansP
  cases !(refL r l (decide (3 ≤ naks))).isEmpty
  · cases !decide (3 ≤ naks) && !(toL r l).isEmpty
    · exact ⟨Nat.le_succ _, h⟩
    · simp only [cond_true, cond_false]
      unfold toL
      refine ⟨?_, fun o ho => ?_⟩
      · rw [List.length_append, List.length_map]
        have := List.length_filter_le (fun o => isK r o && notO r o) l
        unfold asL
        cases r.ip && (l.find? (knownB true)).isNone <;> simp <;> omega
      · rcases List.mem_append.1 ho with ho | ho
        · obtain ⟨x, hx, rfl⟩ := List.mem_map.1 ho
          exact fix_small r x (h x (List.mem_filter.1 hx).1)
        · cases hc : r.ip && (l.find? (knownB true)).isNone
          · rw [hc] at ho; simp at ho
          · rw [hc] at ho
            have := List.mem_singleton.1 ho
            rw [this]
            show ((fourB r.addr).drop (4 - 4)).length ≤ 253
            simp [fourB]
  · simp only [cond_true]
    unfold refL
    cases decide (3 ≤ naks) && (oddL r l).isEmpty
    · exact hf _
    · exact hf _

theorem c_answerR (r : RV) (l : List OV) (naks : Int) (hl : l.length < lim) (hd : smallD l) (σ : St) :
    VCalls Tryz.prog 188 [rv r, rowV l, .int .i64 naks] σ fun x σ' => x = ansV l.isEmpty false (ansP r l naks) ∧ σ' = σ := by
  cases l with
  | nil => exact (c_answer r true false [] naks hl hd σ).ne ⟨.refl _, .nil _ _ _ _, .refl _, trivial⟩
  | cons x l => exact c_answer r false false (x :: l) naks hl hd σ
def ansN (l : List OV) (x : UInt8 × List OV) : Bool := bif x.1 == 2 then l.isEmpty else false
theorem ansV_eq (l : List OV) (x : UInt8 × List OV) : ansV l.isEmpty false x = .tup [.int .u8 x.1.toNat, .sl (ansN l x) false 2 (osv x.2)] := by
  unfold ansV ansN
  cases x.1 == 2 <;> rfl

theorem evL_len (n : NgV) (e : Int) : (evL n e).length ≤ 10 := by
  unfold evL
  cases hd : doneB n e
  · simp
  · simp only [cond_true]
    rw [(do_done hd).2]
    exact next_len _ _
theorem c_answersE (n : NgV) (e : Int) (σ : St) : VCalls Tryz.prog 190 [evLV n e] σ fun r σ' => r = .bool (decide ((8 : Int) ∈ evL n e) || decide ((9 : Int) ∈ evL n e)) ∧ σ' = σ := by
  have hl := evL_len n e
  cases hd : doneB n e
  · have h1 : evLV n e = .sl true false 0 [] := by unfold evLV; rw [hd]; rfl
    have h2 : evL n e = [] := by unfold evL; rw [hd]; rfl
    rw [h1, h2]
    exact (c_answers true false [] (Nat.zero_le _) σ).ne ⟨.nil _ _ _ _, trivial⟩
  · have h1 : evLV n e = .sl (evL n e).isEmpty false 1 (zv64 (evL n e)) := by unfold evLV; rw [hd]; rfl
    rw [h1]
    exact c_answers _ _ _ (by unfold lim; omega) σ
theorem evLV_sl (n : NgV) (e : Int) : ∃ a b c d, evLV n e = .sl a b c d := by
  unfold evLV
  cases doneB n e <;> exact ⟨_, _, _, _, rfl⟩
theorem ev_naks {n : NgV} (h : 0 ≤ n.naks ∧ n.naks ≤ 3) (e : Int) : 0 ≤ (evN n e).naks ∧ (evN n e).naks ≤ 3 := by
  unfold evN actN
  cases doneB n e
  · exact h
  · simp only [cond_true]
    cases resetB n.a.st (doA n.a e).2.1
    · exact h
    · exact ⟨Int.le_refl _, by show (0 : Int) ≤ 3; omega⟩
theorem row_eq (l : List OV) : rowV l = .sl l.isEmpty false (bif l.isEmpty then 0 else 2) (osv l) := by cases l <;> rfl
theorem rep_eta (code id : UInt8) (m : List OV) : (⟨code, id, (repP code id m).nl, (repP code id m).c, (repP code id m).sz, (repP code id m).d⟩ : PkV) = repP code id m := by
  unfold repP
  cases encOK m <;> rfl
def reqN (n : NgV) : NgV := bif n.a.st == 3 then { n with naks := 0 } else n
def reqE (n : NgV) (l : List OV) : Int := bif (ansP n.r l n.naks).1 == 2 then 6 else 7
def reqW (n : NgV) (p : PkV) : RS := match parse p.nl [] p.d with
  | none => stayW n
  | some l =>
    let n1 := reqN n
    let x := ansP n1.r l n1.naks
    let r : RS := evW n1 (reqE n1 l) p.id (repP x.1 p.id x.2)
    bif decide ((8 : Int) ∈ evL n1 (reqE n1 l)) || decide ((9 : Int) ∈ evL n1 (reqE n1 l)) then
      (bif x.1 == 2 then ({ r.1 with naks := 0, peer := l, pn := l.isEmpty, pc := false, ps := bif l.isEmpty then 0 else 2 }, r.2) else
       bif x.1 == 3 then ({ r.1 with naks := min (r.1.naks + 1) 3 }, r.2) else r)
    else r

set_option maxHeartbeats 4000000 in
set_option maxRecDepth 20000 in
theorem c_request (n : NgV) (p : PkV) (h : 0 ≤ n.a.cnt ∧ n.a.cnt ≤ 5) (hk : 0 ≤ n.naks ∧ n.naks ≤ 3) (hE : encOK n.ours = true) (σ : St) (id : Nat) (hσ : σ[id]? = some (.box (nwR (stayW n) p))) (hp : p.sz = 1) (hd : p.d.length ≤ 1500) :
    VCalls Tryz.prog 139 [.ptr id 0] σ fun r σ' => r = .tup [] ∧ σ' = σ.set id (.box (nwR (reqW n p) p)) := by
  refine vcalls_keep (C := cfg Tryz.prog [] [] []) (cfg_ok mixed) Tryz.func139 rfl rfl rfl rfl rfl ?_
  have hs := set_same hσ
  have hg := hσ
  have hid : id < σ.length := lt_of_some hσ
  have hgs : ∀ x : VO, (σ.set id x)[id]? = some x := fun x => by simp [hid]
  simp only [nwR, stayW, nwC, nilV, hp] at hg
  simp -implicitDefEqProofs only [go_sem, hg]
  unfold reqW
  cases hq : parse p.nl [] p.d with
  | none =>
    refine vgo_call rfl rfl rfl rfl (c_read' p.nl p.c p.d hq (by unfold lim; omega) σ) ?_
    simp -implicitDefEqProofs only [go_sem, readV, bne, vendK]
    exact hs
  | some l =>
    have hrl := parse_len hq
    have hrow : ∃ nl c sz es, rowV l = .sl nl c sz es := by cases l <;> exact ⟨_, _, _, _, rfl⟩
    have hcr := c_read' p.nl p.c p.d hq (by unfold lim; omega) σ
    rw [readV_some] at hcr
    have hN : (reqN n).a = n.a ∧ (reqN n).r = n.r ∧ (reqN n).ours = n.ours ∧ 0 ≤ (reqN n).naks ∧ (reqN n).naks ≤ 3 := by
      unfold reqN
      cases n.a.st == 3
      · exact ⟨rfl, rfl, rfl, hk.1, hk.2⟩
      · exact ⟨rfl, rfl, rfl, Int.le_refl _, by show (0 : Int) ≤ 3; omega⟩
    have hn1 : reqN n = bif n.a.st == 3 then { n with naks := 0 } else n := rfl
    generalize reqN n = n1 at hN hn1
    obtain ⟨n_a, n_r, n_o, n_k1, n_k2⟩ := hN
    have h' : 0 ≤ n1.a.cnt ∧ n1.a.cnt ≤ 5 := by rw [n_a]; exact h
    have hE' : encOK n1.ours = true := by rw [n_o]; exact hE
    have hsm := ans_small n1.r l n1.naks hrl.2
    simp only
    obtain ⟨r1, r2, r3, r4, hre⟩ := hrow
    rw [hre] at hcr
    refine vgo_call rfl rfl rfl rfl hcr ?_
    simp -implicitDefEqProofs only [go_sem, hg, bne]
    have han := fun σ => c_answerR n1.r l n1.naks (by unfold lim; omega) (fun o ho => by have := hrl.2 o ho; unfold lim; omega) σ
    rw [hre] at han
    generalize hx : ansP n1.r l n1.naks = x at han hsm
    have hby := fun σ => c_bytes (ansN l x) false x.2 (by omega) (fun o ho => by have := hsm.2 o ho; unfold lim; omega) σ
    rw [bytes_rep x.1 p.id x.2] at hby
    have hxe : reqE n1 l = bif x.1 == 2 then 6 else 7 := by unfold reqE; rw [hx]
    have t2 : ((x.1.toNat : Int) == 2) = (x.1 == 2) := toNat_beq x.1 2
    have t3 : ((x.1.toNat : Int) == 3) = (x.1 == 3) := toNat_beq x.1 3
    cases e3 : n.a.st == 3
    · rw [e3] at hn1
      have hg0 : σ[id]? = some (.box (nwR (stayW n1) p)) := by rw [hn1]; exact hσ
      have hss : ∀ x : VO, σ.set id x = σ.set id x := fun _ => rfl
      simp -implicitDefEqProofs only [go_sem, e3]
      have hg1 := hg0
      simp only [nwR, stayW, nwC, nilV, hp] at hg1
      unfold rv rvC at han
      refine w_walk2 [15, 16] [0, 1, 2, 3, 4, 5, 6, 7, 8, 9, 10, 11, 12, 13, 14, 15, 16] [33, 34, 35, 36, 37, 38, 39, 40, 41, 42, 43, 44, 32, 45, 46] [0, 1, 3, 7, 15, 0, 0, 64, 192, 448, 960, 2047, 4095, 8191, 8191, 16383, 65535] rfl rfl rfl rfl ?_
      simp -implicitDefEqProofs only [go_sem, hg1]
      refine vdgo_call rfl rfl rfl rfl (han _) ?_
      simp -implicitDefEqProofs only [go_sem, ansV_eq]
      refine vgo_call rfl rfl rfl rfl (hby _) ?_
      simp -implicitDefEqProofs only [go_sem, t2]
      have hrp := c_reply n1 nilV nilV p x.1 (repP x.1 p.id x.2).nl (repP x.1 p.id x.2).c (repP x.1 p.id x.2).sz (repP x.1 p.id x.2).d _ id hg0
      rw [rep_eta] at hrp
      have hgS : ∀ x : VO, (List.set _ id x)[id]? = some x := fun x => set_self hg0
      cases e2 : x.1 == 2
      · rw [e2] at hxe
        simp -implicitDefEqProofs only [go_sem, e2]
        refine vgo_call rfl rfl rfl rfl hrp ?_
        simp -implicitDefEqProofs only [go_sem, pkv, pkC]
        refine vgo_call' rfl rfl rfl (c_event n1 p (repP x.1 p.id x.2) 7 h' (ev_enc hE' 7) _ id hg0) ?_
        rintro r σ' ⟨rfl, rfl⟩
        refine ⟨evLV_val _ _, ?_⟩
        have hca := c_answersE n1 7
        obtain ⟨v1, v2, v3, v4, hlv⟩ := evLV_sl n1 7
        rw [hlv] at hca ⊢
        rw [hxe]
        simp -implicitDefEqProofs only [go_sem, cond_true, cond_false]
        refine vgo_call rfl rfl rfl rfl (hca _) ?_
        cases ea : (decide ((8 : Int) ∈ evL n1 7) || decide ((9 : Int) ∈ evL n1 7))
        · simp -implicitDefEqProofs only [go_sem, vendK, cond_false]
          exact hss _
        · simp -implicitDefEqProofs only [go_sem, e2, t2, t3, cond_true, cond_false]
          cases e3' : x.1 == 3
          · simp -implicitDefEqProofs only [go_sem, vendK, e3', cond_false]
            exact hss _
          · have hnk := ev_naks ⟨n_k1, n_k2⟩ 7
            have hwk : IntKind.i64.wrap ((evN n1 7).naks + 1) = (evN n1 7).naks + 1 := by rw [IntKind.wrap_i64]; omega
            have hmn : (if 3 < (evN n1 7).naks + 1 then 3 else (evN n1 7).naks + 1) = min ((evN n1 7).naks + 1) 3 := by omega
            simp -implicitDefEqProofs only [go_sem, nwC, hgS, vendK, e3', hwk, hmn, cond_true, List.set_set]
            exact hss _
      · rw [e2] at hxe
        simp -implicitDefEqProofs only [go_sem, e2]
        refine vgo_call rfl rfl rfl rfl hrp ?_
        simp -implicitDefEqProofs only [go_sem, pkv, pkC]
        refine vgo_call' rfl rfl rfl (c_event n1 p (repP x.1 p.id x.2) 6 h' (ev_enc hE' 6) _ id hg0) ?_
        rintro r σ' ⟨rfl, rfl⟩
        refine ⟨evLV_val _ _, ?_⟩
        have hca := c_answersE n1 6
        obtain ⟨v1, v2, v3, v4, hlv⟩ := evLV_sl n1 6
        rw [hlv] at hca ⊢
        rw [hxe]
        simp -implicitDefEqProofs only [go_sem, cond_true, cond_false]
        refine vgo_call rfl rfl rfl rfl (hca _) ?_
        cases ea : (decide ((8 : Int) ∈ evL n1 6) || decide ((9 : Int) ∈ evL n1 6))
        · simp -implicitDefEqProofs only [go_sem, vendK, cond_false]
          exact hss _
        · simp -implicitDefEqProofs only [go_sem, e2, t2, t3, nwC, hgS, vendK, cond_true, cond_false, List.set_set]
          rw [← hre, row_eq]
          exact hss _
    · rw [e3] at hn1
      have hg0 : (σ.set id (VO.box [.int .i64 n.a.st, .int .i64 n.a.cnt, .int .i64 n.a.left, .int .u8 n.a.id.toNat, .bool n.r.ip, .int .u32 n.r.magic.toNat, .int .u32 n.r.other.toNat, .int .u32 n.r.addr.toNat, .int .u32 n.r.ours.toNat, .sl n.on n.oc 2 (osv n.ours), .int .i64 0, .sl n.pn n.pc n.ps (osv n.peer), nilV, nilV, .int .u8 p.code.toNat, .int .u8 p.id.toNat, .sl p.nl p.c 1 (bv p.d)]))[id]? = some (.box (nwR (stayW n1) p)) := by
        rw [hgs, hn1]
        unfold nwR stayW nwC
        rw [hp]
        rfl
      have hss0 : ∀ x y : VO, (σ.set id y).set id x = σ.set id x := fun x y => by simp
      simp -implicitDefEqProofs only [go_sem, e3, hg]
      simp only [nilV] at hg0
      generalize hS : σ.set id (VO.box [.int .i64 n.a.st, .int .i64 n.a.cnt, .int .i64 n.a.left, .int .u8 n.a.id.toNat, .bool n.r.ip, .int .u32 n.r.magic.toNat, .int .u32 n.r.other.toNat, .int .u32 n.r.addr.toNat, .int .u32 n.r.ours.toNat, .sl n.on n.oc 2 (osv n.ours), .int .i64 0, .sl n.pn n.pc n.ps (osv n.peer), .sl true false 0 [], .sl true false 0 [], .int .u8 p.code.toNat, .int .u8 p.id.toNat, .sl p.nl p.c 1 (bv p.d)]) = S at hg0 ⊢
      have hss : ∀ x : VO, S.set id x = σ.set id x := fun x => by rw [← hS]; exact hss0 _ _
      have hg1 := hg0
      simp only [nwR, stayW, nwC, nilV, hp] at hg1
      unfold rv rvC at han
      refine w_walk2 [15, 16] [0, 1, 2, 3, 4, 5, 6, 7, 8, 9, 10, 11, 12, 13, 14, 15, 16] [33, 34, 35, 36, 37, 38, 39, 40, 41, 42, 43, 44, 32, 45, 46] [0, 1, 3, 7, 15, 0, 0, 64, 192, 448, 960, 2047, 4095, 8191, 8191, 16383, 65535] rfl rfl rfl rfl ?_
      simp -implicitDefEqProofs only [go_sem, hg1]
      refine vdgo_call rfl rfl rfl rfl (han _) ?_
      simp -implicitDefEqProofs only [go_sem, ansV_eq]
      refine vgo_call rfl rfl rfl rfl (hby _) ?_
      simp -implicitDefEqProofs only [go_sem, t2]
      have hrp := c_reply n1 nilV nilV p x.1 (repP x.1 p.id x.2).nl (repP x.1 p.id x.2).c (repP x.1 p.id x.2).sz (repP x.1 p.id x.2).d _ id hg0
      rw [rep_eta] at hrp
      have hgS : ∀ x : VO, (List.set _ id x)[id]? = some x := fun x => set_self hg0
      cases e2 : x.1 == 2
      · rw [e2] at hxe
        simp -implicitDefEqProofs only [go_sem, e2]
        refine vgo_call rfl rfl rfl rfl hrp ?_
        simp -implicitDefEqProofs only [go_sem, pkv, pkC]
        refine vgo_call' rfl rfl rfl (c_event n1 p (repP x.1 p.id x.2) 7 h' (ev_enc hE' 7) _ id hg0) ?_
        rintro r σ' ⟨rfl, rfl⟩
        refine ⟨evLV_val _ _, ?_⟩
        have hca := c_answersE n1 7
        obtain ⟨v1, v2, v3, v4, hlv⟩ := evLV_sl n1 7
        rw [hlv] at hca ⊢
        rw [hxe]
        simp -implicitDefEqProofs only [go_sem, cond_true, cond_false]
        refine vgo_call rfl rfl rfl rfl (hca _) ?_
        cases ea : (decide ((8 : Int) ∈ evL n1 7) || decide ((9 : Int) ∈ evL n1 7))
        · simp -implicitDefEqProofs only [go_sem, vendK, cond_false]
          exact hss _
        · simp -implicitDefEqProofs only [go_sem, e2, t2, t3, cond_true, cond_false]
          cases e3' : x.1 == 3
          · simp -implicitDefEqProofs only [go_sem, vendK, e3', cond_false]
            exact hss _
          · have hnk := ev_naks ⟨n_k1, n_k2⟩ 7
            have hwk : IntKind.i64.wrap ((evN n1 7).naks + 1) = (evN n1 7).naks + 1 := by rw [IntKind.wrap_i64]; omega
            have hmn : (if 3 < (evN n1 7).naks + 1 then 3 else (evN n1 7).naks + 1) = min ((evN n1 7).naks + 1) 3 := by omega
            simp -implicitDefEqProofs only [go_sem, nwC, hgS, vendK, e3', hwk, hmn, cond_true, List.set_set]
            exact hss _
      · rw [e2] at hxe
        simp -implicitDefEqProofs only [go_sem, e2]
        refine vgo_call rfl rfl rfl rfl hrp ?_
        simp -implicitDefEqProofs only [go_sem, pkv, pkC]
        refine vgo_call' rfl rfl rfl (c_event n1 p (repP x.1 p.id x.2) 6 h' (ev_enc hE' 6) _ id hg0) ?_
        rintro r σ' ⟨rfl, rfl⟩
        refine ⟨evLV_val _ _, ?_⟩
        have hca := c_answersE n1 6
        obtain ⟨v1, v2, v3, v4, hlv⟩ := evLV_sl n1 6
        rw [hlv] at hca ⊢
        rw [hxe]
        simp -implicitDefEqProofs only [go_sem, cond_true, cond_false]
        refine vgo_call rfl rfl rfl rfl (hca _) ?_
        cases ea : (decide ((8 : Int) ∈ evL n1 6) || decide ((9 : Int) ∈ evL n1 6))
        · simp -implicitDefEqProofs only [go_sem, vendK, cond_false]
          exact hss _
        · simp -implicitDefEqProofs only [go_sem, e2, t2, t3, nwC, hgS, vendK, cond_true, cond_false, List.set_set]
          rw [← hre, row_eq]
          exact hss _

end Go.VL

/- Contracts of this program's functions: what a layer beside it does, a tick, a packet. Conditions: none. -/
namespace Go.VL
open Go.Proofs

def RSok (r : RS) : Prop := (∃ a b c d, r.2.1 = .sl a b c d) ∧ ∃ a b c d, r.2.2 = .sl a b c d
theorem stay_ok (n : NgV) : RSok (stayW n) := ⟨⟨_, _, _, _, rfl⟩, ⟨_, _, _, _, rfl⟩⟩
theorem ev_ok (n : NgV) (e : Int) (pid : UInt8) (reply : PkV) : RSok (evW n e pid reply) := by
  unfold evW evOV evTV RSok
  cases doneB n e <;> exact ⟨⟨_, _, _, _, rfl⟩, ⟨_, _, _, _, rfl⟩⟩
theorem ack_ok (n : NgV) (p : PkV) : RSok (ackW n p) := by
  unfold ackW
  cases p.id == n.a.id && decide (encL n.ours = p.d)
  · exact stay_ok n
  · exact ev_ok _ _ _ _
theorem echo_ok (n : NgV) (p : PkV) : RSok (echoW n p) := by
  unfold echoW
  cases decide (4 ≤ p.d.length)
  · exact stay_ok n
  · exact ev_ok n 15 p.id (echoP n p)
theorem nak_ok (n : NgV) (p : PkV) : RSok (nakW n p) := by
  unfold nakW
  cases parse p.nl [] p.d with
  | none => exact stay_ok n
  | some l =>
    simp only
    cases p.id == n.a.id
    · exact stay_ok n
    · simp only [cond_true]
      cases turnP n p.code l with
      | none => exact ev_ok _ _ _ _
      | some x => exact ev_ok _ _ _ _
theorem req_ok (n : NgV) (p : PkV) : RSok (reqW n p) := by
  unfold reqW
  cases parse p.nl [] p.d with
  | none => exact stay_ok n
  | some l =>
    simp only
    have h := ev_ok (reqN n) (reqE (reqN n) l) p.id (repP (ansP (reqN n).r l (reqN n).naks).1 p.id (ansP (reqN n).r l (reqN n).naks).2)
    cases decide ((8 : Int) ∈ evL (reqN n) (reqE (reqN n) l)) || decide ((9 : Int) ∈ evL (reqN n) (reqE (reqN n) l))
    · exact h
    · simp only [cond_true]
      cases (ansP (reqN n).r l (reqN n).naks).1 == 2
      · simp only [cond_false]
        cases (ansP (reqN n).r l (reqN n).naks).1 == 3
        · exact h
        · exact h
      · exact h
def codeW (n : NgV) (p : PkV) : RS :=
  if p.code = 1 then reqW n p else if p.code = 2 then ackW n p else if p.code = 3 ∨ p.code = 4 then nakW n p else if p.code = 5 then evW n 10 p.id zPk else if p.code = 6 then evW n 11 p.id zPk else
  if p.code = 7 then evW n (bif mayC p.d then 13 else 14) p.id zPk else if p.code = 8 then evW n (bif !decide (p.d.take 2 = [192, 33]) then 13 else 14) p.id zPk else if p.code = 9 then echoW n p else stayW n
theorem code_ok (n : NgV) (p : PkV) : RSok (codeW n p) := by
  unfold codeW
  split
  · exact req_ok n p
  split
  · exact ack_ok n p
  split
  · exact nak_ok n p
  split
  · exact ev_ok _ _ _ _
  split
  · exact ev_ok _ _ _ _
  split
  · exact ev_ok _ _ _ _
  split
  · exact ev_ok _ _ _ _
  split
  · exact echo_ok n p
  · exact stay_ok n
def takeW (n : NgV) (p : PkV) : RS := bif decide (n.a.st ≤ 1) then stayW n else bif !knownC n.r.ip p.code then evW n 12 p.id (rejP p n.a.id) else codeW n p
def doW (n : NgV) (e : Int) : RS := bif decide (0 ≤ e) && decide (e ≤ 3) then evW n e 0 zPk else stayW n
def tickW (n : NgV) : RS := (actN (withA n (tickA n.a).1) n.a.st (tickA n.a).2, outV (outsOf (actN (withA n (tickA n.a).1) n.a.st (tickA n.a).2) 0 zPk (tickA n.a).2), telV (toldOf (tickA n.a).2))
def rsV (r : RS) : V := .tup [ngv r.1, r.2.1, r.2.2]

/-- A contract of a handler, of any code. -/
def HandOK (n : NgV) (p : PkV) : Prop := ∃ f, vget negoL (.int .u8 p.code.toNat) = some (.fn (.func f) [] []) ∧ ∀ (σ : St) (id : Nat), σ[id]? = some (.box (nwR (stayW n) p)) → VCalls Tryz.prog f [.ptr id 0] σ fun r σ' => r = .tup [] ∧ σ' = σ.set id (.box (nwR (codeW n p) p))
theorem hand_ok (n : NgV) (p : PkV) (h : 0 ≤ n.a.cnt ∧ n.a.cnt ≤ 5) (hk : 0 ≤ n.naks ∧ n.naks ≤ 3) (hE : encOK n.ours = true) (hp : p.sz = 1) (hd : p.d.length ≤ 1500) (hT : ∀ l o on oc, parse p.nl [] p.d = some l → turnP n p.code l = some (o, on, oc) → encOK o = true) (hc : 1 ≤ p.code.toNat ∧ p.code.toNat ≤ 11) : HandOK n p := by
  have hcs : p.code = 1 ∨ p.code = 2 ∨ p.code = 3 ∨ p.code = 4 ∨ p.code = 5 ∨ p.code = 6 ∨ p.code = 7 ∨ p.code = 8 ∨ p.code = 9 ∨ p.code = 10 ∨ p.code = 11 := by
    have : ∀ c : UInt8, 1 ≤ c.toNat ∧ c.toNat ≤ 11 → c = 1 ∨ c = 2 ∨ c = 3 ∨ c = 4 ∨ c = 5 ∨ c = 6 ∨ c = 7 ∨ c = 8 ∨ c = 9 ∨ c = 10 ∨ c = 11 := fun c hc => by
      have hq : ∀ k : Fin 256, 1 ≤ k.val ∧ k.val ≤ 11 → UInt8.ofNat k.val = 1 ∨ UInt8.ofNat k.val = 2 ∨ UInt8.ofNat k.val = 3 ∨ UInt8.ofNat k.val = 4 ∨ UInt8.ofNat k.val = 5 ∨ UInt8.ofNat k.val = 6 ∨ UInt8.ofNat k.val = 7 ∨ UInt8.ofNat k.val = 8 ∨ UInt8.ofNat k.val = 9 ∨ UInt8.ofNat k.val = 10 ∨ UInt8.ofNat k.val = 11 := by decide +kernel
      have h1 := hq ⟨c.toNat, c.toNat_lt⟩ hc
      have e : UInt8.ofNat c.toNat = c := by simp
      simpa only [e] using h1
    exact this p.code hc
  have nt : ∀ (σ : St) (id : Nat), σ[id]? = some (.box (nwR (stayW n) p)) → VCalls Tryz.prog 147 [.ptr id 0] σ fun r σ' => r = .tup [] ∧ σ' = σ.set id (.box (nwR (stayW n) p)) := fun σ id hσ => (c_nothing σ id).mono fun r σ' e => ⟨e.1, e.2.trans (set_same hσ)⟩
  have hl : p.d.length ≤ lim := by unfold lim; omega
  unfold HandOK
  rcases hcs with e | e | e | e | e | e | e | e | e | e | e
  · have hw : codeW n p = reqW n p := by unfold codeW; rw [e]; rfl
    exact ⟨_, by rw [e]; rfl, fun σ id hσ => by rw [hw]; exact c_request n p h hk hE σ id hσ hp hd⟩
  · have hw : codeW n p = ackW n p := by unfold codeW; rw [e]; rfl
    exact ⟨_, by rw [e]; rfl, fun σ id hσ => by rw [hw]; exact c_ack n p h hE σ id hσ hp⟩
  · have hw : codeW n p = nakW n p := by unfold codeW; rw [e]; rfl
    exact ⟨_, by rw [e]; rfl, fun σ id hσ => by rw [hw]; exact c_nak n p h hE σ id hσ hp hd hT⟩
  · have hw : codeW n p = nakW n p := by unfold codeW; rw [e]; rfl
    exact ⟨_, by rw [e]; rfl, fun σ id hσ => by rw [hw]; exact c_nak n p h hE σ id hσ hp hd hT⟩
  · have hw : codeW n p = evW n 10 p.id zPk := by unfold codeW; rw [e]; rfl
    exact ⟨_, by rw [e]; rfl, fun σ id hσ => by rw [hw]; exact c_term n p h hE σ id hσ⟩
  · have hw : codeW n p = evW n 11 p.id zPk := by unfold codeW; rw [e]; rfl
    exact ⟨_, by rw [e]; rfl, fun σ id hσ => by rw [hw]; exact c_termed n p h hE σ id hσ⟩
  · have hw : codeW n p = evW n (bif mayC p.d then 13 else 14) p.id zPk := by unfold codeW; rw [e]; rfl
    exact ⟨_, by rw [e]; rfl, fun σ id hσ => by rw [hw]; exact c_code n p h hE σ id hσ hp⟩
  · have hw : codeW n p = evW n (bif !decide (p.d.take 2 = [192, 33]) then 13 else 14) p.id zPk := by unfold codeW; rw [e]; rfl
    exact ⟨_, by rw [e]; rfl, fun σ id hσ => by rw [hw]; exact c_proto n p h hE σ id hσ hp hl⟩
  · have hw : codeW n p = echoW n p := by unfold codeW; rw [e]; rfl
    exact ⟨_, by rw [e]; rfl, fun σ id hσ => by rw [hw]; exact c_echo n p h hE σ id hσ hp hd⟩
  · have hw : codeW n p = stayW n := by unfold codeW; rw [e]; rfl
    exact ⟨_, by rw [e]; rfl, fun σ id hσ => by rw [hw]; exact nt σ id hσ⟩
  · have hw : codeW n p = stayW n := by unfold codeW; rw [e]; rfl
    exact ⟨_, by rw [e]; rfl, fun σ id hσ => by rw [hw]; exact nt σ id hσ⟩

theorem c_toldR (r : RS) (hr : RSok r) (p : PkV) (σ : St) (id : Nat) (hσ : σ[id]? = some (.box (nwR r p))) : VCalls Tryz.prog 75 [.ptr id 0] σ fun x σ' => x = rsV r ∧ σ' = σ := c_told r.1 r.2.1 r.2.2 p hr.1 hr.2 σ id hσ
theorem rsV_sl {r : RS} (hr : RSok r) : ∃ a b c d e f g h, rsV r = .tup [.agg (ngC r.1), .sl a b c d, .sl e f g h] := by
  obtain ⟨⟨a, b, c, d, h1⟩, ⟨e, f, g, h, h2⟩⟩ := hr
  exact ⟨a, b, c, d, e, f, g, h, by unfold rsV; rw [h1, h2]; rfl⟩

set_option maxHeartbeats 4000000 in
set_option maxRecDepth 20000 in
theorem c_ndo (n : NgV) (e : Int) (h : 0 ≤ n.a.cnt ∧ n.a.cnt ≤ 5) (hE : encOK n.ours = true) (σ : St) : VCalls Tryz.prog 27 [ngv n, .int .i64 e] σ fun r σ' => r = rsV (doW n e) ∧ σ' = σ := by
  refine vcalls_intro (C := cfg Tryz.prog [10] [] []) (cfg_ok mixed) Tryz.func27 rfl rfl rfl rfl rfl ?_
  have hat : ∀ B : List V, (σ ++ [VO.box B])[σ.length]? = some (.box B) := fun B => by simp
  have hst : ∀ (B C : List V), (σ ++ [VO.box B]).set σ.length (.box C) = σ ++ [VO.box C] := fun B C => by rw [set_at]; rfl
  simp -implicitDefEqProofs only [go_sem, ngv, ngC]
  unfold doW
  cases c1 : decide (0 ≤ e)
  · simp -implicitDefEqProofs only [go_sem, c1, Bool.false_and, cond_false]
    have hr : RSok (stayW n) := stay_ok n
    obtain ⟨a1, a2, a3, a4, b1, b2, b3, b4, hrs⟩ := rsV_sl hr
    have htd := c_toldR (stayW n) hr zPk _ σ.length (hat _)
    rw [hrs] at htd
    unfold ngC at htd hrs
    refine vgo_call rfl rfl rfl rfl htd ?_
    simp -implicitDefEqProofs only [go_sem]
    exact hrs.symm
  simp -implicitDefEqProofs only [go_sem, c1, Bool.true_and]
  cases c2 : decide (e ≤ 3)
  · simp -implicitDefEqProofs only [go_sem, c2, cond_false]
    have hr : RSok (stayW n) := stay_ok n
    obtain ⟨a1, a2, a3, a4, b1, b2, b3, b4, hrs⟩ := rsV_sl hr
    have htd := c_toldR (stayW n) hr zPk _ σ.length (hat _)
    rw [hrs] at htd
    unfold ngC at htd hrs
    refine vgo_call rfl rfl rfl rfl htd ?_
    simp -implicitDefEqProofs only [go_sem]
    exact hrs.symm
  · simp -implicitDefEqProofs only [go_sem, c2, cond_true]
    refine vgo_call' rfl rfl rfl (c_event0 n zPk e h hE _ σ.length (hat _)) ?_
    rintro r σ' ⟨rfl, rfl⟩
    refine ⟨evLV_val _ _, ?_⟩
    simp -implicitDefEqProofs only [go_sem, hst]
    have hr : RSok (evW n e 0 zPk) := ev_ok n e 0 zPk
    obtain ⟨a1, a2, a3, a4, b1, b2, b3, b4, hrs⟩ := rsV_sl hr
    have htd := c_toldR (evW n e 0 zPk) hr zPk _ σ.length (hat _)
    rw [hrs] at htd
    unfold ngC at htd hrs
    refine vgo_call rfl rfl rfl rfl htd ?_
    simp -implicitDefEqProofs only [go_sem]
    exact hrs.symm

set_option maxHeartbeats 4000000 in
set_option maxRecDepth 20000 in
theorem c_ntick (n : NgV) (h : 0 ≤ n.a.cnt ∧ n.a.cnt ≤ 5) (h2 : 0 ≤ n.a.left ∧ n.a.left ≤ 3) (hE : encOK n.ours = true) (σ : St) : VCalls Tryz.prog 28 [ngv n] σ fun r σ' => r = rsV (tickW n) ∧ σ' = σ := by
  refine vcalls_intro (C := cfg Tryz.prog [10] [] []) (cfg_ok mixed) Tryz.func28 rfl rfl rfl rfl rfl ?_
  have hat : ∀ B : List V, (σ ++ [VO.box B])[σ.length]? = some (.box B) := fun B => by simp
  have hst : ∀ (B C : List V), (σ ++ [VO.box B]).set σ.length (.box C) = σ ++ [VO.box C] := fun B C => by rw [set_at]; rfl
  have hti := fun σ => c_atick n.a h h2 σ
  have hen : encOK (actN (withA n (tickA n.a).1) n.a.st (tickA n.a).2).ours = true := by
    unfold actN
    cases resetB n.a.st (tickA n.a).2
    · exact hE
    · exact ask_enc _
  have hll : (tickA n.a).2.length ≤ 20 := by
    have hd : ∀ (a : AuV) (e : Int), (doA a e).2.1.length ≤ 20 := fun a e => by
      unfold doA
      have := next_len a.st e
      cases (nextP a.st e).2.2 <;> simp <;> omega
    unfold tickA
    cases n.a.left == 0
    · cases decide (0 < n.a.left - 1)
      · exact hd _ _
      · exact Nat.zero_le _
    · exact Nat.zero_le _
  unfold tickW
  generalize tickA n.a = t at hti hen hll
  obtain ⟨a', l⟩ := t
  simp only at hti hen hll
  simp -implicitDefEqProofs only [go_sem, ngv, ngC]
  refine vgo_call rfl rfl rfl rfl (hti _) ?_
  simp -implicitDefEqProofs only [go_sem, auv, auC, hat, hst]
  refine vgo_call' rfl rfl rfl (c_acts (withA n a') zPk zPk n.a.st l.isEmpty l hll hen _ σ.length (hat _)) ?_
  rintro r σ' ⟨rfl, rfl⟩
  refine ⟨rfl, ?_⟩
  simp -implicitDefEqProofs only [go_sem, hst]
  have hr : RSok (show RS from (actN (withA n a') n.a.st l, outV (outsOf (actN (withA n a') n.a.st l) 0 zPk l), telV (toldOf l))) := ⟨⟨_, _, _, _, rfl⟩, ⟨_, _, _, _, rfl⟩⟩
  obtain ⟨a1, a2, a3, a4, b1, b2, b3, b4, hrs⟩ := rsV_sl hr
  have htd := c_toldR (show RS from (actN (withA n a') n.a.st l, outV (outsOf (actN (withA n a') n.a.st l) 0 zPk l), telV (toldOf l))) hr zPk _ σ.length (hat _)
  rw [hrs] at htd
  unfold ngC at htd hrs
  refine vgo_call rfl rfl rfl rfl htd ?_
  simp -implicitDefEqProofs only [go_sem]
  exact hrs.symm

theorem c_toldX (r : RS) (hr : RSok r) (p : PkV) (σ : St) (B : List V) (hB : B = nwR r p) {T : V} (hT : rsV r = T) : VCalls Tryz.prog 75 [.ptr σ.length 0] (σ ++ [VO.box B]) fun x σ' => x = T ∧ σ' = σ ++ [VO.box B] := by
  subst hB
  rw [← hT]
  exact c_toldR r hr p _ σ.length (by simp)
theorem known_b {ip : Bool} {c : UInt8} (h : knownC ip c = true) : 1 ≤ c.toNat ∧ c.toNat ≤ 11 := by
  unfold knownC at h
  simp only [Bool.and_eq_true, decide_eq_true_eq] at h
  cases ip
  · have h2 : (c.toNat : Int) ≤ 11 := h.2
    omega
  · have h2 : (c.toNat : Int) ≤ 7 := h.2
    omega

set_option maxHeartbeats 4000000 in
set_option maxRecDepth 20000 in
theorem c_ntake (n : NgV) (p : PkV) (h : 0 ≤ n.a.cnt ∧ n.a.cnt ≤ 5) (hk : 0 ≤ n.naks ∧ n.naks ≤ 3) (hE : encOK n.ours = true) (hp : p.sz = 1) (hd : p.d.length ≤ 1496) (hT : ∀ l o on oc, parse p.nl [] p.d = some l → turnP n p.code l = some (o, on, oc) → encOK o = true) (σ : St) : VCalls Tryz.prog 29 [ngv n, pkv p] σ fun r σ' => r = rsV (takeW n p) ∧ σ' = σ := by
  refine vcalls_intro (C := cfg Tryz.prog [12] [] []) (cfg_ok mixed) Tryz.func29 rfl rfl rfl rfl rfl ?_
  have hat : ∀ B : List V, (σ ++ [VO.box B])[σ.length]? = some (.box B) := fun B => by simp
  have hst : ∀ (B C : List V), (σ ++ [VO.box B]).set σ.length (.box C) = σ ++ [VO.box C] := fun B C => by rw [set_at]; rfl
  have hkn := fun σ => c_known0 n.r.ip p.code σ
  have hrj := fun σ => c_reject p n.a.id hp hd σ
  unfold pkv pkC at hrj
  have hbx : (σ ++ [VO.box (nwR (stayW n) p)])[σ.length]? = some (.box (nwR (stayW n) p)) := hat _
  simp only [nwR, stayW, nwC, nilV] at hbx
  simp -implicitDefEqProofs only [go_sem, ngv, ngC, pkv, pkC]
  unfold takeW
  cases hi : n.r.ip
  · rw [hi] at hkn
    simp only [cond_false] at hkn
    simp -implicitDefEqProofs only [go_sem, hi]
    cases c1 : decide (n.a.st ≤ 1)
    · simp -implicitDefEqProofs only [go_sem, c1, cond_false]
      refine vgo_call rfl rfl rfl rfl (hkn _) ?_
      cases c2 : knownC false p.code
      · simp -implicitDefEqProofs only [go_sem, c2, Bool.not_false, cond_true]
        refine vgo_call rfl rfl rfl rfl (hrj _) ?_
        simp -implicitDefEqProofs only [go_sem]
        refine vgo_call' rfl rfl rfl (c_event n p (rejP p n.a.id) 12 h (ev_enc hE 12) _ σ.length (by rw [hat]; unfold nwC; rw [hi]; rfl)) ?_
        rintro r σ' ⟨rfl, rfl⟩
        refine ⟨evLV_val _ _, ?_⟩
        simp -implicitDefEqProofs only [go_sem, hst]
        have hr : RSok (show RS from evW n 12 p.id (rejP p n.a.id)) := ev_ok _ _ _ _
        obtain ⟨a1, a2, a3, a4, b1, b2, b3, b4, hrs⟩ := rsV_sl hr
        have htd := c_toldR (show RS from evW n 12 p.id (rejP p n.a.id)) hr p _ σ.length (hat _)
        rw [hrs] at htd
        unfold ngC at htd hrs
        refine vgo_call rfl rfl rfl rfl htd ?_
        simp -implicitDefEqProofs only [go_sem]
        exact hrs.symm
      · simp -implicitDefEqProofs only [go_sem, c2, Bool.not_true, cond_false]
        obtain ⟨f, hvg, hf⟩ := hand_ok n p h hk hE hp (by omega) hT (known_b c2)
        refine w_walk2 [5] [0, 1, 2, 3, 4, 5] [16, 17, 18, 19, 20] [0, 0, 2, 7, 0, 31] rfl rfl rfl rfl ?_
        simp -implicitDefEqProofs only [go_sem]
        refine vdgo_call rfl rfl rfl rfl (c_ncodes _) ?_
        simp -implicitDefEqProofs only [go_sem, hvg]
        refine ⟨rfl, ve_call rfl rfl rfl (hf _ σ.length (by rw [hat]; unfold nwR stayW nwC; rw [hi]; rfl)) ?_⟩
        rintro r σ' ⟨rfl, rfl⟩
        refine ⟨rfl, ?_⟩
        simp -implicitDefEqProofs only [go_sem, hst]
        have hr : RSok (codeW n p) := code_ok n p
        obtain ⟨a1, a2, a3, a4, b1, b2, b3, b4, hrs⟩ := rsV_sl hr
        unfold ngC at hrs
        refine vgo_call rfl rfl rfl rfl (c_toldX (codeW n p) hr p σ _ rfl hrs) ?_
        simp -implicitDefEqProofs only [go_sem]
        exact hrs.symm
    · simp -implicitDefEqProofs only [go_sem, c1, cond_true]
      have hr : RSok (stayW n) := stay_ok n
      obtain ⟨a1, a2, a3, a4, b1, b2, b3, b4, hrs⟩ := rsV_sl hr
      unfold ngC at hrs
      refine vgo_call rfl rfl rfl rfl (c_toldX (stayW n) hr p σ _ (by unfold nwR stayW nwC; rw [hi]; rfl) hrs) ?_
      simp -implicitDefEqProofs only [go_sem]
      exact hrs.symm
  · rw [hi] at hkn
    simp only [cond_true] at hkn
    simp -implicitDefEqProofs only [go_sem, hi]
    cases c1 : decide (n.a.st ≤ 1)
    · simp -implicitDefEqProofs only [go_sem, c1, cond_false]
      refine vgo_call rfl rfl rfl rfl (hkn _) ?_
      cases c2 : knownC true p.code
      · simp -implicitDefEqProofs only [go_sem, c2, Bool.not_false, cond_true]
        refine vgo_call rfl rfl rfl rfl (hrj _) ?_
        simp -implicitDefEqProofs only [go_sem]
        refine vgo_call' rfl rfl rfl (c_event n p (rejP p n.a.id) 12 h (ev_enc hE 12) _ σ.length (by rw [hat]; unfold nwC; rw [hi]; rfl)) ?_
        rintro r σ' ⟨rfl, rfl⟩
        refine ⟨evLV_val _ _, ?_⟩
        simp -implicitDefEqProofs only [go_sem, hst]
        have hr : RSok (show RS from evW n 12 p.id (rejP p n.a.id)) := ev_ok _ _ _ _
        obtain ⟨a1, a2, a3, a4, b1, b2, b3, b4, hrs⟩ := rsV_sl hr
        have htd := c_toldR (show RS from evW n 12 p.id (rejP p n.a.id)) hr p _ σ.length (hat _)
        rw [hrs] at htd
        unfold ngC at htd hrs
        refine vgo_call rfl rfl rfl rfl htd ?_
        simp -implicitDefEqProofs only [go_sem]
        exact hrs.symm
      · simp -implicitDefEqProofs only [go_sem, c2, Bool.not_true, cond_false]
        obtain ⟨f, hvg, hf⟩ := hand_ok n p h hk hE hp (by omega) hT (known_b c2)
        refine w_walk2 [5] [0, 1, 2, 3, 4, 5] [16, 17, 18, 19, 20] [0, 0, 2, 7, 0, 31] rfl rfl rfl rfl ?_
        simp -implicitDefEqProofs only [go_sem]
        refine vdgo_call rfl rfl rfl rfl (c_ncodes _) ?_
        simp -implicitDefEqProofs only [go_sem, hvg]
        refine ⟨rfl, ve_call rfl rfl rfl (hf _ σ.length (by rw [hat]; unfold nwR stayW nwC; rw [hi]; rfl)) ?_⟩
        rintro r σ' ⟨rfl, rfl⟩
        refine ⟨rfl, ?_⟩
        simp -implicitDefEqProofs only [go_sem, hst]
        have hr : RSok (codeW n p) := code_ok n p
        obtain ⟨a1, a2, a3, a4, b1, b2, b3, b4, hrs⟩ := rsV_sl hr
        unfold ngC at hrs
        refine vgo_call rfl rfl rfl rfl (c_toldX (codeW n p) hr p σ _ rfl hrs) ?_
        simp -implicitDefEqProofs only [go_sem]
        exact hrs.symm
    · simp -implicitDefEqProofs only [go_sem, c1, cond_true]
      have hr : RSok (stayW n) := stay_ok n
      obtain ⟨a1, a2, a3, a4, b1, b2, b3, b4, hrs⟩ := rsV_sl hr
      unfold ngC at hrs
      refine vgo_call rfl rfl rfl rfl (c_toldX (stayW n) hr p σ _ (by unfold nwR stayW nwC; rw [hi]; rfl) hrs) ?_
      simp -implicitDefEqProofs only [go_sem]
      exact hrs.symm

end Go.VL

/- Contracts of this program's functions: which protocols are right, small, the same. Conditions: none. -/
namespace Go.VL
open Go.Proofs

theorem encL_cut {l : List OV} {i : Nat} (h : i < l.length) : encL (l.take (i + 1)) = encL (l.take i) ++ encO l[i] := by
  unfold encL
  rw [List.take_succ_eq_append_getElem h, List.flatMap_append]
  simp
set_option maxHeartbeats 1000000 in
set_option maxRecDepth 20000 in
theorem c_rbytes (nl c : Bool) (l : List OV) (hl : l.length ≤ 1000) (hd : ∀ o ∈ l, o.d.length ≤ 253) (σ : St) : VCalls Tryz.prog 73 [.sl nl c 2 (osv l)] σ fun r σ' => r = .tup [.sl (bif decide ((encL l).length ≤ 1496) then l.isEmpty else true) false (bif decide ((encL l).length ≤ 1496) then 1 else 0) (bif decide ((encL l).length ≤ 1496) then bv (encL l) else []), .int .i64 (bif decide ((encL l).length ≤ 1496) then 0 else 1)] ∧ σ' = σ := by
  refine vcalls_intro (C := cfg Tryz.prog [] [] []) (cfg_ok mixed) Tryz.func73 rfl rfl rfl rfl rfl ?_
  simp -implicitDefEqProofs only [go_sem]
  refine loop_adopt 4 1 σ.length rfl rfl ?_
  refine w_loop (fun i => i ≤ l.length ∧ (encL (l.take i)).length ≤ 255 * i) (fun i => [(5, .int .i64 i), (4, .rsl σ.length (2 * i) 0 (encL (l.take i)).length), (3, .int .i64 0), (2, .sl true false 0 []), (0, .sl nl c 2 (osv l))]) (fun i => σ ++ [.arr (i == 0) (2 * i) 1 (bv (encL (l.take i)))]) (fun i => l.length - i) 0 ⟨Nat.zero_le _, Nat.le_refl _⟩ ?_ rfl ?_
  · simp -implicitDefEqProofs only [go_sem, osv_length, encL, List.take_zero, List.flatMap_nil, List.length_nil, Nat.mul_zero]
    rfl
  rintro i ⟨hi, hlen⟩
  have hlz : (bv (encL (l.take i))).length = (encL (l.take i)).length := bv_length _
  rcases Nat.lt_or_ge i l.length with h | h
  · have hdi := hd l[i] (List.getElem_mem h)
    have c3 : decide ((253 : Int) < (l[i].d.length : Int)) = false := by simp; omega
    have hw1 : IntKind.i64.wrap ((i : Int) + 1) = ((i + 1 : Nat) : Int) := wrap_ok (by omega) (by omega)
    have hw : IntKind.u8.wrap (IntKind.i64.wrap (2 + (l[i].d.length : Int))) = ((UInt8.ofNat (l[i].d.length + 2)).toNat : Int) := by
      rw [show (2 + (l[i].d.length : Int)) = ((l[i].d.length + 2 : Nat) : Int) by omega, wrap_ok (by omega) (by omega)]
      exact low8 _
    have he1 : bv (encL (l.take i)) ++ [V.int IntKind.u8 l[i].t.toNat, V.int IntKind.u8 (UInt8.ofNat (l[i].d.length + 2)).toNat] ++ bv l[i].d = bv (encL (l.take (i + 1))) := by
      rw [encL_cut h]
      simp [bv, encO]
    have he2 : (encL (l.take (i + 1))).length = (encL (l.take i)).length + 2 + l[i].d.length := by
      rw [encL_cut h]
      simp [encO]
      omega
    simp -implicitDefEqProofs only [go_sem, osv_length, osv_getD h, h, ov, bv_length, c3]
    refine w_walk2 [15, 16] [0, 1, 2, 3, 4, 5, 6, 7, 8, 9, 10, 11, 12, 13, 14, 15, 16] [19, 20, 21, 22, 23, 24, 25, 26, 27, 28, 29, 30, 31, 32, 33] [0, 0, 0, 6, 14, 30, 0, 0, 192, 448, 960, 1984, 4032, 8128, 16382, 32767, 65535] rfl rfl rfl rfl ?_
    simp -implicitDefEqProofs only [go_sem, osv_length, osv_getD h, h, ov, bv_length, hw, Nat.zero_add, Nat.sub_zero]
    refine ⟨by unfold lim; omega, by simp [bv], by simp [bv]; unfold lim; omega, l_next (i + 1) ⟨h, by omega⟩ (by omega) ?_ ?_⟩
    · have hg : 2 * i + 1 + 1 = 2 * (i + 1) := by omega
      simp -implicitDefEqProofs only [go_sem, hw1, he2, hg, List.length_append, List.length_cons, List.length_nil, bv_length]
    · have hg : 2 * i + 1 + 1 = 2 * (i + 1) := by omega
      simp -implicitDefEqProofs only [he1, go_sem, hg]
  · have hn : ¬ (i < l.length) := by omega
    simp -implicitDefEqProofs only [go_sem, osv_length, hn]
    refine l_exit ?_
    rw [List.take_of_length_le h] at hlz hlen ⊢
    have e1 : decide ((1496 : Int) < ((encL l).length : Int)) = !decide ((encL l).length ≤ 1496) := by rw [Bool.eq_iff_iff]; simp; omega
    simp -implicitDefEqProofs only [go_sem, Nat.sub_zero, e1]
    have hie : i = l.length := by omega
    have htk : (bv (encL l)).take (encL l).length = bv (encL l) := bv_take _
    have hem : (i == 0) = l.isEmpty := by
      rw [hie]
      cases l <;> rfl
    cases e2 : decide ((encL l).length ≤ 1496)
    · simp -implicitDefEqProofs only [go_sem, e2, cond_false, Bool.not_false]
    · simp -implicitDefEqProofs only [go_sem, e2, cond_true, Bool.not_true, htk, hem]

def oddB (o : OV) : Bool := o.t == 5 && !(o.d.length == 4)
/-- Is a protocol right? -/
def rightN (n : NgV) : Bool := aokB n.a && decide (0 ≤ n.naks) && decide (n.naks ≤ 3) && decide ((encL n.ours).length ≤ 1496) && !n.ours.any oddB
def smallN (n : NgV) : Bool := few n.ours && few n.peer

theorem c_small14 (n : NgV) (hps : n.ps = 2) (σ : St) : VCalls Tryz.prog 25 [ngv n] σ fun r σ' => r = .bool (smallN n) ∧ σ' = σ := by
  refine vcalls_intro (C := cfg Tryz.prog [] [] []) (cfg_ok mixed) Tryz.func25 rfl rfl rfl rfl rfl ?_
  simp -implicitDefEqProofs only [go_sem, ngv, ngC, hps]
  refine vgo_call rfl rfl rfl rfl (c_few n.on n.oc n.ours σ) ?_
  simp -implicitDefEqProofs only [go_sem]
  refine vgo_call rfl rfl rfl rfl (c_few n.pn n.pc n.peer σ) ?_
  unfold smallN
  cases few n.ours <;> simp -implicitDefEqProofs only [go_sem, Bool.true_and, Bool.false_and]

def eqAu (a b : AuV) : Bool := cellsEq (auC a) (auC b)
def eqRu (a b : RV) : Bool := cellsEq (rvC a) (rvC b)
/-- Are two the same? -/
def sameN (a b : NgV) : Bool := same a.ours b.ours && same a.peer b.peer && eqAu a.a b.a && eqRu a.r b.r && (a.naks == b.naks)
set_option maxRecDepth 20000 in
theorem c_nsame (a b : NgV) (h1 : a.ps = 2) (h2 : b.ps = 2) (l1 : a.ours.length ≤ lim) (l2 : a.peer.length ≤ lim) (σ : St) : VCalls Tryz.prog 70 [ngv a, ngv b] σ fun r σ' => r = .bool (sameN a b) ∧ σ' = σ := by
  refine vcalls_intro (C := cfg Tryz.prog [] [] []) (cfg_ok mixed) Tryz.func70 rfl rfl rfl rfl rfl ?_
  have hs : sameN a b = (eqAu a.a b.a && (eqRu a.r b.r && ((a.naks == b.naks) && (same a.ours b.ours && same a.peer b.peer)))) := by
    unfold sameN
    cases same a.ours b.ours <;> cases same a.peer b.peer <;> cases eqAu a.a b.a <;> cases eqRu a.r b.r <;> cases (a.naks == b.naks) <;> rfl
  rw [hs]
  simp -implicitDefEqProofs only [go_sem, ngv, ngC, h1, h2, mk]
  cases hA : eqAu a.a b.a
  · simp -implicitDefEqProofs only [go_sem, eqAu, auC] at hA
    simp -implicitDefEqProofs only [go_sem, mk, hA, Bool.false_and]
  simp -implicitDefEqProofs only [go_sem, eqAu, auC] at hA
  simp -implicitDefEqProofs only [go_sem, mk, hA, Bool.true_and]
  cases hB : eqRu a.r b.r
  · simp -implicitDefEqProofs only [go_sem, eqRu, rvC] at hB
    simp -implicitDefEqProofs only [go_sem, mk, hB, Bool.false_and]
  simp -implicitDefEqProofs only [go_sem, eqRu, rvC] at hB
  simp -implicitDefEqProofs only [go_sem, mk, hB, Bool.true_and]
  cases hC : a.naks == b.naks
  · simp -implicitDefEqProofs only [go_sem, hC, Bool.false_and]
  simp -implicitDefEqProofs only [go_sem, hC, Bool.true_and]
  refine vgo_call rfl rfl rfl rfl (c_optsSame a.on a.oc b.on b.oc a.ours b.ours l1 σ) ?_
  cases hD : same a.ours b.ours
  · simp -implicitDefEqProofs only [go_sem, Bool.false_and]
  simp -implicitDefEqProofs only [go_sem, Bool.true_and]
  refine vgo_call rfl rfl rfl rfl (c_optsSame a.pn a.pc b.pn b.pc a.peer b.peer l2 σ) ?_
  simp -implicitDefEqProofs only [go_sem]

set_option maxRecDepth 20000 in
theorem c_rright14D (n : NgV) (hn : n.ours.length ≤ 1000) (hd : ∀ o ∈ n.ours, o.d.length ≤ 253) (σ : St) : VCalls Tryz.prog 26 [ngv n] σ fun r σ' => r = .bool (rightN n) ∧ σ' = σ := by
  refine vcalls_intro (C := cfg Tryz.prog [] [] []) (cfg_ok mixed) Tryz.func26 rfl rfl rfl rfl rfl ?_
  simp -implicitDefEqProofs only [go_sem, ngv, ngC]
  refine vgo_call rfl rfl rfl rfl (c_rright12 n.a σ) ?_
  simp -implicitDefEqProofs only [go_sem]
  refine vgo_call rfl rfl rfl rfl (c_rbytes n.on n.oc n.ours hn hd σ) ?_
  simp -implicitDefEqProofs only [go_sem]
  refine w_loop (fun i => i ≤ n.ours.length ∧ (n.ours.take i).any oddB = false) (fun i => [(6, .int .i64 i), (5, .int .i64 (bif decide ((encL n.ours).length ≤ 1496) then 0 else 1)), (3, .bool (aokB n.a)), (2, .bool false), (1, .ip (ngC n))]) (fun _ => σ) (fun i => n.ours.length - i) 0 ⟨Nat.zero_le _, rfl⟩ ?_ rfl ?_
  · simp -implicitDefEqProofs only [go_sem, ngC]
    rfl
  rintro i ⟨hi, hno⟩
  rcases Nat.lt_or_ge i n.ours.length with h | h
  · have hw1 : IntKind.i64.wrap ((i : Int) + 1) = ((i + 1 : Nat) : Int) := wrap_ok (by omega) (by omega)
    have t5 : ((n.ours[i].t.toNat : Int) == 5) = (n.ours[i].t == 5) := toNat_beq _ 5
    have t4 : ((n.ours[i].d.length : Int) == 4) = (n.ours[i].d.length == 4) := by rw [Bool.eq_iff_iff]; simp; omega
    have hany : ∀ q, oddB n.ours[i] = q → (n.ours.take (i + 1)).any oddB = q := fun q e => by rw [List.take_succ_eq_append_getElem h, List.any_append, hno]; simp [e]
    have hbad : oddB n.ours[i] = true → rightN n = false := fun e => by
      unfold rightN
      have : n.ours.any oddB = true := List.any_eq_true.2 ⟨_, List.getElem_mem h, e⟩
      rw [this]
      simp
    simp -implicitDefEqProofs only [go_sem, ngC, osv_length, osv_getD h, h, ov, bv_length, t5]
    cases q1 : n.ours[i].t == 5
    · simp -implicitDefEqProofs only [go_sem, q1]
      refine l_next (i + 1) ⟨h, hany false (by unfold oddB; rw [q1]; rfl)⟩ (by omega) ?_ rfl
      simp -implicitDefEqProofs only [go_sem, ngC, hw1]
    · simp -implicitDefEqProofs only [go_sem, q1, osv_length, osv_getD h, h, ov, bv_length, t4, bne]
      cases q2 : n.ours[i].d.length == 4
      · have hb := hbad (by unfold oddB; rw [q1, q2]; rfl)
        simp -implicitDefEqProofs only [go_sem, q2, Bool.not_false]
        refine l_ret ?_
        simp -implicitDefEqProofs only [go_sem, hb]
      · simp -implicitDefEqProofs only [go_sem, q2, Bool.not_true]
        refine l_next (i + 1) ⟨h, hany false (by unfold oddB; rw [q1, q2]; rfl)⟩ (by omega) ?_ rfl
        simp -implicitDefEqProofs only [go_sem, ngC, hw1]
  · have hn : ¬ (i < n.ours.length) := by omega
    rw [List.take_of_length_le h] at hno
    have hr : rightN n = (aokB n.a && (decide (0 ≤ n.naks) && (decide (n.naks ≤ 3) && decide ((encL n.ours).length ≤ 1496)))) := by
      unfold rightN
      rw [hno]
      cases aokB n.a <;> cases decide (0 ≤ n.naks) <;> cases decide (n.naks ≤ 3) <;> cases decide ((encL n.ours).length ≤ 1496) <;> rfl
    rw [hr]
    simp -implicitDefEqProofs only [go_sem, ngC, osv_length, hn]
    refine l_exit ?_
    cases q1 : aokB n.a
    · simp -implicitDefEqProofs only [go_sem, Bool.false_and]
    simp -implicitDefEqProofs only [go_sem, ngC, Bool.true_and]
    cases q2 : decide (0 ≤ n.naks)
    · simp -implicitDefEqProofs only [go_sem, q2, Bool.false_and]
    simp -implicitDefEqProofs only [go_sem, q2, Bool.true_and]
    cases q3 : decide (n.naks ≤ 3)
    · simp -implicitDefEqProofs only [go_sem, q3, Bool.false_and]
    simp -implicitDefEqProofs only [go_sem, q3, Bool.true_and]
    cases q4 : decide ((encL n.ours).length ≤ 1496)
    · simp -implicitDefEqProofs only [go_sem, cond_false]
    · simp -implicitDefEqProofs only [go_sem, cond_true]

theorem c_rright14 (n : NgV) (hf : few n.ours = true) (σ : St) : VCalls Tryz.prog 26 [ngv n] σ fun r σ' => r = .bool (rightN n) ∧ σ' = σ := by
  unfold few at hf
  simp only [Bool.and_eq_true, decide_eq_true_eq, List.all_eq_true] at hf
  exact c_rright14D n (by omega) (fun o ho => by have := hf.2 o ho; unfold smallO at this; simpa using this) σ
theorem enc_few {l : List OV} (h : encOK l = true) : l.length ≤ 1000 ∧ ∀ o ∈ l, o.d.length ≤ 253 := by
  unfold encOK at h
  simp only [Bool.and_eq_true, decide_eq_true_eq, List.all_eq_true] at h
  refine ⟨?_, h.1⟩
  have : 2 * l.length ≤ (encL l).length := by
    have h2 := h.2
    clear h h2
    induction l with
    | nil => exact Nat.zero_le _
    | cons o l ih =>
      have : encL (o :: l) = encO o ++ encL l := rfl
      rw [this]
      simp [encO]
      omega
  omega
theorem c_rright14E (n : NgV) (h : encOK n.ours = true) (σ : St) : VCalls Tryz.prog 26 [ngv n] σ fun r σ' => r = .bool (rightN n) ∧ σ' = σ :=
  c_rright14D n (enc_few h).1 (enc_few h).2 σ

end Go.VL

/- Contracts of this program's functions: nego.Right, nego.New. Conditions: none. -/
namespace Go.VL
open Go.Proofs

theorem idxO_nonneg (p : OV → Bool) (l : List OV) : decide (0 ≤ idxO p l) = l.any p := by
  rcases idx_cases p l with h | ⟨i, h1, h2, h3⟩
  · rw [idxO_none h]
    have : l.any p = false := by
      rw [List.any_eq_false]
      intro o ho
      have := List.all_eq_true.1 h o ho
      simpa using this
    rw [this]
    rfl
  · rw [idxO_at h1 h2 h3]
    have : l.any p = true := List.any_eq_true.2 ⟨_, List.getElem_mem h1, h3⟩
    rw [this]
    simp
theorem c_containsO (nl c : Bool) (l : List OV) (p : OV → Bool) (g : FuncId) (xs ys : List V) (hl : l.length ≤ lim) (σ : St) (hg : ∀ o, VCalls Tryz.prog g (xs ++ [ov o] ++ ys) σ fun r σ' => r = .bool (p o) ∧ σ' = σ) :
    VCalls Tryz.prog 132 [.sl nl c 2 (osv l), .fn (.func g) xs ys] σ fun r σ' => r = .bool (l.any p) ∧ σ' = σ := by
  refine vcalls_intro (C := cfg Tryz.prog [] [] []) (cfg_ok mixed) Tryz.func132 rfl rfl rfl rfl rfl ?_
  simp only [go_sem]
  refine vgo_call rfl rfl rfl rfl (c_index nl c l p g xs ys hl σ hg) ?_
  simp only [go_sem, idxO_nonneg]
theorem c_right1 (o : OV) (σ : St) : VCalls Tryz.prog 130 [ov o] σ fun r σ' => r = .bool (oddB o) ∧ σ' = σ := by
  refine vcalls_intro (C := cfg Tryz.prog [] [] []) (cfg_ok mixed) Tryz.func130 rfl rfl rfl rfl rfl ?_
  have t5 : ((o.t.toNat : Int) == 5) = (o.t == 5) := toNat_beq _ 5
  have t4 : ((o.d.length : Int) == 4) = (o.d.length == 4) := by rw [Bool.eq_iff_iff]; simp; omega
  unfold oddB
  simp only [go_sem, ov, t5, bv_length]
  cases q1 : o.t == 5
  · simp only [go_sem, q1, Bool.false_and]
  · simp only [go_sem, q1, bv_length, t4, bne, Bool.true_and]
set_option maxRecDepth 20000 in
theorem c_nright (n : NgV) (hE : encOK n.ours = true) (σ : St) : VCalls Tryz.prog 69 [ngv n] σ fun r σ' => r = .bool (rightN n) ∧ σ' = σ := by
  refine vcalls_intro (C := cfg Tryz.prog [] [] []) (cfg_ok mixed) Tryz.func69 rfl rfl rfl rfl rfl ?_
  have hlo : n.ours.length ≤ lim := by have := enc_len hE; unfold lim; omega
  have he : decide ((encL n.ours).length ≤ 1496) = true := by unfold encOK at hE; simp only [Bool.and_eq_true] at hE; exact hE.2
  simp -implicitDefEqProofs only [go_sem, ngv, ngC]
  refine vgo_call rfl rfl rfl rfl (c_bytesE n.on n.oc hE σ) ?_
  simp -implicitDefEqProofs only [go_sem]
  refine vgo_call rfl rfl rfl rfl (c_aright n.a σ) ?_
  unfold rightN
  rw [he]
  cases aokB n.a
  · simp -implicitDefEqProofs only [go_sem, Bool.false_and]
  simp -implicitDefEqProofs only [go_sem, Bool.true_and]
  cases q2 : decide (0 ≤ n.naks)
  · simp -implicitDefEqProofs only [go_sem, q2, Bool.false_and]
  simp -implicitDefEqProofs only [go_sem, q2, Bool.true_and]
  cases q3 : decide (n.naks ≤ 3)
  · simp -implicitDefEqProofs only [go_sem, q3, Bool.false_and]
  simp -implicitDefEqProofs only [go_sem, q3, Bool.true_and]
  refine vgo_call rfl rfl rfl rfl (c_containsO n.on n.oc n.ours oddB _ [] [] hlo σ fun o => c_right1 o σ) ?_
  simp -implicitDefEqProofs only [go_sem]

/-- A protocol at its beginning. -/
def newN (r : RV) : NgV := ⟨⟨0, 0, 0, 0⟩, r, rAsk r, false, true, 0, [], true, false, 0⟩
set_option maxRecDepth 20000 in
theorem c_new (r : RV) (σ : St) : VCalls Tryz.prog 56 [rv r] σ fun x σ' => x = ngv (newN r) ∧ σ' = σ := by
  refine vcalls_intro (C := cfg Tryz.prog [] [] []) (cfg_ok mixed) Tryz.func56 rfl rfl rfl rfl rfl ?_
  have ha := c_ask r σ
  unfold rv rvC at ha
  simp -implicitDefEqProofs only [go_sem, rv, rvC]
  refine w_walk2 [4] [0, 1, 2, 3, 4] [3, 4, 5, 6] [0, 0, 2, 7, 15] rfl rfl rfl rfl ?_
  simp -implicitDefEqProofs only [go_sem]
  refine vdgo_call rfl rfl rfl rfl ha ?_
  simp -implicitDefEqProofs only [go_sem, ngv, ngC, newN]
  rfl

end Go.VL

/- Contracts of this program's functions: protocols whose peer's row may be nil; the document's example. Conditions: none. -/
namespace Go.VL
open Go.Proofs

def NgOK (n : NgV) : Prop := n.ps = 2 ∨ (n.pn = true ∧ n.peer = [])
def fullN (n : NgV) : NgV := { n with ps := 2 }
theorem lapp_cons {α : Type} (a : α) (l m : List α) : List.append (a :: l) m = a :: List.append l m := rfl
theorem lapp_nil {α : Type} (m : List α) : List.append [] m = m := rfl
/-! The example. -/
theorem x_a1 : (nextP 0 2).2.2 = true := by decide +kernel
theorem x_a2 : doA ⟨0, 0, 0, 0⟩ 2 = (⟨1, 0, 0, 0⟩, [3], 0) := by decide +kernel
theorem x_b1 : (nextP 1 0).2.2 = true := by decide +kernel
theorem x_b2 : doA ⟨1, 0, 0, 0⟩ 0 = (⟨6, 4, 3, 1⟩, [5, 7], 0) := by decide +kernel
theorem ev_of {n : NgV} {e : Int} (pid : UInt8) (reply : PkV) {a' : AuV} {l : List Int} {m : NgV} (h1 : (nextP n.a.st e).2.2 = true) (h2 : doA n.a e = (a', l, 0)) (h3 : actN (withA n a') n.a.st l = m) : evW n e pid reply = (m, outV (outsOf m pid reply l), telV (toldOf l)) := by
  have hd : doneB n e = true := h1
  unfold evW evOV evTV evO evT evN
  rw [hd, h2]
  simp only [cond_true]
  rw [h3]
end Go.VL

/- Protocols that are right, and events that leave an automaton as it is, in plain Lean. Conditions: none. -/
namespace Go.VL
open Go.Proofs

theorem eqO_self (o : OV) : eqO o o = true := by simp [eqO]
theorem same_self : ∀ l : List OV, same l l = true
  | [] => rfl
  | o :: l => by simp [same, eqO_self, same_self l]
theorem cellsEq_prim : ∀ l : List V, (∀ x ∈ l, (∃ k n, x = .int k n) ∨ ∃ b, x = .bool b) → cellsEq l l = true
  | [], _ => rfl
  | x :: l, h => by
    have ih := cellsEq_prim l fun y hy => h y (List.mem_cons_of_mem _ hy)
    rcases h x List.mem_cons_self with ⟨k, n, rfl⟩ | ⟨b, rfl⟩
    · simp [cellsEq, cellEq, ih]
    · simp [cellsEq, cellEq, ih]
theorem sameN_self (n : NgV) : sameN n n = true := by
  have h1 : eqAu n.a n.a = true := cellsEq_prim _ (by simp [auC])
  have h2 : eqRu n.r n.r = true := cellsEq_prim _ (by simp [rvC])
  unfold sameN
  rw [same_self, same_self, h1, h2]
  simp

/-- A protocol that is right, and can be told as bytes. -/
structure Good (n : NgV) : Prop where
  a : aokB n.a = true
  k : 0 ≤ n.naks ∧ n.naks ≤ 3
  e : encOK n.ours = true
  o : n.ours.any oddB = false
theorem few_data {l : List OV} (h : few l = true) : ∀ o ∈ l, o.d.length ≤ 253 := by
  unfold few at h
  simp only [Bool.and_eq_true, List.all_eq_true] at h
  intro o ho
  have := h.2 o ho
  unfold smallO at this
  simpa using this
theorem few_len {l : List OV} (h : few l = true) : l.length ≤ 30 := by
  unfold few at h
  simp only [Bool.and_eq_true, decide_eq_true_eq] at h
  exact h.1
theorem good_of {n : NgV} (hf : few n.ours = true) (h : rightN n = true) : Good n := by
  unfold rightN at h
  simp only [Bool.and_eq_true, decide_eq_true_eq, Bool.not_eq_true'] at h
  obtain ⟨⟨⟨⟨h1, h2⟩, h3⟩, h4⟩, h5⟩ := h
  refine ⟨h1, ⟨h2, h3⟩, ?_, h5⟩
  unfold encOK
  simp only [Bool.and_eq_true, decide_eq_true_eq, List.all_eq_true]
  exact ⟨few_data hf, h4⟩
theorem Good.right {n : NgV} (h : Good n) : rightN n = true := by
  have he := h.e
  unfold encOK at he
  simp only [Bool.and_eq_true, decide_eq_true_eq] at he
  unfold rightN
  rw [h.a, h.o]
  simp [h.k.1, h.k.2, he.2]
theorem Good.st {n : NgV} (h : Good n) : 0 ≤ n.a.st ∧ n.a.st ≤ 9 := by
  have := h.a
  unfold aokB at this
  simp only [Bool.and_eq_true, decide_eq_true_eq] at this
  exact this.1.1.1
theorem Good.cnt {n : NgV} (h : Good n) : 0 ≤ n.a.cnt ∧ n.a.cnt ≤ 5 := by
  have := h.a
  unfold aokB at this
  simp only [Bool.and_eq_true, decide_eq_true_eq] at this
  exact ⟨this.1.1.2, this.1.2⟩
theorem Good.left {n : NgV} (h : Good n) : (bif timedB n.a.st then n.a.left else 0) = n.a.left ∧ 0 ≤ n.a.left ∧ n.a.left ≤ 3 := by
  have := h.a
  unfold aokB at this
  simp only [Bool.and_eq_true, decide_eq_true_eq] at this
  have := this.2
  cases ht : timedB n.a.st
  · rw [ht] at this
    simp only [cond_false, beq_iff_eq] at this
    rw [this]
    exact ⟨rfl, Int.le_refl _, by decide⟩
  · rw [ht] at this
    simp only [cond_true, Bool.and_eq_true, decide_eq_true_eq] at this
    exact ⟨rfl, by omega, this.2⟩

/-- What is asked for stays such, whatever is turned. -/
theorem enc_data' {l : List OV} (h : encOK l = true) : ∀ o ∈ l, o.d.length ≤ 253 := by
  unfold encOK at h
  simp only [Bool.and_eq_true, List.all_eq_true, decide_eq_true_eq] at h
  exact h.1
theorem encL_cons (o : OV) (l : List OV) : (encL (o :: l)).length = 2 + o.d.length + (encL l).length := by
  show (encO o ++ encL l).length = _
  rw [List.length_append]
  unfold encO
  simp
  omega
theorem encL_app (l m : List OV) : (encL (l ++ m)).length = (encL l).length + (encL m).length := by
  induction l with
  | nil => show (encL m).length = 0 + _; omega
  | cons o l ih => rw [List.cons_append, encL_cons, encL_cons, ih]; omega
theorem encL_filter (p : OV → Bool) (l : List OV) : (encL (l.filter p)).length ≤ (encL l).length := by
  induction l with
  | nil => exact Nat.le_refl _
  | cons o l ih =>
    rw [List.filter_cons]
    split
    · rw [encL_cons, encL_cons]; omega
    · rw [encL_cons]; omega
def goodL (l : List OV) : Prop := encOK l = true ∧ l.any oddB = false
theorem goodL_keep {l : List OV} (h : goodL l) (p : OV → Bool) : goodL (keepO p l) := by
  obtain ⟨h1, h2⟩ := h
  have hd := enc_data' h1
  unfold encOK at h1
  simp only [Bool.and_eq_true, decide_eq_true_eq] at h1
  unfold keepO
  refine ⟨?_, ?_⟩
  · unfold encOK
    simp only [Bool.and_eq_true, decide_eq_true_eq, List.all_eq_true]
    exact ⟨fun o ho => hd o (List.mem_filter.1 ho).1, Nat.le_trans (encL_filter _ _) h1.2⟩
  · rw [List.any_eq_false] at h2 ⊢
    exact fun o ho => h2 o (List.mem_filter.1 ho).1
theorem putGo_good (v : UInt32) : ∀ (l acc : List OV) (b : Bool), (∀ o ∈ l, oddB o = false) →
    (encL (l.foldl (putStep (numO 5 4 v)) (acc, b)).1).length = (encL acc).length + (encL l).length ∧ (∀ o ∈ (l.foldl (putStep (numO 5 4 v)) (acc, b)).1, o ∈ acc ∨ o ∈ l ∨ o = numO 5 4 v) ∧ (l.foldl (putStep (numO 5 4 v)) (acc, b)).2 = (b || l.any fun o => o.t == 5)
  | [], acc, b, _ => ⟨rfl, fun o ho => .inl ho, by simp⟩
  | x :: l, acc, b, h => by
    have hx : oddB x = false := h x List.mem_cons_self
    have hl : ∀ o ∈ l, oddB o = false := fun o ho => h o (List.mem_cons_of_mem _ ho)
    rw [List.foldl_cons]
    cases hc : !b && (x.t == 5)
    · have hs : putStep (numO 5 4 v) (acc, b) x = (acc ++ [x], b) := by
        unfold putStep
        change (bif !b && (x.t == 5) then _ else _) = _
        rw [hc]
        rfl
      rw [hs]
      obtain ⟨h1, h2, h3⟩ := putGo_good v l (acc ++ [x]) b hl
      refine ⟨?_, ?_, ?_⟩
      · rw [h1, encL_app, encL_cons, encL_cons]
        show _ + (2 + _ + 0) + _ = _
        omega
      · intro o ho
        rcases h2 o ho with h2 | h2 | h2
        · rcases List.mem_append.1 h2 with h2 | h2
          · exact .inl h2
          · exact .inr (.inl (by rw [List.mem_singleton.1 h2]; exact List.mem_cons_self))
        · exact .inr (.inl (List.mem_cons_of_mem _ h2))
        · exact .inr (.inr h2)
      · rw [h3, List.any_cons]
        cases b
        · simp only [Bool.not_false, Bool.true_and] at hc
          rw [hc]
          rfl
        · rfl
    · have hs : putStep (numO 5 4 v) (acc, b) x = (acc ++ [numO 5 4 v], true) := by
        unfold putStep
        change (bif !b && (x.t == 5) then _ else _) = _
        rw [hc]
        rfl
      rw [hs]
      obtain ⟨h1, h2, h3⟩ := putGo_good v l (acc ++ [numO 5 4 v]) true hl
      simp only [Bool.and_eq_true] at hc
      have hd : x.d.length = 4 := by
        unfold oddB at hx
        rw [hc.2] at hx
        simpa using hx
      refine ⟨?_, ?_, ?_⟩
      · rw [h1, encL_app, encL_cons, encL_cons, hd]
        show _ + (2 + 4 + 0) + _ = _
        omega
      · intro o ho
        rcases h2 o ho with h2 | h2 | h2
        · rcases List.mem_append.1 h2 with h2 | h2
          · exact .inl h2
          · exact .inr (.inr (List.mem_singleton.1 h2))
        · exact .inr (.inl (List.mem_cons_of_mem _ h2))
        · exact .inr (.inr h2)
      · rw [h3, List.any_cons, hc.2]
        simp
theorem goodL_put {l : List OV} (h : goodL l) (v : UInt32) (hf : (findO l 5).isSome = true) : goodL (putO l (numO 5 4 v)) := by
  obtain ⟨h1, h2⟩ := h
  have hd := enc_data' h1
  have ho : ∀ o ∈ l, oddB o = false := fun o ho => by
    rw [List.any_eq_false] at h2
    simpa using h2 o ho
  unfold encOK at h1
  simp only [Bool.and_eq_true, decide_eq_true_eq] at h1
  obtain ⟨g1, g2, g3⟩ := putGo_good v l [] false ho
  have hany : (l.any fun o => o.t == 5) = true := by
    cases hq : findO l 5 with
    | none => rw [hq] at hf; cases hf
    | some o => exact List.any_eq_true.2 ⟨o, (findO_mem hq).1, (findO_mem hq).2⟩
  have hp : putO l (numO 5 4 v) = (putGo l (numO 5 4 v)).1 := by
    unfold putO
    have : (putGo l (numO 5 4 v)).2 = true := by
      unfold putGo
      rw [g3, hany]
      rfl
    rw [this]
    rfl
  rw [hp]
  unfold putGo
  have hm : ∀ o ∈ (l.foldl (putStep (numO 5 4 v)) ([], false)).1, o ∈ l ∨ o = numO 5 4 v := fun o ho => by
    rcases g2 o ho with h | h | h
    · cases h
    · exact .inl h
    · exact .inr h
  refine ⟨?_, ?_⟩
  · unfold encOK
    simp only [Bool.and_eq_true, decide_eq_true_eq, List.all_eq_true]
    refine ⟨fun o ho => ?_, ?_⟩
    · rcases hm o ho with h | h
      · exact hd o h
      · rw [h]; show (4 : Nat) ≤ 253; decide
    · rw [g1]
      show 0 + _ ≤ _
      omega
  · rw [List.any_eq_false]
    intro o hx
    rcases hm o hx with h | h
    · rw [ho o h]; simp
    · rw [h]
      show ¬ (oddB (numO 5 4 v)) = true
      have : oddB (numO 5 4 v) = false := rfl
      rw [this]
      simp
theorem turn_good {n : NgV} (h : goodL n.ours) {code : UInt8} {l o : List OV} {on oc : Bool} (ht : turnP n code l = some (o, on, oc)) : goodL o := by
  unfold turnP at ht
  cases h1 : !n.r.ip && (findO l 3).isSome
  · rw [h1] at ht
    simp only [cond_false] at ht
    cases h2 : code == 4
    · rw [h2] at ht
      simp only [cond_false] at ht
      cases h3 : code != 3
      · rw [h3] at ht
        simp only [cond_false] at ht
        cases h4 : !n.r.ip && (findO l 5).isSome && (findO n.ours 5).isSome
        · rw [h4] at ht
          simp only [cond_false, Option.some.injEq, Prod.mk.injEq] at ht
          rw [← ht.1]
          exact h
        · rw [h4] at ht
          simp only [cond_true, Option.some.injEq, Prod.mk.injEq] at ht
          rw [← ht.1]
          simp only [Bool.and_eq_true] at h4
          exact goodL_put h _ h4.2
      · rw [h3] at ht
        simp at ht
    · rw [h2] at ht
      simp only [cond_true, Option.some.injEq, Prod.mk.injEq] at ht
      rw [← ht.1]
      split
      · exact ⟨rfl, rfl⟩
      · exact goodL_keep h _
  · rw [h1] at ht
    simp at ht
end Go.VL

/- What an event leaves, and what a packet does, in plain Lean. Conditions: none. -/
namespace Go.VL
open Go.Proofs

def has6 (l : List Int) : Bool := l.any fun x => x == 6 || x == 7 || x == 10
def sends (x : Int) : Bool := x == 7 || x == 8 || x == 9 || x == 10 || x == 11 || x == 12 || x == 13
/-- What the state table keeps. -/
def tabQ (s e : Int) (x : List Int × Int × Bool) : Bool :=
  bif x.2.2 then decide (0 ≤ x.2.1) && decide (x.2.1 ≤ 9) && (x.1.any (· == 1) == (x.2.1 == 9 && !(s == 9))) && (x.1.any (· == 2) == (s == 9 && !(x.2.1 == 9))) && decide ((x.1.filter sends).length ≤ 2) &&
    (!timedB x.2.1 || has6 x.1 || (timedB s && !(e == 4) && !(e == 5)))
  else !(timedB s && (e == 4 || e == 5))
theorem tab_q : ∀ s : Fin 10, ∀ e : Fin 16, tabQ s.val e.val (nextP s.val e.val) = true := by decide +kernel
theorem next_q {s e : Int} (hs : 0 ≤ s ∧ s ≤ 9) (he : 0 ≤ e ∧ e ≤ 15) : tabQ s e (nextP s e) = true := by
  have := tab_q ⟨s.toNat, by omega⟩ ⟨e.toNat, by omega⟩
  have e1 : ((s.toNat : Nat) : Int) = s := by omega
  have e2 : ((e.toNat : Nat) : Int) = e := by omega
  simp only [e1, e2] at this
  exact this
theorem next_range {s e : Int} (h : (nextP s e).2.2 = true) : (0 ≤ s ∧ s ≤ 9) ∧ 0 ≤ e ∧ e ≤ 15 := by
  unfold nextP at h
  cases hc : decide (0 ≤ s) && decide (s ≤ 9) && decide (0 ≤ e) && decide (e ≤ 15)
  · rw [hc] at h; cases h
  · simp only [Bool.and_eq_true, decide_eq_true_eq] at hc
    exact ⟨hc.1.1, hc.1.2, hc.2⟩

theorem fold_left (l : List Int) : ∀ (m : List Int) (a : AuV), (m.foldl (actA l) a).left = bif has6 m then 3 else a.left
  | [], a => rfl
  | x :: m, a => by
    rw [List.foldl_cons, fold_left l m]
    have hh : has6 (x :: m) = ((x == 6 || x == 7 || x == 10) || has6 m) := by unfold has6; rw [List.any_cons]
    rw [hh]
    unfold actA
    split
    · rename_i h5
      subst h5
      rfl
    split
    · rename_i h6
      subst h6
      simp
    split
    · rename_i h7
      rcases h7 with rfl | rfl <;> simp
    · rename_i h5 h6 h7
      have e6 : (x == 6) = false := by simpa using h6
      have e7 : (x == 7) = false := by simp; omega
      have e10 : (x == 10) = false := by simp; omega
      rw [e6, e7, e10]
      rfl
theorem fold_cnt (l : List Int) : ∀ (m : List Int) (a : AuV), 0 ≤ a.cnt ∧ a.cnt ≤ 5 → 0 ≤ (m.foldl (actA l) a).cnt ∧ (m.foldl (actA l) a).cnt ≤ 5
  | [], _, h => h
  | x :: m, a, h => by
    rw [List.foldl_cons]
    exact fold_cnt l m _ (actA_bound h x)
/-- What an event leaves is right. -/
theorem do_ok {a : AuV} {e : Int} (hc : 0 ≤ a.cnt ∧ a.cnt ≤ 5) (hd : (nextP a.st e).2.2 = true) (hl : timedB (nextP a.st e).2.1 = true → has6 (nextP a.st e).1 = true ∨ 1 ≤ a.left ∧ a.left ≤ 3) : aokB (doA a e).1 = true := by
  obtain ⟨hs, he⟩ := next_range hd
  have hq := next_q hs he
  unfold tabQ at hq
  rw [hd] at hq
  simp only [cond_true, Bool.and_eq_true, decide_eq_true_eq] at hq
  have hcn := fold_cnt (nextP a.st e).1 (nextP a.st e).1 a hc
  have hlf := fold_left (nextP a.st e).1 (nextP a.st e).1 a
  unfold doA
  rw [hd]
  simp only [cond_true]
  unfold aokB
  simp only [Bool.and_eq_true, decide_eq_true_eq]
  refine ⟨⟨⟨hq.1.1.1.1, hcn.1⟩, hcn.2⟩, ?_⟩
  cases ht : timedB (nextP a.st e).2.1
  · rfl
  · simp only [cond_true, Bool.and_eq_true, decide_eq_true_eq]
    rw [hlf]
    rcases hl ht with h | h
    · rw [h]; exact ⟨by show (1 : Int) ≤ 3; decide, Int.le_refl _⟩
    · cases has6 (nextP a.st e).1
      · exact h
      · exact ⟨by show (1 : Int) ≤ 3; decide, Int.le_refl _⟩

theorem ask_odd (r : RV) : (rAsk r).any oddB = false := by
  unfold rAsk
  cases r.ip <;> rfl
/-- Protocols but for the automaton. -/
structure Half (n : NgV) : Prop where
  k : 0 ≤ n.naks ∧ n.naks ≤ 3
  e : encOK n.ours = true
  o : n.ours.any oddB = false
theorem Good.half {n : NgV} (h : Good n) : Half n := ⟨h.k, h.e, h.o⟩
theorem act_half {n : NgV} (h : Half n) (a : AuV) (was : Int) (l : List Int) : Half (actN (withA n a) was l) := by
  unfold actN
  cases resetB was l
  · exact ⟨h.k, h.e, h.o⟩
  · exact ⟨⟨Int.le_refl _, by show (0 : Int) ≤ 3; decide⟩, ask_enc _, ask_odd _⟩
theorem act_a (n : NgV) (a : AuV) (was : Int) (l : List Int) : (actN (withA n a) was l).a = a := by
  unfold actN
  cases resetB was l <;> rfl
theorem ev_a {n : NgV} {e : Int} (h : doneB n e = true) : (evN n e).a = (doA n.a e).1 := by
  unfold evN
  rw [h]
  exact act_a _ _ _ _
theorem ev_good {n : NgV} (h : Good n) (e : Int) : Good (evN n e) := by
  cases hd : doneB n e
  · unfold evN
    rw [hd]
    exact h
  · have hh : Half (evN n e) := by
      unfold evN
      rw [hd]
      exact act_half h.half _ _ _
    refine ⟨?_, hh.k, hh.e, hh.o⟩
    rw [ev_a hd]
    have hd' : (nextP n.a.st e).2.2 = true := hd
    obtain ⟨hs, he⟩ := next_range hd'
    have hq := next_q hs he
    refine do_ok h.cnt hd' fun ht => ?_
    unfold tabQ at hq
    rw [hd'] at hq
    simp only [cond_true, Bool.and_eq_true, decide_eq_true_eq, Bool.or_eq_true, Bool.not_eq_true'] at hq
    rcases hq.2 with (h1 | h1) | h1
    · rw [ht] at h1; cases h1
    · exact .inl h1
    · right
      have ha := h.a
      unfold aokB at ha
      rw [h1.1.1] at ha
      simp only [cond_true, Bool.and_eq_true, decide_eq_true_eq] at ha
      exact ha.2

/-- Is it told to be up, or down, just when it should be? -/
def upB (was is : Bool) (l : List Int) : Bool := (l.any (· == 1) == (is && !was)) && (l.any (· == 2) == (was && !is))
theorem told_any (l : List Int) (x : Int) (hx : (x == 1 || x == 2 || x == 3 || x == 4) = true) : (toldOf l).any (· == x) = l.any (· == x) := by
  unfold toldOf
  induction l with
  | nil => rfl
  | cons y l ih =>
    rw [List.filter_cons]
    split
    · rw [List.any_cons, List.any_cons, ih]
    · rename_i hy
      rw [ih, List.any_cons]
      have : (y == x) = false := by
        cases hq : y == x
        · rfl
        · rw [beq_iff_eq.1 hq] at hy
          exact absurd hx hy
      rw [this, Bool.false_or]
theorem up_do {a : AuV} {e : Int} (hd : (nextP a.st e).2.2 = true) : upB (a.st == 9) ((doA a e).1.st == 9) (toldOf (doA a e).2.1) = true := by
  obtain ⟨hs, he⟩ := next_range hd
  have hq := next_q hs he
  unfold tabQ at hq
  rw [hd] at hq
  simp only [cond_true, Bool.and_eq_true] at hq
  unfold upB
  rw [told_any _ 1 rfl, told_any _ 2 rfl]
  unfold doA
  rw [hd]
  simp only [cond_true, Bool.and_eq_true]
  exact ⟨hq.1.1.1.2, hq.1.1.2⟩
theorem up_stay (b : Bool) : upB b b [] = true := by cases b <;> rfl
/-! A tick. -/
theorem tick_good {n : NgV} (h : Good n) : Good (tickW n).1 ∧ upB (n.a.st == 9) ((tickW n).1.a.st == 9) (toldOf (tickA n.a).2) = true := by
  have hh : Half (tickW n).1 := act_half h.half _ _ _
  have ha : (tickW n).1.a = (tickA n.a).1 := act_a _ _ _ _
  suffices hs : aokB (tickA n.a).1 = true ∧ upB (n.a.st == 9) ((tickA n.a).1.st == 9) (toldOf (tickA n.a).2) = true from ⟨⟨by rw [ha]; exact hs.1, hh.k, hh.e, hh.o⟩, by rw [ha]; exact hs.2⟩
  have hst := h.st
  have hl := h.left
  have hok := h.a
  unfold tickA
  cases h0 : n.a.left == 0
  · simp only [cond_false]
    have h0' : n.a.left ≠ 0 := by simpa using h0
    have ht : timedB n.a.st = true := by
      cases hq : timedB n.a.st
      · have := hl.1
        rw [hq] at this
        simp only [cond_false] at this
        omega
      · rfl
    cases h1 : decide (0 < n.a.left - 1)
    · simp only [cond_false]
      have he : ∀ e : Int, e = 4 ∨ e = 5 → aokB (doA { n.a with left := n.a.left - 1 } e).1 = true ∧ upB (n.a.st == 9) ((doA { n.a with left := n.a.left - 1 } e).1.st == 9) (toldOf (doA { n.a with left := n.a.left - 1 } e).2.1) = true := fun e he => by
        have hq := next_q hst (by omega : 0 ≤ e ∧ e ≤ 15)
        have h45 : (e == 4 || e == 5) = true := by rcases he with rfl | rfl <;> rfl
        cases hd : (nextP n.a.st e).2.2
        · unfold tabQ at hq
          rw [hd, ht, h45] at hq
          cases hq
        · refine ⟨do_ok (a := { n.a with left := n.a.left - 1 }) h.cnt hd fun htm => ?_, up_do (a := { n.a with left := n.a.left - 1 }) hd⟩
          unfold tabQ at hq
          rw [hd] at hq
          simp only [cond_true, Bool.and_eq_true, Bool.or_eq_true, Bool.not_eq_true'] at hq
          rcases hq.2 with (h1 | h1) | h1
          · rw [htm] at h1; cases h1
          · exact .inl h1
          · rcases he with rfl | rfl
            · have := h1.1.2; cases this
            · have := h1.2; cases this
      cases hcn : decide (0 < n.a.cnt)
      · exact he 5 (.inr rfl)
      · exact he 4 (.inl rfl)
    · simp only [cond_true]
      refine ⟨?_, up_stay _⟩
      have h1' : 0 < n.a.left - 1 := of_decide_eq_true h1
      unfold aokB at hok ⊢
      rw [ht] at hok ⊢
      simp only [cond_true, Bool.and_eq_true, decide_eq_true_eq] at hok ⊢
      exact ⟨hok.1, by omega⟩
  · simp only [cond_true]
    exact ⟨hok, up_stay _⟩

end Go.VL

/- What a packet does: which event, with which reply; what is sent and told. Conditions: none. -/
namespace Go.VL
open Go.Proofs

structure ReplyOK (p q : PkV) : Prop where
  c1 : q.code ≠ 1
  c2 : q.code = 2 → p.code = 1 ∧ q.id = p.id ∧ q.d = p.d ∧ q.sz = 1
  cx : q.code = 6 ∨ q.code = 10 ∨ q.code = 3 ∨ q.code = 4 → q.id = p.id
  l : q.d.length ≤ 1496
  z : PkOK q
theorem zero_ok (p : PkV) : ReplyOK p zPk := ⟨by decide, fun h => absurd h (by decide), fun h => absurd h (by decide), Nat.zero_le _, .inr ⟨rfl, rfl⟩⟩
/-- A packet does nothing, or an event. -/
inductive TakeIs (n : NgV) (p : PkV) : RS → Prop
  | stay : TakeIs n p (stayW n)
  | ev (n0 m : NgV) (e : Int) (reply : PkV) (h0 : Good n0) (ha : n0.a = n.a) (hr : ReplyOK p reply) (hma : m.a = (evN n0 e).a) (hmo : m.ours = (evN n0 e).ours) (hm : Good m) : TakeIs n p (m, (evW n0 e p.id reply).2)
theorem TakeIs.plain {n : NgV} (h : Good n) (p : PkV) (e : Int) {reply : PkV} (hr : ReplyOK p reply) : TakeIs n p (evW n e p.id reply) := .ev n (evN n e) e reply h rfl hr rfl rfl (ev_good h e)

theorem parse_encOK {nl : Bool} {d : List UInt8} {l : List OV} (h : parse nl [] d = some l) (hd : d.length ≤ 1496) : encOK l = true ∧ encL l = d := by
  obtain ⟨l', h1, h2, h3, h4⟩ := enc_parse nl d.length d [] l (Nat.le_refl _) h
  rw [List.nil_append] at h1
  subst h1
  refine ⟨?_, h2⟩
  unfold encOK
  simp only [Bool.and_eq_true, decide_eq_true_eq, List.all_eq_true]
  exact ⟨h3, by rw [h2]; exact hd⟩
theorem ans_code (r : RV) (l : List OV) (naks : Int) : (ansP r l naks).1 ≠ 1 ∧ ((ansP r l naks).1 = 2 → (ansP r l naks).2 = l) := by
  unfold ansP
  cases !(refL r l (decide (3 ≤ naks))).isEmpty
  · cases !decide (3 ≤ naks) && !(toL r l).isEmpty
    · exact ⟨by show (2 : UInt8) ≠ 1; decide, fun _ => rfl⟩
    · exact ⟨by show (3 : UInt8) ≠ 1; decide, fun h => absurd (show (3 : UInt8) = 2 from h) (by decide)⟩
  · exact ⟨by show (4 : UInt8) ≠ 1; decide, fun h => absurd (show (4 : UInt8) = 2 from h) (by decide)⟩
theorem rep_len (code id : UInt8) (m : List OV) : (repP code id m).d.length ≤ 1496 := by
  unfold repP
  cases he : encOK m
  · exact Nat.zero_le _
  · unfold encOK at he
    simp only [Bool.and_eq_true, decide_eq_true_eq] at he
    exact he.2
theorem rep_z (code id : UInt8) (m : List OV) : PkOK (repP code id m) := by
  unfold repP
  cases encOK m
  · exact .inr ⟨rfl, rfl⟩
  · exact .inl rfl
theorem req_good {n : NgV} (h : Good n) : Good (reqN n) ∧ (reqN n).a = n.a := by
  unfold reqN
  cases n.a.st == 3
  · exact ⟨h, rfl⟩
  · exact ⟨⟨h.a, ⟨Int.le_refl _, by show (0 : Int) ≤ 3; decide⟩, h.e, h.o⟩, rfl⟩
theorem take_is {n : NgV} (h : Good n) (p : PkV) (hd : p.d.length ≤ 1496) : TakeIs n p (takeW n p) := by
  unfold takeW
  cases decide (n.a.st ≤ 1)
  · simp only [cond_false]
    cases !knownC n.r.ip p.code
    · simp only [cond_false]
      unfold codeW
      split
      · rename_i hc
        unfold reqW
        cases hq : parse p.nl [] p.d with
        | none => exact .stay
        | some l =>
          simp only
          obtain ⟨hg, ha⟩ := req_good h
          obtain ⟨he, hel⟩ := parse_encOK hq hd
          generalize reqN n = n1 at hg ha
          obtain ⟨a1, a2⟩ := ans_code n1.r l n1.naks
          have hrp := rep_code (ansP n1.r l n1.naks).1 p.id (ansP n1.r l n1.naks).2
          have hrl := rep_len (ansP n1.r l n1.naks).1 p.id (ansP n1.r l n1.naks).2
          have hok : ReplyOK p (repP (ansP n1.r l n1.naks).1 p.id (ansP n1.r l n1.naks).2) := by
            refine ⟨by rw [hrp.1]; exact a1, fun h2 => ⟨hc, hrp.2, ?_, ?_⟩, fun _ => hrp.2, hrl, rep_z _ _ _⟩
            · rw [hrp.1] at h2
              rw [a2 h2]
              unfold repP
              rw [he]
              exact hel
            · rw [hrp.1] at h2
              rw [a2 h2]
              unfold repP
              rw [he]
              rfl
          have hev := ev_good hg (reqE n1 l)
          cases decide ((8 : Int) ∈ evL n1 (reqE n1 l)) || decide ((9 : Int) ∈ evL n1 (reqE n1 l))
          · exact .ev n1 _ _ _ hg ha hok rfl rfl hev
          · simp only [cond_true]
            cases (ansP n1.r l n1.naks).1 == 2
            · simp only [cond_false]
              cases (ansP n1.r l n1.naks).1 == 3
              · exact .ev n1 _ _ _ hg ha hok rfl rfl hev
              · have hk := hev.k
                refine .ev n1 _ _ _ hg ha hok rfl rfl ⟨hev.a, ?_, hev.e, hev.o⟩
                show 0 ≤ min ((evN n1 (reqE n1 l)).naks + 1) 3 ∧ min ((evN n1 (reqE n1 l)).naks + 1) 3 ≤ 3
                omega
            · exact .ev n1 _ _ _ hg ha hok rfl rfl ⟨hev.a, ⟨Int.le_refl _, by show (0 : Int) ≤ 3; decide⟩, hev.e, hev.o⟩
      split
      · unfold ackW
        cases p.id == n.a.id && decide (encL n.ours = p.d)
        · exact .stay
        · exact .plain h p 8 (zero_ok p)
      split
      · unfold nakW
        cases hq : parse p.nl [] p.d with
        | none => exact .stay
        | some l =>
          simp only
          cases p.id == n.a.id
          · exact .stay
          · simp only [cond_true]
            cases ht : turnP n p.code l with
            | none => exact .plain h p 3 (zero_ok p)
            | some x =>
              obtain ⟨o, on, oc⟩ := x
              obtain ⟨g1, g2⟩ := turn_good ⟨h.e, h.o⟩ ht
              have hg : Good { n with ours := o, on := on, oc := oc } := ⟨h.a, h.k, g1, g2⟩
              exact .ev { n with ours := o, on := on, oc := oc } _ 9 zPk hg rfl (zero_ok p) rfl rfl (ev_good hg 9)
      split
      · exact .plain h p 10 (zero_ok p)
      split
      · exact .plain h p 11 (zero_ok p)
      split
      · exact .plain h p _ (zero_ok p)
      split
      · exact .plain h p _ (zero_ok p)
      split
      · unfold echoW
        cases h4 : decide (4 ≤ p.d.length)
        · exact .stay
        · refine .plain h p 15 (reply := echoP n p) ⟨by show (10 : UInt8) ≠ 1; decide, fun h => absurd (show (10 : UInt8) = 2 from h) (by decide), fun _ => rfl, ?_, .inl rfl⟩
          show (fourB (magicN n) ++ p.d.drop 4).length ≤ 1496
          rw [List.length_append, List.length_drop]
          show 4 + _ ≤ _
          have := of_decide_eq_true h4
          omega
      · exact .stay
    · refine .plain h p 12 ⟨by show (7 : UInt8) ≠ 1; decide, fun h => absurd (show (7 : UInt8) = 2 from h) (by decide), fun h => absurd (show (7 : UInt8) = 6 ∨ (7 : UInt8) = 10 ∨ (7 : UInt8) = 3 ∨ (7 : UInt8) = 4 from h) (by decide), ?_, .inl rfl⟩
      show ((pkB p).take 1496).length ≤ 1496
      rw [List.length_take]
      omega
  · exact .stay

/-- A row, or nil. -/
def IsSl (v : V) (sz : Nat) (es : List V) : Prop := ∃ nl s, v = .sl nl false s es ∧ (s = sz ∨ (nl = true ∧ es = []))
theorem IsSl.ne {v : V} {sz : Nat} {es : List V} (h : IsSl v sz es) : ∃ nl, NE v (.sl nl false sz es) := by
  obtain ⟨nl, s, rfl, rfl | ⟨rfl, rfl⟩⟩ := h
  · exact ⟨nl, .refl _⟩
  · exact ⟨true, .nil _ _ _ _⟩
theorem out_sl (l : List PkV) : IsSl (outV l) 3 (pkvs l) := ⟨_, _, rfl, .inl rfl⟩
theorem tel_sl (l : List Int) : IsSl (telV l) 1 (zv64 l) := ⟨_, _, rfl, .inl rfl⟩
theorem nil_sl (sz : Nat) : IsSl nilV sz [] := ⟨_, _, rfl, .inr ⟨rfl, rfl⟩⟩
theorem ev_sl (n : NgV) (e : Int) (pid : UInt8) (reply : PkV) : IsSl (evW n e pid reply).2.1 3 (pkvs (evO n e pid reply)) ∧ IsSl (evW n e pid reply).2.2 1 (zv64 (evT n e)) := by
  show IsSl (evOV n e pid reply) 3 (pkvs (evO n e pid reply)) ∧ IsSl (evTV n e) 1 (zv64 (evT n e))
  unfold evOV evTV evO evT
  cases doneB n e
  · exact ⟨nil_sl 3, nil_sl 1⟩
  · exact ⟨out_sl _, tel_sl _⟩

theorem told_len (l : List Int) : (toldOf l).length ≤ l.length := List.length_filter_le _ _
theorem do_len (a : AuV) (e : Int) : (doA a e).2.1.length ≤ 10 := by
  unfold doA
  have := next_len a.st e
  cases (nextP a.st e).2.2
  · exact Nat.zero_le _
  · exact this
end Go.VL
