/- Contracts of this program's functions over values, joined texts. Conditions: none. -/
import Derived.Test.YtonjofnphkghcaaGreatDoorSSb
import Derived.Test.YtonjofnphkghcaaGreatDoorSSa
set_option linter.unusedVariables false
set_option linter.unusedSimpArgs false
/- Contracts of this program's functions: what each code does. Conditions: none. -/
namespace Go.VL
open Go.Proofs

/-- What comes of a handler: the protocol, what is sent and told. -/
abbrev RS := NgV × V × V
def evW (n : NgV) (e : Int) (pid : UInt8) (reply : PkV) : RS := (evN n e, evOV n e pid reply, evTV n e)
def zPk : PkV := ⟨0, 0, true, false, 0, []⟩
def stayW (n : NgV) : RS := (n, nilV, nilV)
def nwR (r : RS) (p : PkV) : List V := nwC r.1 r.2.1 r.2.2 p
theorem ask_enc (r : RV) : encOK (rAsk r) = true := by
  unfold rAsk
  cases r.ip <;> rfl
theorem ev_enc {n : NgV} (h : encOK n.ours = true) (e : Int) : encOK (evN n e).ours = true := by
  unfold evN actN
  cases doneB n e
  · exact h
  · simp only [cond_true]
    cases resetB n.a.st (doA n.a e).2.1
    · exact h
    · exact ask_enc _

/-- An event, without a reply, and its result let go. -/
theorem c_event0 (n : NgV) (p : PkV) (e : Int) (h : 0 ≤ n.a.cnt ∧ n.a.cnt ≤ 5) (hE : encOK n.ours = true) (σ : St) (id : Nat) (hσ : σ[id]? = some (.box (nwR (stayW n) p))) :
    VCalls Tryz.prog 74 [.ptr id 0, .int .i64 e, .agg [.int .u8 0, .int .u8 0, .sl true false 0 []]] σ fun r σ' => r = evLV n e ∧ σ' = σ.set id (.box (nwR (evW n e p.id zPk) p)) :=
  c_event n p zPk e h (ev_enc hE e) σ id hσ
theorem evLV_val (n : NgV) (e : Int) : (evLV n e).isVal = true := by
  unfold evLV
  cases doneB n e <;> rfl

section handlers
variable (n : NgV) (p : PkV) (h : 0 ≤ n.a.cnt ∧ n.a.cnt ≤ 5) (hE : encOK n.ours = true) (σ : St) (id : Nat) (hσ : σ[id]? = some (.box (nwR (stayW n) p)))
include h hE hσ
end handlers

end Go.VL

/- Contracts of this program's functions: what a Configure-Request does. Conditions: none. -/
namespace Go.VL
open Go.Proofs

end Go.VL

/- Contracts of this program's functions: what a layer beside it does, a tick, a packet. Conditions: none. -/
namespace Go.VL
open Go.Proofs

def RSok (r : RS) : Prop := (∃ a b c d, r.2.1 = .sl a b c d) ∧ ∃ a b c d, r.2.2 = .sl a b c d
theorem stay_ok (n : NgV) : RSok (stayW n) := ⟨⟨_, _, _, _, rfl⟩, ⟨_, _, _, _, rfl⟩⟩
theorem ev_ok (n : NgV) (e : Int) (pid : UInt8) (reply : PkV) : RSok (evW n e pid reply) := by
  unfold evW evOV evTV RSok
  cases doneB n e <;> exact ⟨⟨_, _, _, _, rfl⟩, ⟨_, _, _, _, rfl⟩⟩
def doW (n : NgV) (e : Int) : RS := bif decide (0 ≤ e) && decide (e ≤ 3) then evW n e 0 zPk else stayW n
def rsV (r : RS) : V := .tup [ngv r.1, r.2.1, r.2.2]

theorem c_toldR (r : RS) (hr : RSok r) (p : PkV) (σ : St) (id : Nat) (hσ : σ[id]? = some (.box (nwR r p))) : VCalls Tryz.prog 75 [.ptr id 0] σ fun x σ' => x = rsV r ∧ σ' = σ := c_told r.1 r.2.1 r.2.2 p hr.1 hr.2 σ id hσ
theorem rsV_sl {r : RS} (hr : RSok r) : ∃ a b c d e f g h, rsV r = .tup [.agg (ngC r.1), .sl a b c d, .sl e f g h] := by
  obtain ⟨⟨a, b, c, d, h1⟩, ⟨e, f, g, h, h2⟩⟩ := hr
  exact ⟨a, b, c, d, e, f, g, h, by unfold rsV; rw [h1, h2]; rfl⟩

set_option maxHeartbeats 4000000 in
set_option maxRecDepth 20000 in
theorem c_ndo (n : NgV) (e : Int) (h : 0 ≤ n.a.cnt ∧ n.a.cnt ≤ 5) (hE : encOK n.ours = true) (σ : St) : VCalls Tryz.prog 27 [ngv n, .int .i64 e] σ fun r σ' => r = rsV (doW n e) ∧ σ' = σ := by
  refine vcalls_intro (C := cfg Tryz.prog [10] [] []) (cfg_ok mixed) Tryz.func27 rfl rfl rfl rfl rfl ?_
  have hat : ∀ B : List V, (σ ++ [VO.box B])[σ.length]? = some (.box B) := fun B => by simp
  have hst : ∀ (B C : List V), (σ ++ [VO.box B]).set σ.length (.box C) = σ ++ [VO.box C] := fun B C => by rw [set_at]; rfl
  simp -implicitDefEqProofs only [go_sem, ngv, ngC]
  unfold doW
  cases c1 : decide (0 ≤ e)
  · simp -implicitDefEqProofs only [go_sem, c1, Bool.false_and, cond_false]
    have hr : RSok (stayW n) := stay_ok n
    obtain ⟨a1, a2, a3, a4, b1, b2, b3, b4, hrs⟩ := rsV_sl hr
    have htd := c_toldR (stayW n) hr zPk _ σ.length (hat _)
    rw [hrs] at htd
    unfold ngC at htd hrs
    refine vgo_call rfl rfl rfl rfl htd ?_
    simp -implicitDefEqProofs only [go_sem]
    exact hrs.symm
  simp -implicitDefEqProofs only [go_sem, c1, Bool.true_and]
  cases c2 : decide (e ≤ 3)
  · simp -implicitDefEqProofs only [go_sem, c2, cond_false]
    have hr : RSok (stayW n) := stay_ok n
    obtain ⟨a1, a2, a3, a4, b1, b2, b3, b4, hrs⟩ := rsV_sl hr
    have htd := c_toldR (stayW n) hr zPk _ σ.length (hat _)
    rw [hrs] at htd
    unfold ngC at htd hrs
    refine vgo_call rfl rfl rfl rfl htd ?_
    simp -implicitDefEqProofs only [go_sem]
    exact hrs.symm
  · simp -implicitDefEqProofs only [go_sem, c2, cond_true]
    refine vgo_call' rfl rfl rfl (c_event0 n zPk e h hE _ σ.length (hat _)) ?_
    rintro r σ' ⟨rfl, rfl⟩
    refine ⟨evLV_val _ _, ?_⟩
    simp -implicitDefEqProofs only [go_sem, hst]
    have hr : RSok (evW n e 0 zPk) := ev_ok n e 0 zPk
    obtain ⟨a1, a2, a3, a4, b1, b2, b3, b4, hrs⟩ := rsV_sl hr
    have htd := c_toldR (evW n e 0 zPk) hr zPk _ σ.length (hat _)
    rw [hrs] at htd
    unfold ngC at htd hrs
    refine vgo_call rfl rfl rfl rfl htd ?_
    simp -implicitDefEqProofs only [go_sem]
    exact hrs.symm

end Go.VL

/- Contracts of this program's functions: which protocols are right, small, the same. Conditions: none. -/
namespace Go.VL
open Go.Proofs

theorem encL_cut {l : List OV} {i : Nat} (h : i < l.length) : encL (l.take (i + 1)) = encL (l.take i) ++ encO l[i] := by
  unfold encL
  rw [List.take_succ_eq_append_getElem h, List.flatMap_append]
  simp
set_option maxHeartbeats 1000000 in
set_option maxRecDepth 20000 in
theorem c_rbytes (nl c : Bool) (l : List OV) (hl : l.length ≤ 1000) (hd : ∀ o ∈ l, o.d.length ≤ 253) (σ : St) : VCalls Tryz.prog 73 [.sl nl c 2 (osv l)] σ fun r σ' => r = .tup [.sl (bif decide ((encL l).length ≤ 1496) then l.isEmpty else true) false (bif decide ((encL l).length ≤ 1496) then 1 else 0) (bif decide ((encL l).length ≤ 1496) then bv (encL l) else []), .int .i64 (bif decide ((encL l).length ≤ 1496) then 0 else 1)] ∧ σ' = σ := by
  refine vcalls_intro (C := cfg Tryz.prog [] [] []) (cfg_ok mixed) Tryz.func73 rfl rfl rfl rfl rfl ?_
  simp -implicitDefEqProofs only [go_sem]
  refine loop_adopt 4 1 σ.length rfl rfl ?_
  refine w_loop (fun i => i ≤ l.length ∧ (encL (l.take i)).length ≤ 255 * i) (fun i => [(5, .int .i64 i), (4, .rsl σ.length (2 * i) 0 (encL (l.take i)).length), (3, .int .i64 0), (2, .sl true false 0 []), (0, .sl nl c 2 (osv l))]) (fun i => σ ++ [.arr (i == 0) (2 * i) 1 (bv (encL (l.take i)))]) (fun i => l.length - i) 0 ⟨Nat.zero_le _, Nat.le_refl _⟩ ?_ rfl ?_
  · simp -implicitDefEqProofs only [go_sem, osv_length, encL, List.take_zero, List.flatMap_nil, List.length_nil, Nat.mul_zero]
    rfl
  rintro i ⟨hi, hlen⟩
  have hlz : (bv (encL (l.take i))).length = (encL (l.take i)).length := bv_length _
  rcases Nat.lt_or_ge i l.length with h | h
  · have hdi := hd l[i] (List.getElem_mem h)
    have c3 : decide ((253 : Int) < (l[i].d.length : Int)) = false := by simp; omega
    have hw1 : IntKind.i64.wrap ((i : Int) + 1) = ((i + 1 : Nat) : Int) := wrap_ok (by omega) (by omega)
    have hw : IntKind.u8.wrap (IntKind.i64.wrap (2 + (l[i].d.length : Int))) = ((UInt8.ofNat (l[i].d.length + 2)).toNat : Int) := by
      rw [show (2 + (l[i].d.length : Int)) = ((l[i].d.length + 2 : Nat) : Int) by omega, wrap_ok (by omega) (by omega)]
      exact low8 _
    have he1 : bv (encL (l.take i)) ++ [V.int IntKind.u8 l[i].t.toNat, V.int IntKind.u8 (UInt8.ofNat (l[i].d.length + 2)).toNat] ++ bv l[i].d = bv (encL (l.take (i + 1))) := by
      rw [encL_cut h]
      simp [bv, encO]
    have he2 : (encL (l.take (i + 1))).length = (encL (l.take i)).length + 2 + l[i].d.length := by
      rw [encL_cut h]
      simp [encO]
      omega
    simp -implicitDefEqProofs only [go_sem, osv_length, osv_getD h, h, ov, bv_length, c3]
    refine w_walk2 [15, 16] [0, 1, 2, 3, 4, 5, 6, 7, 8, 9, 10, 11, 12, 13, 14, 15, 16] [19, 20, 21, 22, 23, 24, 25, 26, 27, 28, 29, 30, 31, 32, 33] [0, 0, 0, 6, 14, 30, 0, 0, 192, 448, 960, 1984, 4032, 8128, 16382, 32767, 65535] rfl rfl rfl rfl ?_
    simp -implicitDefEqProofs only [go_sem, osv_length, osv_getD h, h, ov, bv_length, hw, Nat.zero_add, Nat.sub_zero]
    refine ⟨by unfold lim; omega, by simp [bv], by simp [bv]; unfold lim; omega, l_next (i + 1) ⟨h, by omega⟩ (by omega) ?_ ?_⟩
    · have hg : 2 * i + 1 + 1 = 2 * (i + 1) := by omega
      simp -implicitDefEqProofs only [go_sem, hw1, he2, hg, List.length_append, List.length_cons, List.length_nil, bv_length]
    · have hg : 2 * i + 1 + 1 = 2 * (i + 1) := by omega
      simp -implicitDefEqProofs only [he1, go_sem, hg]
  · have hn : ¬ (i < l.length) := by omega
    simp -implicitDefEqProofs only [go_sem, osv_length, hn]
    refine l_exit ?_
    rw [List.take_of_length_le h] at hlz hlen ⊢
    have e1 : decide ((1496 : Int) < ((encL l).length : Int)) = !decide ((encL l).length ≤ 1496) := by rw [Bool.eq_iff_iff]; simp; omega
    simp -implicitDefEqProofs only [go_sem, Nat.sub_zero, e1]
    have hie : i = l.length := by omega
    have htk : (bv (encL l)).take (encL l).length = bv (encL l) := bv_take _
    have hem : (i == 0) = l.isEmpty := by
      rw [hie]
      cases l <;> rfl
    cases e2 : decide ((encL l).length ≤ 1496)
    · simp -implicitDefEqProofs only [go_sem, e2, cond_false, Bool.not_false]
    · simp -implicitDefEqProofs only [go_sem, e2, cond_true, Bool.not_true, htk, hem]

def oddB (o : OV) : Bool := o.t == 5 && !(o.d.length == 4)
/-- Is a protocol right? -/
def rightN (n : NgV) : Bool := aokB n.a && decide (0 ≤ n.naks) && decide (n.naks ≤ 3) && decide ((encL n.ours).length ≤ 1496) && !n.ours.any oddB
def smallN (n : NgV) : Bool := few n.ours && few n.peer

theorem c_small14 (n : NgV) (hps : n.ps = 2) (σ : St) : VCalls Tryz.prog 25 [ngv n] σ fun r σ' => r = .bool (smallN n) ∧ σ' = σ := by
  refine vcalls_intro (C := cfg Tryz.prog [] [] []) (cfg_ok mixed) Tryz.func25 rfl rfl rfl rfl rfl ?_
  simp -implicitDefEqProofs only [go_sem, ngv, ngC, hps]
  refine vgo_call rfl rfl rfl rfl (c_few n.on n.oc n.ours σ) ?_
  simp -implicitDefEqProofs only [go_sem]
  refine vgo_call rfl rfl rfl rfl (c_few n.pn n.pc n.peer σ) ?_
  unfold smallN
  cases few n.ours <;> simp -implicitDefEqProofs only [go_sem, Bool.true_and, Bool.false_and]

def eqAu (a b : AuV) : Bool := cellsEq (auC a) (auC b)
def eqRu (a b : RV) : Bool := cellsEq (rvC a) (rvC b)
/-- Are two the same? -/
def sameN (a b : NgV) : Bool := same a.ours b.ours && same a.peer b.peer && eqAu a.a b.a && eqRu a.r b.r && (a.naks == b.naks)
set_option maxRecDepth 20000 in
theorem c_rsame14 (a b : NgV) (h1 : a.ps = 2) (h2 : b.ps = 2) (l1 : a.ours.length ≤ lim) (l2 : a.peer.length ≤ lim) (d1 : ∀ o ∈ a.ours, o.d.length ≤ lim) (d2 : ∀ o ∈ a.peer, o.d.length ≤ lim) (σ : St) : VCalls Tryz.prog 58 [ngv a, ngv b] σ fun r σ' => r = .bool (sameN a b) ∧ σ' = σ := by
  refine vcalls_intro (C := cfg Tryz.prog [] [] []) (cfg_ok mixed) Tryz.func58 rfl rfl rfl rfl rfl ?_
  simp -implicitDefEqProofs only [go_sem, ngv, ngC, h1, h2]
  refine vgo_call rfl rfl rfl rfl (c_same a.on a.oc b.on b.oc a.ours b.ours l1 d1 σ) ?_
  simp -implicitDefEqProofs only [go_sem]
  refine vgo_call rfl rfl rfl rfl (c_same a.pn a.pc b.pn b.pc a.peer b.peer l2 d2 σ) ?_
  unfold sameN
  cases same a.ours b.ours
  · simp -implicitDefEqProofs only [go_sem, Bool.false_and]
  simp -implicitDefEqProofs only [go_sem, Bool.true_and]
  cases same a.peer b.peer
  · simp -implicitDefEqProofs only [go_sem, Bool.false_and]
  simp -implicitDefEqProofs only [go_sem, Bool.true_and]
  cases hA : eqAu a.a b.a
  · simp -implicitDefEqProofs only [go_sem, eqAu, auC] at hA
    simp -implicitDefEqProofs only [go_sem, mk, hA, Bool.false_and]
  simp -implicitDefEqProofs only [go_sem, eqAu, auC] at hA
  simp -implicitDefEqProofs only [go_sem, mk, hA, Bool.true_and]
  cases hB : eqRu a.r b.r
  · simp -implicitDefEqProofs only [go_sem, eqRu, rvC] at hB
    simp -implicitDefEqProofs only [go_sem, mk, hB, Bool.false_and]
  simp -implicitDefEqProofs only [go_sem, eqRu, rvC] at hB
  simp -implicitDefEqProofs only [go_sem, mk, hB, Bool.true_and]
set_option maxRecDepth 20000 in
theorem c_nsame (a b : NgV) (h1 : a.ps = 2) (h2 : b.ps = 2) (l1 : a.ours.length ≤ lim) (l2 : a.peer.length ≤ lim) (σ : St) : VCalls Tryz.prog 70 [ngv a, ngv b] σ fun r σ' => r = .bool (sameN a b) ∧ σ' = σ := by
  refine vcalls_intro (C := cfg Tryz.prog [] [] []) (cfg_ok mixed) Tryz.func70 rfl rfl rfl rfl rfl ?_
  have hs : sameN a b = (eqAu a.a b.a && (eqRu a.r b.r && ((a.naks == b.naks) && (same a.ours b.ours && same a.peer b.peer)))) := by
    unfold sameN
    cases same a.ours b.ours <;> cases same a.peer b.peer <;> cases eqAu a.a b.a <;> cases eqRu a.r b.r <;> cases (a.naks == b.naks) <;> rfl
  rw [hs]
  simp -implicitDefEqProofs only [go_sem, ngv, ngC, h1, h2, mk]
  cases hA : eqAu a.a b.a
  · simp -implicitDefEqProofs only [go_sem, eqAu, auC] at hA
    simp -implicitDefEqProofs only [go_sem, mk, hA, Bool.false_and]
  simp -implicitDefEqProofs only [go_sem, eqAu, auC] at hA
  simp -implicitDefEqProofs only [go_sem, mk, hA, Bool.true_and]
  cases hB : eqRu a.r b.r
  · simp -implicitDefEqProofs only [go_sem, eqRu, rvC] at hB
    simp -implicitDefEqProofs only [go_sem, mk, hB, Bool.false_and]
  simp -implicitDefEqProofs only [go_sem, eqRu, rvC] at hB
  simp -implicitDefEqProofs only [go_sem, mk, hB, Bool.true_and]
  cases hC : a.naks == b.naks
  · simp -implicitDefEqProofs only [go_sem, hC, Bool.false_and]
  simp -implicitDefEqProofs only [go_sem, hC, Bool.true_and]
  refine vgo_call rfl rfl rfl rfl (c_optsSame a.on a.oc b.on b.oc a.ours b.ours l1 σ) ?_
  cases hD : same a.ours b.ours
  · simp -implicitDefEqProofs only [go_sem, Bool.false_and]
  simp -implicitDefEqProofs only [go_sem, Bool.true_and]
  refine vgo_call rfl rfl rfl rfl (c_optsSame a.pn a.pc b.pn b.pc a.peer b.peer l2 σ) ?_
  simp -implicitDefEqProofs only [go_sem]

set_option maxRecDepth 20000 in
theorem c_rright14D (n : NgV) (hn : n.ours.length ≤ 1000) (hd : ∀ o ∈ n.ours, o.d.length ≤ 253) (σ : St) : VCalls Tryz.prog 26 [ngv n] σ fun r σ' => r = .bool (rightN n) ∧ σ' = σ := by
  refine vcalls_intro (C := cfg Tryz.prog [] [] []) (cfg_ok mixed) Tryz.func26 rfl rfl rfl rfl rfl ?_
  simp -implicitDefEqProofs only [go_sem, ngv, ngC]
  refine vgo_call rfl rfl rfl rfl (c_rright12 n.a σ) ?_
  simp -implicitDefEqProofs only [go_sem]
  refine vgo_call rfl rfl rfl rfl (c_rbytes n.on n.oc n.ours hn hd σ) ?_
  simp -implicitDefEqProofs only [go_sem]
  refine w_loop (fun i => i ≤ n.ours.length ∧ (n.ours.take i).any oddB = false) (fun i => [(6, .int .i64 i), (5, .int .i64 (bif decide ((encL n.ours).length ≤ 1496) then 0 else 1)), (3, .bool (aokB n.a)), (2, .bool false), (1, .ip (ngC n))]) (fun _ => σ) (fun i => n.ours.length - i) 0 ⟨Nat.zero_le _, rfl⟩ ?_ rfl ?_
  · simp -implicitDefEqProofs only [go_sem, ngC]
    rfl
  rintro i ⟨hi, hno⟩
  rcases Nat.lt_or_ge i n.ours.length with h | h
  · have hw1 : IntKind.i64.wrap ((i : Int) + 1) = ((i + 1 : Nat) : Int) := wrap_ok (by omega) (by omega)
    have t5 : ((n.ours[i].t.toNat : Int) == 5) = (n.ours[i].t == 5) := toNat_beq _ 5
    have t4 : ((n.ours[i].d.length : Int) == 4) = (n.ours[i].d.length == 4) := by rw [Bool.eq_iff_iff]; simp; omega
    have hany : ∀ q, oddB n.ours[i] = q → (n.ours.take (i + 1)).any oddB = q := fun q e => by rw [List.take_succ_eq_append_getElem h, List.any_append, hno]; simp [e]
    have hbad : oddB n.ours[i] = true → rightN n = false := fun e => by
      unfold rightN
      have : n.ours.any oddB = true := List.any_eq_true.2 ⟨_, List.getElem_mem h, e⟩
      rw [this]
      simp
    simp -implicitDefEqProofs only [go_sem, ngC, osv_length, osv_getD h, h, ov, bv_length, t5]
    cases q1 : n.ours[i].t == 5
    · simp -implicitDefEqProofs only [go_sem, q1]
      refine l_next (i + 1) ⟨h, hany false (by unfold oddB; rw [q1]; rfl)⟩ (by omega) ?_ rfl
      simp -implicitDefEqProofs only [go_sem, ngC, hw1]
    · simp -implicitDefEqProofs only [go_sem, q1, osv_length, osv_getD h, h, ov, bv_length, t4, bne]
      cases q2 : n.ours[i].d.length == 4
      · have hb := hbad (by unfold oddB; rw [q1, q2]; rfl)
        simp -implicitDefEqProofs only [go_sem, q2, Bool.not_false]
        refine l_ret ?_
        simp -implicitDefEqProofs only [go_sem, hb]
      · simp -implicitDefEqProofs only [go_sem, q2, Bool.not_true]
        refine l_next (i + 1) ⟨h, hany false (by unfold oddB; rw [q1, q2]; rfl)⟩ (by omega) ?_ rfl
        simp -implicitDefEqProofs only [go_sem, ngC, hw1]
  · have hn : ¬ (i < n.ours.length) := by omega
    rw [List.take_of_length_le h] at hno
    have hr : rightN n = (aokB n.a && (decide (0 ≤ n.naks) && (decide (n.naks ≤ 3) && decide ((encL n.ours).length ≤ 1496)))) := by
      unfold rightN
      rw [hno]
      cases aokB n.a <;> cases decide (0 ≤ n.naks) <;> cases decide (n.naks ≤ 3) <;> cases decide ((encL n.ours).length ≤ 1496) <;> rfl
    rw [hr]
    simp -implicitDefEqProofs only [go_sem, ngC, osv_length, hn]
    refine l_exit ?_
    cases q1 : aokB n.a
    · simp -implicitDefEqProofs only [go_sem, Bool.false_and]
    simp -implicitDefEqProofs only [go_sem, ngC, Bool.true_and]
    cases q2 : decide (0 ≤ n.naks)
    · simp -implicitDefEqProofs only [go_sem, q2, Bool.false_and]
    simp -implicitDefEqProofs only [go_sem, q2, Bool.true_and]
    cases q3 : decide (n.naks ≤ 3)
    · simp -implicitDefEqProofs only [go_sem, q3, Bool.false_and]
    simp -implicitDefEqProofs only [go_sem, q3, Bool.true_and]
    cases q4 : decide ((encL n.ours).length ≤ 1496)
    · simp -implicitDefEqProofs only [go_sem, cond_false]
    · simp -implicitDefEqProofs only [go_sem, cond_true]

theorem c_rright14 (n : NgV) (hf : few n.ours = true) (σ : St) : VCalls Tryz.prog 26 [ngv n] σ fun r σ' => r = .bool (rightN n) ∧ σ' = σ := by
  unfold few at hf
  simp only [Bool.and_eq_true, decide_eq_true_eq, List.all_eq_true] at hf
  exact c_rright14D n (by omega) (fun o ho => by have := hf.2 o ho; unfold smallO at this; simpa using this) σ
theorem enc_few {l : List OV} (h : encOK l = true) : l.length ≤ 1000 ∧ ∀ o ∈ l, o.d.length ≤ 253 := by
  unfold encOK at h
  simp only [Bool.and_eq_true, decide_eq_true_eq, List.all_eq_true] at h
  refine ⟨?_, h.1⟩
  have : 2 * l.length ≤ (encL l).length := by
    have h2 := h.2
    clear h h2
    induction l with
    | nil => exact Nat.zero_le _
    | cons o l ih =>
      have : encL (o :: l) = encO o ++ encL l := rfl
      rw [this]
      simp [encO]
      omega
  omega
end Go.VL

/- Contracts of this program's functions: nego.Right, nego.New. Conditions: none. -/
namespace Go.VL
open Go.Proofs

theorem idxO_nonneg (p : OV → Bool) (l : List OV) : decide (0 ≤ idxO p l) = l.any p := by
  rcases idx_cases p l with h | ⟨i, h1, h2, h3⟩
  · rw [idxO_none h]
    have : l.any p = false := by
      rw [List.any_eq_false]
      intro o ho
      have := List.all_eq_true.1 h o ho
      simpa using this
    rw [this]
    rfl
  · rw [idxO_at h1 h2 h3]
    have : l.any p = true := List.any_eq_true.2 ⟨_, List.getElem_mem h1, h3⟩
    rw [this]
    simp
theorem c_containsO (nl c : Bool) (l : List OV) (p : OV → Bool) (g : FuncId) (xs ys : List V) (hl : l.length ≤ lim) (σ : St) (hg : ∀ o, VCalls Tryz.prog g (xs ++ [ov o] ++ ys) σ fun r σ' => r = .bool (p o) ∧ σ' = σ) :
    VCalls Tryz.prog 132 [.sl nl c 2 (osv l), .fn (.func g) xs ys] σ fun r σ' => r = .bool (l.any p) ∧ σ' = σ := by
  refine vcalls_intro (C := cfg Tryz.prog [] [] []) (cfg_ok mixed) Tryz.func132 rfl rfl rfl rfl rfl ?_
  simp only [go_sem]
  refine vgo_call rfl rfl rfl rfl (c_index nl c l p g xs ys hl σ hg) ?_
  simp only [go_sem, idxO_nonneg]
theorem c_right1 (o : OV) (σ : St) : VCalls Tryz.prog 130 [ov o] σ fun r σ' => r = .bool (oddB o) ∧ σ' = σ := by
  refine vcalls_intro (C := cfg Tryz.prog [] [] []) (cfg_ok mixed) Tryz.func130 rfl rfl rfl rfl rfl ?_
  have t5 : ((o.t.toNat : Int) == 5) = (o.t == 5) := toNat_beq _ 5
  have t4 : ((o.d.length : Int) == 4) = (o.d.length == 4) := by rw [Bool.eq_iff_iff]; simp; omega
  unfold oddB
  simp only [go_sem, ov, t5, bv_length]
  cases q1 : o.t == 5
  · simp only [go_sem, q1, Bool.false_and]
  · simp only [go_sem, q1, bv_length, t4, bne, Bool.true_and]
set_option maxRecDepth 20000 in
theorem c_nright (n : NgV) (hE : encOK n.ours = true) (σ : St) : VCalls Tryz.prog 69 [ngv n] σ fun r σ' => r = .bool (rightN n) ∧ σ' = σ := by
  refine vcalls_intro (C := cfg Tryz.prog [] [] []) (cfg_ok mixed) Tryz.func69 rfl rfl rfl rfl rfl ?_
  have hlo : n.ours.length ≤ lim := by have := enc_len hE; unfold lim; omega
  have he : decide ((encL n.ours).length ≤ 1496) = true := by unfold encOK at hE; simp only [Bool.and_eq_true] at hE; exact hE.2
  simp -implicitDefEqProofs only [go_sem, ngv, ngC]
  refine vgo_call rfl rfl rfl rfl (c_bytesE n.on n.oc hE σ) ?_
  simp -implicitDefEqProofs only [go_sem]
  refine vgo_call rfl rfl rfl rfl (c_aright n.a σ) ?_
  unfold rightN
  rw [he]
  cases aokB n.a
  · simp -implicitDefEqProofs only [go_sem, Bool.false_and]
  simp -implicitDefEqProofs only [go_sem, Bool.true_and]
  cases q2 : decide (0 ≤ n.naks)
  · simp -implicitDefEqProofs only [go_sem, q2, Bool.false_and]
  simp -implicitDefEqProofs only [go_sem, q2, Bool.true_and]
  cases q3 : decide (n.naks ≤ 3)
  · simp -implicitDefEqProofs only [go_sem, q3, Bool.false_and]
  simp -implicitDefEqProofs only [go_sem, q3, Bool.true_and]
  refine vgo_call rfl rfl rfl rfl (c_containsO n.on n.oc n.ours oddB _ [] [] hlo σ fun o => c_right1 o σ) ?_
  simp -implicitDefEqProofs only [go_sem]

/-- A protocol at its beginning. -/
def newN (r : RV) : NgV := ⟨⟨0, 0, 0, 0⟩, r, rAsk r, false, true, 0, [], true, false, 0⟩
set_option maxRecDepth 20000 in
theorem c_new (r : RV) (σ : St) : VCalls Tryz.prog 56 [rv r] σ fun x σ' => x = ngv (newN r) ∧ σ' = σ := by
  refine vcalls_intro (C := cfg Tryz.prog [] [] []) (cfg_ok mixed) Tryz.func56 rfl rfl rfl rfl rfl ?_
  have ha := c_ask r σ
  unfold rv rvC at ha
  simp -implicitDefEqProofs only [go_sem, rv, rvC]
  refine w_walk2 [4] [0, 1, 2, 3, 4] [3, 4, 5, 6] [0, 0, 2, 7, 15] rfl rfl rfl rfl ?_
  simp -implicitDefEqProofs only [go_sem]
  refine vdgo_call rfl rfl rfl rfl ha ?_
  simp -implicitDefEqProofs only [go_sem, ngv, ngC, newN]
  rfl

end Go.VL

/- Contracts of this program's functions: protocols whose peer's row may be nil; the document's example. Conditions: none. -/
namespace Go.VL
open Go.Proofs

def NgOK (n : NgV) : Prop := n.ps = 2 ∨ (n.pn = true ∧ n.peer = [])
def fullN (n : NgV) : NgV := { n with ps := 2 }
theorem lapp_cons {α : Type} (a : α) (l m : List α) : List.append (a :: l) m = a :: List.append l m := rfl
theorem lapp_nil {α : Type} (m : List α) : List.append [] m = m := rfl
/-! The example. -/
theorem x_a1 : (nextP 0 2).2.2 = true := by decide +kernel
theorem x_a2 : doA ⟨0, 0, 0, 0⟩ 2 = (⟨1, 0, 0, 0⟩, [3], 0) := by decide +kernel
theorem x_b1 : (nextP 1 0).2.2 = true := by decide +kernel
theorem x_b2 : doA ⟨1, 0, 0, 0⟩ 0 = (⟨6, 4, 3, 1⟩, [5, 7], 0) := by decide +kernel
theorem ev_of {n : NgV} {e : Int} (pid : UInt8) (reply : PkV) {a' : AuV} {l : List Int} {m : NgV} (h1 : (nextP n.a.st e).2.2 = true) (h2 : doA n.a e = (a', l, 0)) (h3 : actN (withA n a') n.a.st l = m) : evW n e pid reply = (m, outV (outsOf m pid reply l), telV (toldOf l)) := by
  have hd : doneB n e = true := h1
  unfold evW evOV evTV evO evT evN
  rw [hd, h2]
  simp only [cond_true]
  rw [h3]
end Go.VL

/- Protocols that are right, and events that leave an automaton as it is, in plain Lean. Conditions: none. -/
namespace Go.VL
open Go.Proofs

theorem eqO_self (o : OV) : eqO o o = true := by simp [eqO]
theorem same_self : ∀ l : List OV, same l l = true
  | [] => rfl
  | o :: l => by simp [same, eqO_self, same_self l]
theorem cellsEq_prim : ∀ l : List V, (∀ x ∈ l, (∃ k n, x = .int k n) ∨ ∃ b, x = .bool b) → cellsEq l l = true
  | [], _ => rfl
  | x :: l, h => by
    have ih := cellsEq_prim l fun y hy => h y (List.mem_cons_of_mem _ hy)
    rcases h x List.mem_cons_self with ⟨k, n, rfl⟩ | ⟨b, rfl⟩
    · simp [cellsEq, cellEq, ih]
    · simp [cellsEq, cellEq, ih]
theorem sameN_self (n : NgV) : sameN n n = true := by
  have h1 : eqAu n.a n.a = true := cellsEq_prim _ (by simp [auC])
  have h2 : eqRu n.r n.r = true := cellsEq_prim _ (by simp [rvC])
  unfold sameN
  rw [same_self, same_self, h1, h2]
  simp

/-- A protocol that is right, and can be told as bytes. -/
structure Good (n : NgV) : Prop where
  a : aokB n.a = true
  k : 0 ≤ n.naks ∧ n.naks ≤ 3
  e : encOK n.ours = true
  o : n.ours.any oddB = false
theorem few_data {l : List OV} (h : few l = true) : ∀ o ∈ l, o.d.length ≤ 253 := by
  unfold few at h
  simp only [Bool.and_eq_true, List.all_eq_true] at h
  intro o ho
  have := h.2 o ho
  unfold smallO at this
  simpa using this
theorem few_len {l : List OV} (h : few l = true) : l.length ≤ 30 := by
  unfold few at h
  simp only [Bool.and_eq_true, decide_eq_true_eq] at h
  exact h.1
theorem good_of {n : NgV} (hf : few n.ours = true) (h : rightN n = true) : Good n := by
  unfold rightN at h
  simp only [Bool.and_eq_true, decide_eq_true_eq, Bool.not_eq_true'] at h
  obtain ⟨⟨⟨⟨h1, h2⟩, h3⟩, h4⟩, h5⟩ := h
  refine ⟨h1, ⟨h2, h3⟩, ?_, h5⟩
  unfold encOK
  simp only [Bool.and_eq_true, decide_eq_true_eq, List.all_eq_true]
  exact ⟨few_data hf, h4⟩
theorem Good.right {n : NgV} (h : Good n) : rightN n = true := by
  have he := h.e
  unfold encOK at he
  simp only [Bool.and_eq_true, decide_eq_true_eq] at he
  unfold rightN
  rw [h.a, h.o]
  simp [h.k.1, h.k.2, he.2]
theorem Good.st {n : NgV} (h : Good n) : 0 ≤ n.a.st ∧ n.a.st ≤ 9 := by
  have := h.a
  unfold aokB at this
  simp only [Bool.and_eq_true, decide_eq_true_eq] at this
  exact this.1.1.1
theorem Good.cnt {n : NgV} (h : Good n) : 0 ≤ n.a.cnt ∧ n.a.cnt ≤ 5 := by
  have := h.a
  unfold aokB at this
  simp only [Bool.and_eq_true, decide_eq_true_eq] at this
  exact ⟨this.1.1.2, this.1.2⟩
theorem Good.left {n : NgV} (h : Good n) : (bif timedB n.a.st then n.a.left else 0) = n.a.left ∧ 0 ≤ n.a.left ∧ n.a.left ≤ 3 := by
  have := h.a
  unfold aokB at this
  simp only [Bool.and_eq_true, decide_eq_true_eq] at this
  have := this.2
  cases ht : timedB n.a.st
  · rw [ht] at this
    simp only [cond_false, beq_iff_eq] at this
    rw [this]
    exact ⟨rfl, Int.le_refl _, by decide⟩
  · rw [ht] at this
    simp only [cond_true, Bool.and_eq_true, decide_eq_true_eq] at this
    exact ⟨rfl, by omega, this.2⟩

theorem next12 : ∀ s : Fin 10, 2 ≤ s.val → nextP s.val 12 = ([12], (s.val : Int), true) := by decide +kernel
theorem next15 : ∀ s : Fin 10, 2 ≤ s.val → nextP s.val 15 = (if s.val = 9 then [13] else [], (s.val : Int), true) := by decide +kernel
end Go.VL

/- What an event leaves, and what a packet does, in plain Lean. Conditions: none. -/
namespace Go.VL
open Go.Proofs

def has6 (l : List Int) : Bool := l.any fun x => x == 6 || x == 7 || x == 10
def sends (x : Int) : Bool := x == 7 || x == 8 || x == 9 || x == 10 || x == 11 || x == 12 || x == 13
/-- What the state table keeps. -/
def tabQ (s e : Int) (x : List Int × Int × Bool) : Bool :=
  bif x.2.2 then decide (0 ≤ x.2.1) && decide (x.2.1 ≤ 9) && (x.1.any (· == 1) == (x.2.1 == 9 && !(s == 9))) && (x.1.any (· == 2) == (s == 9 && !(x.2.1 == 9))) && decide ((x.1.filter sends).length ≤ 2) &&
    (!timedB x.2.1 || has6 x.1 || (timedB s && !(e == 4) && !(e == 5)))
  else !(timedB s && (e == 4 || e == 5))
theorem tab_q : ∀ s : Fin 10, ∀ e : Fin 16, tabQ s.val e.val (nextP s.val e.val) = true := by decide +kernel
theorem next_q {s e : Int} (hs : 0 ≤ s ∧ s ≤ 9) (he : 0 ≤ e ∧ e ≤ 15) : tabQ s e (nextP s e) = true := by
  have := tab_q ⟨s.toNat, by omega⟩ ⟨e.toNat, by omega⟩
  have e1 : ((s.toNat : Nat) : Int) = s := by omega
  have e2 : ((e.toNat : Nat) : Int) = e := by omega
  simp only [e1, e2] at this
  exact this
theorem next_range {s e : Int} (h : (nextP s e).2.2 = true) : (0 ≤ s ∧ s ≤ 9) ∧ 0 ≤ e ∧ e ≤ 15 := by
  unfold nextP at h
  cases hc : decide (0 ≤ s) && decide (s ≤ 9) && decide (0 ≤ e) && decide (e ≤ 15)
  · rw [hc] at h; cases h
  · simp only [Bool.and_eq_true, decide_eq_true_eq] at hc
    exact ⟨hc.1.1, hc.1.2, hc.2⟩

theorem fold_left (l : List Int) : ∀ (m : List Int) (a : AuV), (m.foldl (actA l) a).left = bif has6 m then 3 else a.left
  | [], a => rfl
  | x :: m, a => by
    rw [List.foldl_cons, fold_left l m]
    have hh : has6 (x :: m) = ((x == 6 || x == 7 || x == 10) || has6 m) := by unfold has6; rw [List.any_cons]
    rw [hh]
    unfold actA
    split
    · rename_i h5
      subst h5
      rfl
    split
    · rename_i h6
      subst h6
      simp
    split
    · rename_i h7
      rcases h7 with rfl | rfl <;> simp
    · rename_i h5 h6 h7
      have e6 : (x == 6) = false := by simpa using h6
      have e7 : (x == 7) = false := by simp; omega
      have e10 : (x == 10) = false := by simp; omega
      rw [e6, e7, e10]
      rfl
theorem fold_cnt (l : List Int) : ∀ (m : List Int) (a : AuV), 0 ≤ a.cnt ∧ a.cnt ≤ 5 → 0 ≤ (m.foldl (actA l) a).cnt ∧ (m.foldl (actA l) a).cnt ≤ 5
  | [], _, h => h
  | x :: m, a, h => by
    rw [List.foldl_cons]
    exact fold_cnt l m _ (actA_bound h x)
/-- What an event leaves is right. -/
theorem do_ok {a : AuV} {e : Int} (hc : 0 ≤ a.cnt ∧ a.cnt ≤ 5) (hd : (nextP a.st e).2.2 = true) (hl : timedB (nextP a.st e).2.1 = true → has6 (nextP a.st e).1 = true ∨ 1 ≤ a.left ∧ a.left ≤ 3) : aokB (doA a e).1 = true := by
  obtain ⟨hs, he⟩ := next_range hd
  have hq := next_q hs he
  unfold tabQ at hq
  rw [hd] at hq
  simp only [cond_true, Bool.and_eq_true, decide_eq_true_eq] at hq
  have hcn := fold_cnt (nextP a.st e).1 (nextP a.st e).1 a hc
  have hlf := fold_left (nextP a.st e).1 (nextP a.st e).1 a
  unfold doA
  rw [hd]
  simp only [cond_true]
  unfold aokB
  simp only [Bool.and_eq_true, decide_eq_true_eq]
  refine ⟨⟨⟨hq.1.1.1.1, hcn.1⟩, hcn.2⟩, ?_⟩
  cases ht : timedB (nextP a.st e).2.1
  · rfl
  · simp only [cond_true, Bool.and_eq_true, decide_eq_true_eq]
    rw [hlf]
    rcases hl ht with h | h
    · rw [h]; exact ⟨by show (1 : Int) ≤ 3; decide, Int.le_refl _⟩
    · cases has6 (nextP a.st e).1
      · exact h
      · exact ⟨by show (1 : Int) ≤ 3; decide, Int.le_refl _⟩

theorem ask_odd (r : RV) : (rAsk r).any oddB = false := by
  unfold rAsk
  cases r.ip <;> rfl
/-- Protocols but for the automaton. -/
structure Half (n : NgV) : Prop where
  k : 0 ≤ n.naks ∧ n.naks ≤ 3
  e : encOK n.ours = true
  o : n.ours.any oddB = false
theorem Good.half {n : NgV} (h : Good n) : Half n := ⟨h.k, h.e, h.o⟩
theorem act_half {n : NgV} (h : Half n) (a : AuV) (was : Int) (l : List Int) : Half (actN (withA n a) was l) := by
  unfold actN
  cases resetB was l
  · exact ⟨h.k, h.e, h.o⟩
  · exact ⟨⟨Int.le_refl _, by show (0 : Int) ≤ 3; decide⟩, ask_enc _, ask_odd _⟩
theorem act_a (n : NgV) (a : AuV) (was : Int) (l : List Int) : (actN (withA n a) was l).a = a := by
  unfold actN
  cases resetB was l <;> rfl
theorem ev_a {n : NgV} {e : Int} (h : doneB n e = true) : (evN n e).a = (doA n.a e).1 := by
  unfold evN
  rw [h]
  exact act_a _ _ _ _
theorem ev_good {n : NgV} (h : Good n) (e : Int) : Good (evN n e) := by
  cases hd : doneB n e
  · unfold evN
    rw [hd]
    exact h
  · have hh : Half (evN n e) := by
      unfold evN
      rw [hd]
      exact act_half h.half _ _ _
    refine ⟨?_, hh.k, hh.e, hh.o⟩
    rw [ev_a hd]
    have hd' : (nextP n.a.st e).2.2 = true := hd
    obtain ⟨hs, he⟩ := next_range hd'
    have hq := next_q hs he
    refine do_ok h.cnt hd' fun ht => ?_
    unfold tabQ at hq
    rw [hd'] at hq
    simp only [cond_true, Bool.and_eq_true, decide_eq_true_eq, Bool.or_eq_true, Bool.not_eq_true'] at hq
    rcases hq.2 with (h1 | h1) | h1
    · rw [ht] at h1; cases h1
    · exact .inl h1
    · right
      have ha := h.a
      unfold aokB at ha
      rw [h1.1.1] at ha
      simp only [cond_true, Bool.and_eq_true, decide_eq_true_eq] at ha
      exact ha.2

/-! A tick. -/
end Go.VL

/- What a packet does: which event, with which reply; what is sent and told. Conditions: none. -/
namespace Go.VL
open Go.Proofs

structure ReplyOK (p q : PkV) : Prop where
  c1 : q.code ≠ 1
  c2 : q.code = 2 → p.code = 1 ∧ q.id = p.id ∧ q.d = p.d ∧ q.sz = 1
  cx : q.code = 6 ∨ q.code = 10 ∨ q.code = 3 ∨ q.code = 4 → q.id = p.id
  l : q.d.length ≤ 1496
  z : PkOK q
/-- A packet does nothing, or an event. -/
inductive TakeIs (n : NgV) (p : PkV) : RS → Prop
  | stay : TakeIs n p (stayW n)
  | ev (n0 m : NgV) (e : Int) (reply : PkV) (h0 : Good n0) (ha : n0.a = n.a) (hr : ReplyOK p reply) (hma : m.a = (evN n0 e).a) (hmo : m.ours = (evN n0 e).ours) (hm : Good m) : TakeIs n p (m, (evW n0 e p.id reply).2)
theorem TakeIs.plain {n : NgV} (h : Good n) (p : PkV) (e : Int) {reply : PkV} (hr : ReplyOK p reply) : TakeIs n p (evW n e p.id reply) := .ev n (evN n e) e reply h rfl hr rfl rfl (ev_good h e)

/-- A row, or nil. -/
def IsSl (v : V) (sz : Nat) (es : List V) : Prop := ∃ nl s, v = .sl nl false s es ∧ (s = sz ∨ (nl = true ∧ es = []))
theorem IsSl.ne {v : V} {sz : Nat} {es : List V} (h : IsSl v sz es) : ∃ nl, NE v (.sl nl false sz es) := by
  obtain ⟨nl, s, rfl, rfl | ⟨rfl, rfl⟩⟩ := h
  · exact ⟨nl, .refl _⟩
  · exact ⟨true, .nil _ _ _ _⟩
theorem out_sl (l : List PkV) : IsSl (outV l) 3 (pkvs l) := ⟨_, _, rfl, .inl rfl⟩
theorem tel_sl (l : List Int) : IsSl (telV l) 1 (zv64 l) := ⟨_, _, rfl, .inl rfl⟩
theorem nil_sl (sz : Nat) : IsSl nilV sz [] := ⟨_, _, rfl, .inr ⟨rfl, rfl⟩⟩
theorem ev_sl (n : NgV) (e : Int) (pid : UInt8) (reply : PkV) : IsSl (evW n e pid reply).2.1 3 (pkvs (evO n e pid reply)) ∧ IsSl (evW n e pid reply).2.2 1 (zv64 (evT n e)) := by
  show IsSl (evOV n e pid reply) 3 (pkvs (evO n e pid reply)) ∧ IsSl (evTV n e) 1 (zv64 (evT n e))
  unfold evOV evTV evO evT
  cases doneB n e
  · exact ⟨nil_sl 3, nil_sl 1⟩
  · exact ⟨out_sl _, tel_sl _⟩

theorem told_len (l : List Int) : (toldOf l).length ≤ l.length := List.length_filter_le _ _
theorem do_len (a : AuV) (e : Int) : (doA a e).2.1.length ≤ 10 := by
  unfold doA
  have := next_len a.st e
  cases (nextP a.st e).2.2
  · exact Nat.zero_le _
  · exact this
end Go.VL
