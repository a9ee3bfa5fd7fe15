/- Contracts of this program's functions over values, joined texts. Conditions: none. -/
import Derived.Test.YtonjofnphkghcaaGreatDoorSSr
import Derived.Test.YtonjofnphkghcaaGreatDoorSSp
set_option linter.unusedVariables false
set_option linter.unusedSimpArgs false
/- Contracts of this program's functions: who is judged, as the document tells it. Conditions: none. -/
namespace Go.VL
open Go.Proofs

theorem rn_x (W : WkV) : ∃ a z b y, rnv W = .agg (lkC W.k ++ outC (.sl a false z (frs W.sent)) (.sl b false y (zv64 W.want)) W.p W.stop W.ip) ∧ (z = 2 ∨ (frs W.sent = [] ∧ a = true)) ∧ (y = 1 ∨ (zv64 W.want = [] ∧ b = true)) := by
  obtain ⟨a, z, e1, h1⟩ := slF_sl W.sent
  obtain ⟨b, y, e2, h2⟩ := slT_sl W.want
  exact ⟨a, z, b, y, by unfold rnv rnC; rw [e1, e2], h1, h2⟩
theorem rn_begin (k : LinkV) : rnv (beginW k) = .agg (lkC k ++ zO) := rfl
theorem c_r18judged (k : LinkV) (hst : 0 ≤ k.l.a.st ∧ k.l.a.st ≤ 9) (σ : St) : VCalls Tryz.prog 97 [lkv k] σ fun r σ' => r = .bool (askedB k) ∧ σ' = σ := by
  refine vcalls_intro (C := cfg Tryz.prog [] [] []) (cfg_ok mixed) Tryz.func97 rfl rfl rfl rfl rfl ?_
  have hp := fun σ => c_r18phase k σ
  rw [phase_same hst] at hp
  unfold lkv lkC at hp
  unfold askedB
  simp (maxSteps := 1000000) -implicitDefEqProofs only [go_sem, lkv, lkC]
  refine vgo_call rfl rfl rfl rfl (hp _) ?_
  simp (maxSteps := 1000000) -implicitDefEqProofs only [go_sem]
  cases q1 : phaseP k == 2
  · simp (maxSteps := 1000000) -implicitDefEqProofs only [go_sem, q1]
  · simp (maxSteps := 1000000) -implicitDefEqProofs only [go_sem, q1]
set_option maxHeartbeats 4000000 in
set_option maxRecDepth 20000 in
theorem c_r18ended (k : LinkV) (who : ByteArray) (proof : B16) (good : Bool) (σ : St) : VCalls Tryz.prog 99 [lkv k, .str who, .agg (b16C proof), .bool good] σ fun r σ' => r = rnv (endW1 (beginW k) who proof good) ∧ σ' = σ := by
  refine vcalls_intro (C := cfg Tryz.prog [] [] []) (cfg_ok mixed) Tryz.func99 rfl rfl rfl rfl rfl ?_
  have he := fun σ => c_r15end k.a who proof good σ
  have hw : endW1 (beginW k) who proof good = sendW { beginW k with k := { k with a := endA k.a who proof good } } 49699 [endP k.a good] := rfl
  rw [hw]
  have hpk : PkOK (endP k.a good) ∧ (endP k.a good).d.length ≤ 1496 := ⟨pk_nil _ _, Nat.zero_le _⟩
  generalize endA k.a who proof good = A' at *
  generalize endP k.a good = P' at *
  have hs := fun σ => c_r18sent { beginW k with k := { k with a := A' } } 49699 false true P' (Nat.zero_le _) hpk.1 hpk.2 σ
  generalize sendW { beginW k with k := { k with a := A' } } 49699 [P'] = W2 at *
  obtain ⟨a, z, b, y, e2, _, _⟩ := rn_x W2
  have e1 : rnv { beginW k with k := { k with a := A' } } = .agg (lkC { k with a := A' } ++ zO) := rfl
  rw [e1, e2] at hs
  rw [e2]
  clear e1 e2
  unfold auhv auhC pkv pkC at he
  unfold pkv pkC lkC outC zO at hs
  unfold b16C at he
  simp only [List.cons_append, List.nil_append] at hs
  unfold lkC outC
  simp (maxSteps := 1000000) -implicitDefEqProofs only [go_sem, lkv, lkC, b16C]
  refine vgo_call rfl rfl rfl rfl (he _) ?_
  simp (maxSteps := 1000000) -implicitDefEqProofs only [go_sem]
  refine vgo_call rfl rfl rfl rfl (hs _) ?_
  simp (maxSteps := 1000000) -implicitDefEqProofs only [go_sem, List.cons_append, List.nil_append]

end Go.VL

/- Contracts of this program's functions: how the document closes a link. Conditions: none. -/
namespace Go.VL
open Go.Proofs

set_option maxRecDepth 20000 in
theorem c_r14new (r : RV) (σ : St) : VCalls Tryz.prog 101 [rv r] σ fun x σ' => x = ngv (newN r) ∧ σ' = σ := by
  refine vcalls_intro (C := cfg Tryz.prog [] [] []) (cfg_ok mixed) Tryz.func101 rfl rfl rfl rfl rfl ?_
  have ha := fun σ => c_rask r σ
  unfold rv rvC at ha
  simp (maxSteps := 1000000) -implicitDefEqProofs only [go_sem, rv, rvC]
  refine w_walk2 [4] [0, 1, 2, 3, 4] [3, 4, 5, 6] [0, 0, 2, 7, 15] rfl rfl rfl rfl ?_
  simp (maxSteps := 1000000) -implicitDefEqProofs only [go_sem]
  refine vdgo_call rfl rfl rfl rfl (ha _) ?_
  simp (maxSteps := 1000000) -implicitDefEqProofs only [go_sem]
  rfl
theorem c_r18fresh (σ : St) : VCalls Tryz.prog 203 [] σ fun r σ' => r = ngv freshN ∧ σ' = σ := by
  refine vcalls_intro (C := cfg Tryz.prog [] [] []) (cfg_ok mixed) Tryz.func203 rfl rfl rfl rfl rfl ?_
  have hn := c_r14new ipR σ
  unfold rv rvC at hn
  simp (maxSteps := 1000000) -implicitDefEqProofs only [go_sem]
  refine vgo_call rfl rfl rfl rfl hn ?_
  simp (maxSteps := 1000000) -implicitDefEqProofs only [go_sem, ngv, ngC]
  rfl
theorem c_r17new (σ : St) : VCalls Tryz.prog 100 [] σ fun r σ' => r = mev meterN ∧ σ' = σ := by
  refine vcalls_intro (C := cfg Tryz.prog [] [] []) (cfg_ok mixed) Tryz.func100 rfl rfl rfl rfl rfl ?_
  simp (maxSteps := 1000000) -implicitDefEqProofs only [go_sem]
  rfl

/-- A link's cells ahead of LCP's end, and behind. -/
def goC (W : WkV) (a : Bool) (z : Nat) (b : Bool) (y : Nat) (i : Nat) : List V := bif Nat.beq i 0 then lkC W.k ++ outC (.sl a false z (frs W.sent)) (.sl b false y (zv64 W.want)) W.p W.stop W.ip else lkC (goneW W).k ++ outC (.sl a false z (frs W.sent)) (.sl b false y (zv64 W.want)) W.p W.stop W.ip
set_option maxHeartbeats 8000000 in
set_option maxRecDepth 20000 in
/-- LCP is down, of a link without a session. -/
theorem c_r18lcp2 (W : WkV) (m : NgV) (p : PkV) (u1 u2 : Bool) (l1 l2 : Bool) (lz : Nat) (ls : List V) (hs : W.sent.length ≤ 900) (hp : PkOK p) (hd : p.d.length ≤ 1496) (hss : W.k.sess < 0) (σ : St) :
    VCalls Tryz.prog 161 [rnv W, .agg (roC m (.sl u1 false 3 [pkv p]) (.sl u2 false 1 [.int .i64 2]) (.sl l1 l2 lz ls))] σ fun r σ' => r = rnv (lcpW W m [p] [2]) ∧ σ' = σ := by
  refine vcalls_intro (C := cfg Tryz.prog [] [2] []) (cfg_ok mixed) Tryz.func161 rfl rfl rfl rfl rfl ?_
  have hw : lcpW W m [p] [2] = goneW (sendW { W with k := { W.k with l := m } } 49185 [p]) := by
    show toldW (sendW { W with k := { W.k with l := m } } 49185 [p]) 2 = _
    have hd0 : decide (0 ≤ (sendW { W with k := { W.k with l := m } } 49185 [p]).k.sess) = false := by rw [decide_eq_false_iff_not]; show ¬ (0 ≤ W.k.sess); omega
    show goneW (endW (sendW { W with k := { W.k with l := m } } 49185 [p])) = _
    unfold endW
    rw [hd0]
    rfl
  rw [hw]
  clear hw
  have hsd := fun σ => c_r18sent { W with k := { W.k with l := m } } 49185 u1 false p (by show W.sent.length ≤ 1000; omega) hp hd σ
  have hsess : (sendW { W with k := { W.k with l := m } } 49185 [p]).k.sess < 0 := hss
  have hfr := fun σ => c_r18fresh σ
  unfold ngv ngC freshN at hfr
  generalize sendW { W with k := { W.k with l := m } } 49185 [p] = W3 at *
  obtain ⟨a, z, b, y, e1, _, _⟩ := rn_x W
  obtain ⟨a3, z3, b3, y3, e3, _, _⟩ := rn_x W3
  have e1' : rnv { W with k := { W.k with l := m } } = .agg (lkC { W.k with l := m } ++ outC (.sl a false z (frs W.sent)) (.sl b false y (zv64 W.want)) W.p W.stop W.ip) := by
    have h : rnC W = lkC W.k ++ outC (slF W.sent) (slT W.want) W.p W.stop W.ip := rfl
    have e := e1
    unfold rnv at e
    rw [h] at e
    unfold lkC outC at e
    simp only [List.cons_append, List.nil_append, V.agg.injEq, List.cons.injEq, true_and] at e
    show V.agg (lkC { W.k with l := m } ++ outC (slF W.sent) (slT W.want) W.p W.stop W.ip) = _
    rw [e.1, e.2.1]
  have e4 : rnv (goneW W3) = .agg (lkC (goneW W3).k ++ outC (.sl a3 false z3 (frs W3.sent)) (.sl b3 false y3 (zv64 W3.want)) W3.p W3.stop W3.ip) := by
    have h : rnC W3 = lkC W3.k ++ outC (slF W3.sent) (slT W3.want) W3.p W3.stop W3.ip := rfl
    have e := e3
    unfold rnv at e
    rw [h] at e
    unfold lkC outC at e
    simp only [List.cons_append, List.nil_append, V.agg.injEq, List.cons.injEq, true_and] at e
    show V.agg (lkC (goneW W3).k ++ outC (slF W3.sent) (slT W3.want) W3.p W3.stop W3.ip) = _
    rw [e.1, e.2.1]
  rw [e1', e3] at hsd
  rw [e1, e4]
  clear e1 e1' e3 e4
  obtain ⟨X, hX⟩ : ∃ X, X = goC W3 a3 z3 b3 y3 := ⟨_, rfl⟩
  have hX0 : X 0 = lkC W3.k ++ outC (.sl a3 false z3 (frs W3.sent)) (.sl b3 false y3 (zv64 W3.want)) W3.p W3.stop W3.ip := by rw [hX]; rfl
  have hX1 : X 1 = lkC (goneW W3).k ++ outC (.sl a3 false z3 (frs W3.sent)) (.sl b3 false y3 (zv64 W3.want)) W3.p W3.stop W3.ip := by rw [hX]; rfl
  rw [← hX0] at hsd
  rw [← hX1]
  have hl : ∀ i, (X i).length = 84 := fun i => by rw [hX]; unfold goC; cases Nat.beq i 0 <;> rfl
  have hc : ∀ i, (X i).all cell1 = true := fun i => by rw [hX]; unfold goC; cases Nat.beq i 0 <;> rfl
  have him : ∀ i, (X i).all imm1 = true := fun i => by rw [hX]; unfold goC; cases Nat.beq i 0 <;> rfl
  have ht : ∀ i, (X i).take 84 = X i := fun i => List.take_of_length_le (Nat.le_of_eq (hl i))
  have hset : ∀ (Z : List V) i, Z.length = 84 → setCells Z 0 (X i) = X i := fun Z i h => set_all _ _ (by rw [hl]; exact h)
  unfold pkv pkC lkC outC at hsd
  simp only [List.cons_append, List.nil_append] at hsd
  unfold lkC outC roC pkv pkC
  simp (maxSteps := 1000000) -implicitDefEqProofs only [go_sem, List.cons_append, List.nil_append]
  refine vgo_call rfl rfl rfl rfl (hsd _) ?_
  simp (maxSteps := 1000000) -implicitDefEqProofs only [go_sem, hl, hc, him, ht, hset]
  refine w_loopL (fun i => i ≤ 1) (fun i => [(5, .int .i64 (i : Nat)), (4, .cell (zK ++ zO)), (3, .ip (roC m (.sl u1 false 3 [pkv p]) (.sl u2 false 1 [.int .i64 2]) (.sl l1 l2 lz ls))), (2, .cell (X i))]) (fun _ => σ) (fun i => 1 - i) 0 (Nat.zero_le _) ?_ rfl ?_
  · simp (maxSteps := 1000000) -implicitDefEqProofs only [go_sem]
    repeat' apply And.intro
    all_goals rfl
  intro i hi L hnext hleave
  rcases Nat.lt_or_ge i 1 with h | h
  · obtain rfl : i = 0 := by omega
    have hw1 : IntKind.i64.wrap (((0 : Nat) : Int) + 1) = ((1 : Nat) : Int) := by decide
    have g0 : decide (((0 : Nat) : Int) < ((1 : Nat) : Int)) = true := by decide
    have g1 : ((2 : Int) == 1) = false := rfl
    have g2 : ((2 : Int) == 2) = true := rfl
    have f0 : decide (0 ≤ W3.k.sess) = false := by rw [decide_eq_false_iff_not]; omega
    have next := fun fr' S' => hnext 1 fr' S' (by omega) (by omega)
    clear hnext
    rw [hX1] at next
    unfold roC pkv pkC lkC outC goneW at next
    simp only [List.cons_append, List.nil_append] at next
    rw [hX0]
    unfold roC pkv pkC lkC outC
    simp (maxSteps := 1000000) -implicitDefEqProofs only [go_sem, g0, g1, g2, f0, List.cons_append, List.nil_append]
    refine vgo_call rfl rfl rfl rfl (hfr _) ?_
    simp (maxSteps := 1000000) -implicitDefEqProofs only [go_sem]
    refine next _ _ ?_ rfl
    simp (maxSteps := 1000000) -implicitDefEqProofs only [go_sem, hw1]
    rfl
  · obtain rfl : i = 1 := by omega
    unfold roC
    simp (maxSteps := 1000000) -implicitDefEqProofs only [go_sem]
    refine hleave _ _ _ (fun h => by cases h) ?_
    rw [hX1]
    unfold lkC outC zK zO
    simp (maxSteps := 1000000) -implicitDefEqProofs only [go_sem, List.cons_append, List.nil_append]

set_option maxHeartbeats 8000000 in
set_option maxRecDepth 20000 in
/-- LCP that is Opened is closed, without a session. -/
theorem c_r18shut (W : WkV) (hg : Good W.k.l) (h9 : W.k.l.a.st = 9) (hs : W.sent.length ≤ 900) (hss : W.k.sess < 0) (σ : St) : VCalls Tryz.prog 98 [rnv W] σ fun r σ' => r = rnv (closeW W) ∧ σ' = σ := by
  refine vcalls_intro (C := cfg Tryz.prog [] [] []) (cfg_ok mixed) Tryz.func98 rfl rfl rfl rfl rfl ?_
  obtain ⟨c1, c2, c3⟩ := close9 h9
  obtain ⟨p, hp⟩ : ∃ p, doO W.k.l 3 = [p] := by
    match h : doO W.k.l 3, c2 with
    | [p], _ => exact ⟨p, rfl⟩
  have hpk := doO_ok hg 3 p (by rw [hp]; exact List.mem_singleton.2 rfl)
  have hcw : closeW W = lcpW W (evN W.k.l 3) [p] [2] := by unfold closeW; rw [hp, c3]
  rw [hcw]
  have hdo := fun σ => c_rdo14 W.k.l 3 hg.cnt hg.e σ
  have hdn : doneB W.k.l 3 = true := by
    have hx : (nextP W.k.l.a.st 3).2.2 = true := by rw [h9]; exact c91.1
    exact hx
  have hro : ∃ l1 l2 lz ls, roR (doW W.k.l 3, bif decide ((0 : Int) ≤ 3) && decide ((3 : Int) ≤ 3) then evLR W.k.l 3 else nilV) = .agg (roC (evN W.k.l 3) (.sl false false 3 [pkv p]) (.sl false false 1 [.int .i64 2]) (.sl l1 l2 lz ls)) := by
    rw [do_ev (by omega)]
    have e1 : evOV W.k.l 3 0 zPk = .sl false false 3 [pkv p] := by
      unfold evOV
      rw [hdn]
      show outV (evO W.k.l 3 0 zPk) = _
      rw [show evO W.k.l 3 0 zPk = [p] from hp]
      rfl
    have e2 : evTV W.k.l 3 = .sl false false 1 [.int .i64 2] := by
      unfold evTV
      rw [hdn, c3]
      rfl
    obtain ⟨l1, l2, lz, ls, e3⟩ : ∃ l1 l2 lz ls, evLR W.k.l 3 = .sl l1 l2 lz ls := by
      unfold evLR
      cases doneB W.k.l 3 <;> exact ⟨_, _, _, _, rfl⟩
    refine ⟨l1, l2, lz, ls, ?_⟩
    show roV (evN W.k.l 3) (evOV W.k.l 3 0 zPk) (evTV W.k.l 3) (evLR W.k.l 3) = _
    rw [e1, e2, e3]
    rfl
  obtain ⟨l1, l2, lz, ls, hro⟩ := hro
  rw [hro] at hdo
  have hlc := fun σ => c_r18lcp2 W (evN W.k.l 3) p false false l1 l2 lz ls hs hpk.1 hpk.2 hss σ
  generalize evN W.k.l 3 = m at *
  generalize lcpW W m [p] [2] = W2 at *
  obtain ⟨a, z, b, y, e1, _, _⟩ := rn_x W
  obtain ⟨a2, z2, b2, y2, e2, _, _⟩ := rn_x W2
  rw [e1, e2] at hlc
  rw [e1, e2]
  unfold ngv ngC roC pkv pkC at hdo
  unfold roC pkv pkC lkC outC at hlc
  simp only [List.cons_append, List.nil_append] at hlc
  unfold lkC outC
  simp (maxSteps := 1000000) -implicitDefEqProofs only [go_sem, List.cons_append, List.nil_append]
  refine w_walk2 [6] [0, 1, 2, 3, 4, 5, 6] [3, 4, 5, 6, 7, 8] [0, 0, 2, 6, 14, 31, 63] rfl rfl rfl rfl ?_
  simp (maxSteps := 1000000) -implicitDefEqProofs only [go_sem]
  refine vdgo_call rfl rfl rfl rfl (hdo _) ?_
  simp (maxSteps := 1000000) -implicitDefEqProofs only [go_sem]
  refine vdgo_call rfl rfl rfl rfl (hlc _) ?_
  simp (maxSteps := 1000000) -implicitDefEqProofs only [go_sem]

end Go.VL

/- Contracts of this program's functions: who is let in, as the document tells it. Conditions: none. -/
namespace Go.VL
open Go.Proofs

theorem rn_same {W W' : WkV} {a b : Bool} {z y : Nat} (h : rnv W = .agg (lkC W.k ++ outC (.sl a false z (frs W.sent)) (.sl b false y (zv64 W.want)) W.p W.stop W.ip)) (e1 : W'.sent = W.sent) (e2 : W'.want = W.want) (e3 : W'.p = W.p) (e4 : W'.stop = W.stop) (e5 : W'.ip = W.ip) : rnv W' = .agg (lkC W'.k ++ outC (.sl a false z (frs W.sent)) (.sl b false y (zv64 W.want)) W.p W.stop W.ip) := by
  have h0 : rnC W = lkC W.k ++ outC (slF W.sent) (slT W.want) W.p W.stop W.ip := rfl
  have e := h
  unfold rnv at e
  rw [h0] at e
  unfold lkC outC at e
  simp only [List.cons_append, List.nil_append, V.agg.injEq, List.cons.injEq, true_and] at e
  show V.agg (lkC W'.k ++ outC (slF W'.sent) (slT W'.want) W'.p W'.stop W'.ip) = _
  rw [e1, e2, e3, e4, e5, e.1, e.2.1]
set_option maxHeartbeats 4000000 in
set_option maxRecDepth 20000 in
theorem c_r18sent0 (W : WkV) (proto : UInt16) (nl c : Bool) (s : Nat) (σ : St) : VCalls Tryz.prog 96 [rnv W, .int .u16 proto.toNat, .sl nl c s []] σ fun r σ' => r = rnv W ∧ σ' = σ := by
  refine vcalls_intro (C := cfg Tryz.prog [] [3] [33]) (cfg_ok mixed) Tryz.func96 rfl rfl rfl rfl rfl ?_
  obtain ⟨a, z, b, y, e1, _, _⟩ := rn_x W
  rw [e1]
  unfold lkC outC
  simp (maxSteps := 1000000) -implicitDefEqProofs only [go_sem, List.cons_append, List.nil_append]
  obtain ⟨X, hX⟩ : ∃ X : List V, X = (lkC W.k ++ outC (.sl a false z (frs W.sent)) (.sl b false y (zv64 W.want)) W.p W.stop W.ip) := ⟨_, rfl⟩
  refine w_loopL (fun i => i = 0) (fun i => [(7, .int .i64 (i : Nat)), (6, .cell (zK ++ zO)), (3, .cell X), (2, .sl nl c s [])]) (fun _ => σ) (fun i => i) 0 rfl ?_ rfl ?_
  · rw [hX]
    simp (maxSteps := 1000000) -implicitDefEqProofs only [go_sem]
    repeat' apply And.intro
    all_goals rfl
  intro i hi L hnext hleave
  subst hi
  simp (maxSteps := 1000000) -implicitDefEqProofs only [go_sem]
  refine hleave _ _ _ (fun h => by cases h) ?_
  rw [hX]
  unfold lkC outC zK zO
  simp (maxSteps := 1000000) -implicitDefEqProofs only [go_sem, List.cons_append, List.nil_append]
set_option maxHeartbeats 8000000 in
set_option maxRecDepth 20000 in
theorem c_r18ipcp0 (W : WkV) (m : NgV) (u1 u2 u3 u4 : Bool) (s : Nat) (ts : List Int) (h4 : (4 : Int) ∉ ts) (htl : ts.length ≤ 100) (l1 l2 : Bool) (lz : Nat) (ls : List V) (hs : W.sent.length ≤ 900) (σ : St) :
    VCalls Tryz.prog 102 [rnv W, .agg (roC m (.sl u1 u2 s []) (.sl u3 u4 1 (zv64 ts)) (.sl l1 l2 lz ls))] σ fun r σ' => r = rnv (setN W m) ∧ σ' = σ := by
  refine vcalls_intro (C := cfg Tryz.prog [] [2] []) (cfg_ok mixed) Tryz.func102 rfl rfl rfl rfl rfl ?_
  have hsd := fun σ => c_r18sent0 (setN W m) 32801 u1 u2 s σ
  have hhas : ∀ σ, VCalls Tryz.prog 150 [.sl u3 u4 1 (zv64 ts), .int .i64 4] σ fun r σ' => r = .bool false ∧ σ' = σ := fun σ => by
    have h := c_rhas u3 u4 ts 4 (by omega) σ
    rw [decide_eq_false h4] at h
    exact h
  obtain ⟨a, z, b, y, e1, _, _⟩ := rn_x W
  have e3 := rn_same (W' := setN W m) e1 rfl rfl rfl rfl rfl
  have hk : (setN W m).k = { W.k with n := m } := rfl
  rw [hk] at e3
  rw [e3] at hsd ⊢
  rw [e1]
  clear e1 e3 hk
  generalize zv64 ts = TS at *
  unfold lkC outC at hsd
  simp only [List.cons_append, List.nil_append] at hsd
  unfold roC lkC outC
  simp (maxSteps := 1000000) -implicitDefEqProofs only [go_sem, List.cons_append, List.nil_append]
  refine vgo_call rfl rfl rfl rfl (hsd _) ?_
  simp (maxSteps := 1000000) -implicitDefEqProofs only [go_sem]
  refine vgo_call rfl rfl rfl rfl (hhas _) ?_
  simp (maxSteps := 1000000) -implicitDefEqProofs only [go_sem]
set_option maxHeartbeats 8000000 in
set_option maxRecDepth 20000 in
theorem c_r18ipcp1 (W : WkV) (m : NgV) (p : PkV) (hp : PkOK p) (hd : p.d.length ≤ 1496) (u1 u2 u3 u4 : Bool) (ts : List Int) (h4 : (4 : Int) ∉ ts) (htl : ts.length ≤ 100) (l1 l2 : Bool) (lz : Nat) (ls : List V) (hs : W.sent.length ≤ 900) (σ : St) :
    VCalls Tryz.prog 102 [rnv W, .agg (roC m (.sl u1 u2 3 [pkv p]) (.sl u3 u4 1 (zv64 ts)) (.sl l1 l2 lz ls))] σ fun r σ' => r = rnv (sendW (setN W m) 32801 [p]) ∧ σ' = σ := by
  refine vcalls_intro (C := cfg Tryz.prog [] [2] []) (cfg_ok mixed) Tryz.func102 rfl rfl rfl rfl rfl ?_
  have hsd := fun σ => c_r18sent (setN W m) 32801 u1 u2 p (by show W.sent.length ≤ 1000; omega) hp hd σ
  have hhas : ∀ σ, VCalls Tryz.prog 150 [.sl u3 u4 1 (zv64 ts), .int .i64 4] σ fun r σ' => r = .bool false ∧ σ' = σ := fun σ => by
    have h := c_rhas u3 u4 ts 4 (by omega) σ
    rw [decide_eq_false h4] at h
    exact h
  obtain ⟨W2, hW2⟩ : ∃ W2, W2 = (sendW (setN W m) 32801 [p]) := ⟨_, rfl⟩
  rw [← hW2] at hsd ⊢
  obtain ⟨a, z, b, y, e1, _, _⟩ := rn_x W
  obtain ⟨a2, z2, b2, y2, e2, _, _⟩ := rn_x W2
  have e3 := rn_same (W' := setN W m) e1 rfl rfl rfl rfl rfl
  rw [e3, e2] at hsd
  rw [e1, e2]
  clear e1 e2 e3
  have hk : (setN W m).k = { W.k with n := m } := rfl
  rw [hk] at hsd
  generalize zv64 ts = TS at *
  unfold pkv pkC lkC outC at hsd
  simp only [List.cons_append, List.nil_append] at hsd
  unfold roC pkv pkC lkC outC
  simp (maxSteps := 1000000) -implicitDefEqProofs only [go_sem, List.cons_append, List.nil_append]
  refine vgo_call rfl rfl rfl rfl (hsd _) ?_
  simp (maxSteps := 1000000) -implicitDefEqProofs only [go_sem]
  refine vgo_call rfl rfl rfl rfl (hhas _) ?_
  simp (maxSteps := 1000000) -implicitDefEqProofs only [go_sem]

end Go.VL

/- Contracts of this program's functions: the document's Refuse and Full. Conditions: none. -/
namespace Go.VL
open Go.Proofs

/-- A link that was at work, with its phase. -/
def endK (W : WkV) : WkV := { W with k := doneK W }
set_option maxHeartbeats 8000000 in
set_option maxRecDepth 20000 in
theorem c_r18refuse (k : LinkV) (hg : Good k.l) (σ : St) : VCalls Tryz.prog 37 [lkv k] σ fun r σ' => r = rnv (endK (toldW1 k noS z16 false)) ∧ σ' = σ := by
  refine vcalls_intro (C := cfg Tryz.prog [] [] []) (cfg_ok mixed) Tryz.func37 rfl rfl rfl rfl rfl ?_
  have hj := fun σ => c_r18judged k hg.st σ
  unfold lkv lkC at hj
  cases ha : askedB k
  · rw [ha] at hj
    have hw : toldW1 k noS z16 false = beginW k := by unfold toldW1; rw [ha]; rfl
    rw [hw]
    have hd := fun σ => c_r18done (beginW k) hg.st σ
    have he : rnv { beginW k with k := doneK (beginW k) } = rnv (endK (beginW k)) := rfl
    rw [he, rn_begin] at hd
    obtain ⟨a2, z2, b2, y2, e2, _, _⟩ := rn_x (endK (beginW k))
    rw [e2] at hd ⊢
    clear e2 he
    generalize endK (beginW k) = W2 at *
    unfold lkC outC zO at hd
    simp only [List.cons_append, List.nil_append] at hd
    unfold lkC outC
    simp (maxSteps := 1000000) -implicitDefEqProofs only [go_sem, lkv, lkC, b16C, List.cons_append, List.nil_append]
    refine vgo_call rfl rfl rfl rfl (hj _) ?_
    simp (maxSteps := 1000000) -implicitDefEqProofs only [go_sem]
    refine vgo_call rfl rfl rfl rfl (hd _) ?_
    simp (maxSteps := 1000000) -implicitDefEqProofs only [go_sem]
  · rw [ha] at hj
    have hw : toldW1 k noS z16 false = closeW (endW1 (beginW k) noS z16 false) := by unfold toldW1; rw [ha]; rfl
    rw [hw]
    have hen := fun σ => c_r18ended k noS z16 false σ
    obtain ⟨q1, q2, q3⟩ := end1_l (beginW k) noS z16 false
    have hsh := fun σ => c_r18shut (endW1 (beginW k) noS z16 false) (by rw [q1]; exact hg) (by rw [q1]; exact (asked_is ha).1) (by rw [q2]; show 0 + 1 ≤ 900; omega) (asked_is ha).2.1 σ
    have hgc : Good (closeW (endW1 (beginW k) noS z16 false)).k.l := by
      have h : (closeW (endW1 (beginW k) noS z16 false)).k.l = evN k.l 3 := (lcp_l _ _ _ _).1
      rw [h]
      exact ev_good hg 3
    have hd := fun σ => c_r18done (closeW (endW1 (beginW k) noS z16 false)) hgc.st σ
    clear q1 q2 q3 hgc hw
    generalize endW1 (beginW k) noS z16 false = W1 at *
    generalize closeW W1 = W2 at *
    have he : rnv { W2 with k := doneK W2 } = rnv (endK W2) := rfl
    rw [he] at hd
    generalize endK W2 = W3 at *
    obtain ⟨a1, z1, b1, y1, e1, _, _⟩ := rn_x W1
    obtain ⟨a2, z2, b2, y2, e2, _, _⟩ := rn_x W2
    obtain ⟨a3, z3, b3, y3, e3, _, _⟩ := rn_x W3
    rw [e1] at hen hsh
    rw [e2] at hsh hd
    rw [e3] at hd ⊢
    clear e1 e2 e3 he
    unfold noS z16 at hen
    unfold lkv lkC outC at hen
    unfold lkC outC at hsh hd
    unfold b16C at hen
    simp only [List.cons_append, List.nil_append] at hen hsh hd
    unfold lkC outC
    simp (maxSteps := 1000000) -implicitDefEqProofs only [go_sem, lkv, lkC, b16C, List.cons_append, List.nil_append]
    refine vgo_call rfl rfl rfl rfl (hj _) ?_
    simp (maxSteps := 1000000) -implicitDefEqProofs only [go_sem]
    refine vgo_call rfl rfl rfl rfl (hen _) ?_
    simp (maxSteps := 1000000) -implicitDefEqProofs only [go_sem]
    refine vgo_call rfl rfl rfl rfl (hsh _) ?_
    simp (maxSteps := 1000000) -implicitDefEqProofs only [go_sem]
    refine vgo_call rfl rfl rfl rfl (hd _) ?_
    simp (maxSteps := 1000000) -implicitDefEqProofs only [go_sem]
set_option maxHeartbeats 8000000 in
set_option maxRecDepth 20000 in
theorem c_r18full (k : LinkV) (who : ByteArray) (proof : B16) (hg : Good k.l) (σ : St) : VCalls Tryz.prog 38 [lkv k, .str who, .agg (b16C proof)] σ fun r σ' => r = rnv (endK (toldW1 k who proof true)) ∧ σ' = σ := by
  refine vcalls_intro (C := cfg Tryz.prog [] [] []) (cfg_ok mixed) Tryz.func38 rfl rfl rfl rfl rfl ?_
  have hj := fun σ => c_r18judged k hg.st σ
  unfold lkv lkC at hj
  cases ha : askedB k
  · rw [ha] at hj
    have hw : toldW1 k who proof true = beginW k := by unfold toldW1; rw [ha]; rfl
    rw [hw]
    have hd := fun σ => c_r18done (beginW k) hg.st σ
    have he : rnv { beginW k with k := doneK (beginW k) } = rnv (endK (beginW k)) := rfl
    rw [he, rn_begin] at hd
    obtain ⟨a2, z2, b2, y2, e2, _, _⟩ := rn_x (endK (beginW k))
    rw [e2] at hd ⊢
    clear e2 he
    generalize endK (beginW k) = W2 at *
    unfold lkC outC zO at hd
    simp only [List.cons_append, List.nil_append] at hd
    unfold lkC outC
    simp (maxSteps := 1000000) -implicitDefEqProofs only [go_sem, lkv, lkC, b16C, List.cons_append, List.nil_append]
    refine vgo_call rfl rfl rfl rfl (hj _) ?_
    simp (maxSteps := 1000000) -implicitDefEqProofs only [go_sem]
    refine vgo_call rfl rfl rfl rfl (hd _) ?_
    simp (maxSteps := 1000000) -implicitDefEqProofs only [go_sem]
  · rw [ha] at hj
    have hw : toldW1 k who proof true = closeW (endW1 (beginW k) who proof true) := by unfold toldW1; rw [ha]; rfl
    rw [hw]
    have hen := fun σ => c_r18ended k who proof true σ
    obtain ⟨q1, q2, q3⟩ := end1_l (beginW k) who proof true
    have hsh := fun σ => c_r18shut (endW1 (beginW k) who proof true) (by rw [q1]; exact hg) (by rw [q1]; exact (asked_is ha).1) (by rw [q2]; show 0 + 1 ≤ 900; omega) (asked_is ha).2.1 σ
    have hgc : Good (closeW (endW1 (beginW k) who proof true)).k.l := by
      have h : (closeW (endW1 (beginW k) who proof true)).k.l = evN k.l 3 := (lcp_l _ _ _ _).1
      rw [h]
      exact ev_good hg 3
    have hd := fun σ => c_r18done (closeW (endW1 (beginW k) who proof true)) hgc.st σ
    clear q1 q2 q3 hgc hw
    generalize endW1 (beginW k) who proof true = W1 at *
    generalize closeW W1 = W2 at *
    have he : rnv { W2 with k := doneK W2 } = rnv (endK W2) := rfl
    rw [he] at hd
    generalize endK W2 = W3 at *
    obtain ⟨a1, z1, b1, y1, e1, _, _⟩ := rn_x W1
    obtain ⟨a2, z2, b2, y2, e2, _, _⟩ := rn_x W2
    obtain ⟨a3, z3, b3, y3, e3, _, _⟩ := rn_x W3
    rw [e1] at hen hsh
    rw [e2] at hsh hd
    rw [e3] at hd ⊢
    clear e1 e2 e3 he
    unfold lkv lkC outC at hen
    unfold lkC outC at hsh hd
    unfold b16C at hen
    simp only [List.cons_append, List.nil_append] at hen hsh hd
    unfold lkC outC
    simp (maxSteps := 1000000) -implicitDefEqProofs only [go_sem, lkv, lkC, b16C, List.cons_append, List.nil_append]
    refine vgo_call rfl rfl rfl rfl (hj _) ?_
    simp (maxSteps := 1000000) -implicitDefEqProofs only [go_sem]
    refine vgo_call rfl rfl rfl rfl (hen _) ?_
    simp (maxSteps := 1000000) -implicitDefEqProofs only [go_sem]
    refine vgo_call rfl rfl rfl rfl (hsh _) ?_
    simp (maxSteps := 1000000) -implicitDefEqProofs only [go_sem]
    refine vgo_call rfl rfl rfl rfl (hd _) ?_
    simp (maxSteps := 1000000) -implicitDefEqProofs only [go_sem]

end Go.VL

/- Contracts of this program's functions: the document's Ask and Welcome. Conditions: none. -/
namespace Go.VL
open Go.Proofs

set_option maxHeartbeats 8000000 in
set_option maxRecDepth 20000 in
theorem c_r18ask (k : LinkV) (v : B16) (hst : 0 ≤ k.l.a.st ∧ k.l.a.st ≤ 9) (σ : St) : VCalls Tryz.prog 36 [lkv k, .agg (b16C v)] σ fun r σ' => r = rnv (endK (askW k v)) ∧ σ' = σ := by
  refine vcalls_intro (C := cfg Tryz.prog [] [] []) (cfg_ok mixed) Tryz.func36 rfl rfl rfl rfl rfl ?_
  have hp := fun σ => c_r18phase k σ
  rw [phase_same hst] at hp
  unfold lkv lkC at hp
  cases q1 : phaseP k == 2
  · have hw : askW k v = beginW k := by unfold askW; rw [q1]; rfl
    rw [hw]
    have hd := fun σ => c_r18done (beginW k) hst σ
    have he : rnv { beginW k with k := doneK (beginW k) } = rnv (endK (beginW k)) := rfl
    rw [he, rn_begin] at hd
    obtain ⟨a2, z2, b2, y2, e2, _, _⟩ := rn_x (endK (beginW k))
    rw [e2] at hd ⊢
    clear e2 he
    generalize endK (beginW k) = W2 at *
    unfold lkC outC zO at hd
    simp only [List.cons_append, List.nil_append] at hd
    unfold lkC outC
    simp (maxSteps := 1000000) -implicitDefEqProofs only [go_sem, lkv, lkC, b16C, List.cons_append, List.nil_append]
    refine vgo_call rfl rfl rfl rfl (hp _) ?_
    simp (maxSteps := 1000000) -implicitDefEqProofs only [go_sem, bne, q1]
    refine vgo_call rfl rfl rfl rfl (hd _) ?_
    simp (maxSteps := 1000000) -implicitDefEqProofs only [go_sem]
  · have hw : askW k v = chapW1 (beginW k) (askA (zAu k.a.id) v) [chalP (k.a.id + 1) v] := by unfold askW; rw [q1]; rfl
    rw [hw]
    have hb := fun σ => c_r15begin k.a v σ
    have hpk : PkOK (chalP (k.a.id + 1) v) ∧ (chalP (k.a.id + 1) v).d.length ≤ 1496 := ⟨.inl rfl, by show 26 ≤ 1496; omega⟩
    generalize askA (zAu k.a.id) v = A' at *
    generalize chalP (k.a.id + 1) v = P' at *
    have hs := fun σ => c_r18sent { beginW k with k := { k with a := A' } } 49699 false true P' (Nat.zero_le _) hpk.1 hpk.2 σ
    have hw2 : chapW1 (beginW k) A' [P'] = sendW { beginW k with k := { k with a := A' } } 49699 [P'] := rfl
    have hst2 : 0 ≤ (chapW1 (beginW k) A' [P']).k.l.a.st ∧ (chapW1 (beginW k) A' [P']).k.l.a.st ≤ 9 := hst
    have hd := fun σ => c_r18done (chapW1 (beginW k) A' [P']) hst2 σ
    rw [← hw2] at hs
    clear hw2 hst2 hw
    generalize chapW1 (beginW k) A' [P'] = W2 at *
    have he : rnv { W2 with k := doneK W2 } = rnv (endK W2) := rfl
    rw [he] at hd
    generalize endK W2 = W3 at *
    obtain ⟨a2, z2, b2, y2, e2, _, _⟩ := rn_x W2
    obtain ⟨a3, z3, b3, y3, e3, _, _⟩ := rn_x W3
    have e1 : rnv { beginW k with k := { k with a := A' } } = .agg (lkC { k with a := A' } ++ zO) := rfl
    rw [e1, e2] at hs
    rw [e2, e3] at hd
    rw [e3]
    clear e1 e2 e3 he
    unfold auhv auhC pkv pkC at hb
    unfold b16C at hb
    unfold pkv pkC lkC outC zO at hs
    unfold lkC outC at hd
    simp only [List.cons_append, List.nil_append] at hs hd
    unfold lkC outC
    simp (maxSteps := 1000000) -implicitDefEqProofs only [go_sem, lkv, lkC, b16C, List.cons_append, List.nil_append]
    refine vgo_call rfl rfl rfl rfl (hp _) ?_
    simp (maxSteps := 1000000) -implicitDefEqProofs only [go_sem, bne, q1]
    refine vgo_call rfl rfl rfl rfl (hb _) ?_
    simp (maxSteps := 1000000) -implicitDefEqProofs only [go_sem]
    refine vgo_call rfl rfl rfl rfl (hs _) ?_
    simp (maxSteps := 1000000) -implicitDefEqProofs only [go_sem]
    refine vgo_call rfl rfl rfl rfl (hd _) ?_
    simp (maxSteps := 1000000) -implicitDefEqProofs only [go_sem]

/-! The events of a protocol that comes up. -/
theorem evLR_sl (n : NgV) (e : Int) : ∃ l1 l2 lz ls, evLR n e = .sl l1 l2 lz ls := by
  unfold evLR
  cases doneB n e <;> exact ⟨_, _, _, _, rfl⟩
theorem ro_up (r : RV) : ∃ l1 l2 lz ls, roR (doW (newN r) 2, bif decide ((0 : Int) ≤ 2) && decide ((2 : Int) ≤ 3) then evLR (newN r) 2 else nilV) = .agg (roC (midN r) (.sl true false 3 []) (.sl false false 1 (zv64 [3])) (.sl l1 l2 lz ls)) := by
  obtain ⟨a1, a2, a3⟩ := new_up r
  have hd : doneB (newN r) 2 = true := x_a1
  obtain ⟨l1, l2, lz, ls, e3⟩ := evLR_sl (newN r) 2
  rw [do_ev (by omega)]
  refine ⟨l1, l2, lz, ls, ?_⟩
  show roV (evN (newN r) 2) (evOV (newN r) 2 0 zPk) (evTV (newN r) 2) (evLR (newN r) 2) = _
  have e1 : evOV (newN r) 2 0 zPk = .sl true false 3 [] := by
    unfold evOV
    rw [hd]
    show outV (evO (newN r) 2 0 zPk) = _
    rw [show evO (newN r) 2 0 zPk = [] from a2]
    rfl
  have e2 : evTV (newN r) 2 = .sl false false 1 (zv64 [3]) := by
    unfold evTV
    rw [hd, a3]
    rfl
  rw [a1, e1, e2, e3]
  rfl
theorem ro_up2 (r : RV) : ∃ l1 l2 lz ls, roR (doW (midN r) 0, bif decide ((0 : Int) ≤ 0) && decide ((0 : Int) ≤ 3) then evLR (midN r) 0 else nilV) = .agg (roC (upN r) (.sl false false 3 [pkv (reqP (upN r))]) (.sl true false 1 (zv64 [])) (.sl l1 l2 lz ls)) := by
  obtain ⟨a1, a2, a3⟩ := new_up2 r
  have hd : doneB (midN r) 0 = true := x_b1
  obtain ⟨l1, l2, lz, ls, e3⟩ := evLR_sl (midN r) 0
  rw [do_ev (by omega)]
  refine ⟨l1, l2, lz, ls, ?_⟩
  show roV (evN (midN r) 0) (evOV (midN r) 0 0 zPk) (evTV (midN r) 0) (evLR (midN r) 0) = _
  have e1 : evOV (midN r) 0 0 zPk = .sl false false 3 [pkv (reqP (upN r))] := by
    unfold evOV
    rw [hd]
    show outV (evO (midN r) 0 0 zPk) = _
    rw [show evO (midN r) 0 0 zPk = [reqP (upN r)] from a2]
    rfl
  have e2 : evTV (midN r) 0 = .sl true false 1 (zv64 []) := by
    unfold evTV
    rw [hd, a3]
    rfl
  rw [a1, e1, e2, e3]
  rfl
theorem up_pk (r : RV) : PkOK (reqP (upN r)) ∧ (reqP (upN r)).d.length ≤ 1496 := by
  refine ⟨.inl rfl, ?_⟩
  have h := (up_good r).e
  unfold encOK at h
  simp only [Bool.and_eq_true, decide_eq_true_eq] at h
  exact h.2

end Go.VL

/- Contracts of this program's functions: the document's Welcome. Conditions: none. -/
namespace Go.VL
open Go.Proofs

set_option maxHeartbeats 16000000 in
set_option maxRecDepth 20000 in
theorem c_r18welcome (k : LinkV) (who : ByteArray) (proof : B16) (id : Int) (addr : UInt32) (hg : Good k.l) (σ : St) : VCalls Tryz.prog 39 [lkv k, .str who, .agg (b16C proof), .int .i64 id, .int .u32 addr.toNat] σ fun r σ' => r = rnv (endK (welcomeW k who proof id addr)) ∧ σ' = σ := by
  refine vcalls_intro (C := cfg Tryz.prog [] [] []) (cfg_ok mixed) Tryz.func39 rfl rfl rfl rfl rfl ?_
  have hj := fun σ => c_r18judged k hg.st σ
  unfold lkv lkC at hj
  cases ha : askedB k
  · rw [ha] at hj
    have hw : welcomeW k who proof id addr = beginW k := by unfold welcomeW; rw [ha]; rfl
    rw [hw]
    have hd := fun σ => c_r18done (beginW k) hg.st σ
    have he : rnv { beginW k with k := doneK (beginW k) } = rnv (endK (beginW k)) := rfl
    rw [he, rn_begin] at hd
    obtain ⟨a2, z2, b2, y2, e2, _, _⟩ := rn_x (endK (beginW k))
    rw [e2] at hd ⊢
    clear e2 he
    generalize endK (beginW k) = W2 at *
    unfold lkC outC zO at hd
    simp only [List.cons_append, List.nil_append] at hd
    unfold lkC outC
    simp (maxSteps := 1000000) -implicitDefEqProofs only [go_sem, lkv, lkC, b16C, List.cons_append, List.nil_append]
    refine vgo_call rfl rfl rfl rfl (hj _) ?_
    simp (maxSteps := 1000000) -implicitDefEqProofs only [go_sem]
    refine vgo_call rfl rfl rfl rfl (hd _) ?_
    simp (maxSteps := 1000000) -implicitDefEqProofs only [go_sem]
  · rw [ha] at hj
    rw [welcome_is ha]
    unfold inW
    have hen := fun σ => c_r18ended k who proof true σ
    obtain ⟨q1, q2, _⟩ := end1_l (beginW k) who proof true
    have hl1 : (endW1 (beginW k) who proof true).k.l = k.l := q1
    have hs1 : (endW1 (beginW k) who proof true).sent.length ≤ 900 := by rw [q2]; show 0 + 1 ≤ 900; omega
    clear q1 q2
    generalize endW1 (beginW k) who proof true = E at *
    have hnew := fun σ => c_r14new (gateR addr) σ
    have hmn := fun σ => c_r17new σ
    have hdo1 := fun σ => c_rdo14 (newN (gateR addr)) 2 (Good_new (gateR addr)).cnt (Good_new (gateR addr)).e σ
    obtain ⟨l1, l2, lz, ls, hro1⟩ := ro_up (gateR addr)
    rw [hro1] at hdo1
    have hdo2 := fun σ => c_rdo14 (midN (gateR addr)) 0 (mid_good (gateR addr)).cnt (mid_good (gateR addr)).e σ
    obtain ⟨l3, l4, lw, lt, hro2⟩ := ro_up2 (gateR addr)
    rw [hro2] at hdo2
    clear hro1 hro2
    obtain ⟨p1, p2⟩ := up_pk (gateR addr)
    have hip1 := fun σ => c_r18ipcp0 (letW E id addr) (midN (gateR addr)) true false false false 3 [3] (by decide) (by simp) l1 l2 lz ls hs1 σ
    have hip2 := fun σ => c_r18ipcp1 (setN (letW E id addr) (midN (gateR addr))) (upN (gateR addr)) (reqP (upN (gateR addr))) p1 p2 false false true false [] (by simp) (by simp) l3 l4 lw lt hs1 σ
    have hss : setN (setN (letW E id addr) (midN (gateR addr))) (upN (gateR addr)) = setN (letW E id addr) (upN (gateR addr)) := rfl
    rw [hss] at hip2
    clear hss
    have hst : 0 ≤ (sendW (setN (letW E id addr) (upN (gateR addr))) 32801 [reqP (upN (gateR addr))]).k.l.a.st ∧ (sendW (setN (letW E id addr) (upN (gateR addr))) 32801 [reqP (upN (gateR addr))]).k.l.a.st ≤ 9 := by
      show 0 ≤ E.k.l.a.st ∧ E.k.l.a.st ≤ 9
      rw [hl1]
      exact hg.st
    have hd := fun σ => c_r18done (sendW (setN (letW E id addr) (upN (gateR addr))) 32801 [reqP (upN (gateR addr))]) hst σ
    clear hst hl1 hs1 p1 p2
    have hLk : (letW E id addr).k = { E.k with sess := id, addr := addr, m := meterN, n := newN (gateR addr) } := rfl
    have hMk : (setN (letW E id addr) (midN (gateR addr))).k = { E.k with sess := id, addr := addr, m := meterN, n := midN (gateR addr) } := rfl
    obtain ⟨a1, z1, b1, y1, e1, _, _⟩ := rn_x E
    have e2 := rn_same (W' := letW E id addr) e1 rfl rfl rfl rfl rfl
    have e3 := rn_same (W' := setN (letW E id addr) (midN (gateR addr))) e1 rfl rfl rfl rfl rfl
    rw [hLk] at e2
    rw [hMk] at e3
    rw [e1] at hen
    rw [e2, e3] at hip1
    rw [e3] at hip2
    clear e1 e2 e3 hLk hMk
    generalize sendW (setN (letW E id addr) (upN (gateR addr))) 32801 [reqP (upN (gateR addr))] = W2 at *
    have he : rnv { W2 with k := doneK W2 } = rnv (endK W2) := rfl
    rw [he] at hd
    generalize endK W2 = W3 at *
    obtain ⟨a2, z2, b2, y2, e2, _, _⟩ := rn_x W2
    obtain ⟨a3, z3, b3, y3, e3, _, _⟩ := rn_x W3
    rw [e2] at hip2 hd
    rw [e3] at hd ⊢
    clear e2 e3 he
    generalize reqP (upN (gateR addr)) = P' at *
    generalize upN (gateR addr) = N2 at *
    generalize midN (gateR addr) = N1 at *
    generalize newN (gateR addr) = N0 at *
    generalize meterN = M0 at *
    unfold lkv lkC outC at hen
    unfold b16C at hen
    unfold rv rvC gateR ngv ngC at hnew
    unfold mev meC at hmn
    unfold ngv ngC roC at hdo1
    unfold ngv ngC roC pkv pkC at hdo2
    unfold roC lkC outC at hip1
    unfold roC pkv pkC lkC outC at hip2
    unfold lkC outC at hd
    simp only [List.cons_append, List.nil_append] at hen hip1 hip2 hd
    unfold lkC outC
    simp (maxSteps := 1000000) -implicitDefEqProofs only [go_sem, lkv, lkC, b16C, List.cons_append, List.nil_append]
    refine vgo_call rfl rfl rfl rfl (hj _) ?_
    simp (maxSteps := 1000000) -implicitDefEqProofs only [go_sem]
    refine vgo_call rfl rfl rfl rfl (hen _) ?_
    simp (maxSteps := 1000000) -implicitDefEqProofs only [go_sem]
    refine vgo_call rfl rfl rfl rfl (hmn _) ?_
    simp (maxSteps := 1000000) -implicitDefEqProofs only [go_sem]
    refine vgo_call rfl rfl rfl rfl (hnew _) ?_
    simp (maxSteps := 1000000) -implicitDefEqProofs only [go_sem]
    refine w_walk2 [6] [0, 1, 2, 3, 4, 5, 6] [38, 39, 40, 41, 42, 43] [0, 0, 2, 6, 14, 31, 63] rfl rfl rfl rfl ?_
    simp (maxSteps := 1000000) -implicitDefEqProofs only [go_sem]
    refine vdgo_call rfl rfl rfl rfl (hdo1 _) ?_
    simp (maxSteps := 1000000) -implicitDefEqProofs only [go_sem]
    refine vdgo_call rfl rfl rfl rfl (hip1 _) ?_
    simp (maxSteps := 1000000) -implicitDefEqProofs only [go_sem]
    refine w_walk2 [7] [0, 1, 2, 3, 4, 5, 6, 7] [44, 45, 46, 47, 48, 49, 50] [0, 0, 2, 6, 14, 31, 63, 127] rfl rfl rfl rfl ?_
    simp (maxSteps := 1000000) -implicitDefEqProofs only [go_sem]
    refine vdgo_call rfl rfl rfl rfl (hdo2 _) ?_
    simp (maxSteps := 1000000) -implicitDefEqProofs only [go_sem]
    refine vdgo_call rfl rfl rfl rfl (hip2 _) ?_
    simp (maxSteps := 1000000) -implicitDefEqProofs only [go_sem]
    refine vdgo_call rfl rfl rfl rfl (hd _) ?_
    simp (maxSteps := 1000000) -implicitDefEqProofs only [go_sem]

end Go.VL

/- Contracts of this program's functions: what came out is as the document says. Conditions: none. -/
namespace Go.VL
open Go.Proofs

set_option maxRecDepth 20000 in
theorem c_r08same (f : FrV) (hz : f.sz = 1) (hl : f.d.length ≤ lim) (σ : St) : VCalls Tryz.prog 201 [frv f, frv f] σ fun r σ' => r = .bool true ∧ σ' = σ := by
  refine vcalls_intro (C := cfg Tryz.prog [] [] []) (cfg_ok mixed) Tryz.func201 rfl rfl rfl rfl rfl ?_
  have hrow := fun σ => c_row f.nl f.c f.nl f.c f.d f.d hl σ
  have hd : decide (f.d = f.d) = true := by simp
  rw [hd] at hrow
  have hp : ((f.proto.toNat : Int) == (f.proto.toNat : Int)) = true := by simp
  simp (maxSteps := 1000000) -implicitDefEqProofs only [go_sem, frv, frC, hz]
  refine vgo_call rfl rfl rfl rfl (hrow _) ?_
  simp (maxSteps := 1000000) -implicitDefEqProofs only [go_sem, hp]
/-- Frames whose rows may be held together. -/
def FrsOK (l : List FrV) : Prop := ∀ f ∈ l, f.sz = 1 ∧ f.d.length ≤ lim
set_option maxHeartbeats 2000000 in
set_option maxRecDepth 20000 in
theorem c_r08frames1 (nl c nl' c' : Bool) (l : List FrV) (h : FrsOK l) (hl : l.length ≤ 10000) (σ : St) : VCalls Tryz.prog 159 [.sl nl c 2 (frs l), .sl nl' c' 2 (frs l)] σ fun r σ' => r = .bool true ∧ σ' = σ := by
  refine vcalls_intro (C := cfg Tryz.prog [] [] []) (cfg_ok mixed) Tryz.func159 rfl rfl rfl rfl rfl ?_
  have hb : ((l.length : Int) == (l.length : Int)) = true := by simp
  simp (maxSteps := 1000000) -implicitDefEqProofs only [go_sem, frs_length, bne, hb]
  refine w_loopL (fun i => i ≤ l.length) (fun i => [(5, .int .i64 i), (1, .sl nl' c' 2 (frs l)), (0, .sl nl c 2 (frs l))]) (fun _ => σ) (fun i => l.length - i) 0 (Nat.zero_le _) ?_ rfl ?_
  · simp (maxSteps := 1000000) -implicitDefEqProofs only [go_sem]
    repeat' apply And.intro
    all_goals rfl
  intro i hi L hnext hleave
  rcases Nat.lt_or_ge i l.length with h1 | h1
  · have hw1 : IntKind.i64.wrap ((i : Int) + 1) = ((i + 1 : Nat) : Int) := wrap_ok (by omega) (by omega)
    have next := fun fr' S' => hnext (i + 1) fr' S' h1 (by omega)
    clear hnext
    have hgd := frs_getD h1
    have hx := h l[i] (List.getElem_mem h1)
    have hsm := fun σ => c_r08same l[i] hx.1 hx.2 σ
    generalize l[i] = x at hgd hx hsm
    unfold frv frC at hgd hsm
    simp (maxSteps := 1000000) -implicitDefEqProofs only [go_sem, frs_length, h1, hgd]
    refine w_walk2 [9] [0, 1, 2, 3, 4, 5, 6, 7, 8, 9] [18, 19, 20, 21, 22, 23, 24, 25, 26] [0, 0, 3, 7, 0, 0, 48, 112, 255, 511] rfl rfl rfl rfl ?_
    simp (maxSteps := 1000000) -implicitDefEqProofs only [go_sem, frs_length, h1, hgd]
    refine vdgo_call rfl rfl rfl rfl (hsm _) ?_
    simp (maxSteps := 1000000) -implicitDefEqProofs only [go_sem]
    refine next _ _ ?_ rfl
    simp (maxSteps := 1000000) -implicitDefEqProofs only [go_sem, hw1]
  · have hn1 : ¬ (i < l.length) := by omega
    simp (maxSteps := 1000000) -implicitDefEqProofs only [go_sem, frs_length, hn1]
    refine hleave _ _ _ (fun h => by cases h) ?_
    simp (maxSteps := 1000000) -implicitDefEqProofs only [go_sem]
theorem c_r08frames (W : WkV) (h : FrsOK W.sent) (hl : W.sent.length ≤ 10000) (σ : St) : VCalls Tryz.prog 159 [slF W.sent, .sl W.sent.isEmpty false 2 (frs W.sent)] σ fun r σ' => r = .bool true ∧ σ' = σ := by
  cases hs : W.sent with
  | nil => exact (c_r08frames1 true false true false [] (fun f hf => by cases hf) (Nat.zero_le _) σ).ne ⟨.nil _ _ _ _, .refl _, trivial⟩
  | cons x l =>
    rw [hs] at h hl
    exact c_r08frames1 false false false false (x :: l) h hl σ

theorem strEq_self (s : ByteArray) : strEq s s = true := by unfold strEq; simp
set_option maxHeartbeats 4000000 in
set_option maxRecDepth 20000 in
theorem c_r18outs (W : WkV) (h : FrsOK W.sent) (hl : W.sent.length ≤ 1000) (hw : W.want.length ≤ 1000) (hp : PkOK W.p) (hpl : W.p.d.length ≤ lim) (hip : W.ip = ⟨true, false, 0, []⟩) (σ : St) : VCalls Tryz.prog 93 [.agg (outC (slF W.sent) (slT W.want) W.p W.stop W.ip), outW W] σ fun r σ' => r = .bool true ∧ σ' = σ := by
  refine vcalls_intro (C := cfg Tryz.prog [] [] []) (cfg_ok mixed) Tryz.func93 rfl rfl rfl rfl rfl ?_
  have hf := fun σ => c_r08frames W h (by omega) σ
  have hi := fun σ => c_rintsS W.want hw (u := slT W.want) (v := .sl W.want.isEmpty false 1 (zv64 W.want)) (by
    cases W.want with
    | nil => exact ⟨true, 0, rfl, .inr ⟨rfl, rfl⟩⟩
    | cons x l => exact ⟨false, 1, rfl, .inl rfl⟩) ⟨_, _, rfl, .inl rfl⟩ σ
  have hpp := fun σ => c_rpsame W.p W.p hp hp hpl σ
  have hpe : eqPk W.p W.p = true := eqPk_self _
  rw [hpe] at hpp
  unfold pkv pkC at hpp
  obtain ⟨a, z, e1, _⟩ := slF_sl W.sent
  obtain ⟨b, y, e2, _⟩ := slT_sl W.want
  rw [e1] at hf
  rw [e2] at hi
  rw [e1, e2, hip]
  unfold outW outC
  rw [hip]
  have hse := strEq_self W.stop.user
  simp (maxSteps := 1000000) -implicitDefEqProofs only [go_sem]
  refine vgo_call rfl rfl rfl rfl (hf _) ?_
  simp (maxSteps := 1000000) -implicitDefEqProofs only [go_sem]
  refine vgo_call rfl rfl rfl rfl (hi _) ?_
  simp (maxSteps := 1000000) -implicitDefEqProofs only [go_sem]
  refine vgo_call rfl rfl rfl rfl (hpp _) ?_
  simp (maxSteps := 1000000) -implicitDefEqProofs only [go_sem, bne]
  refine ⟨rfl, rfl, ?_⟩
  have n00 : (((0 : Nat) : Int) == ((0 : Nat) : Int)) = true := rfl
  simp (maxSteps := 1000000) -implicitDefEqProofs only [go_sem, hse, n00]
  refine w_loopL (fun i => i = 0) (fun i => [(8, .int .i64 (i : Nat)), (2, .ip (outC (.sl a false z (frs W.sent)) (.sl b false y (zv64 W.want)) W.p W.stop ⟨true, false, 0, []⟩))]) (fun _ => σ) (fun i => i) 0 rfl ?_ rfl ?_
  · unfold outC
    simp (maxSteps := 1000000) -implicitDefEqProofs only [go_sem]
    repeat' apply And.intro
    all_goals rfl
  intro i hi L hnext hleave
  subst hi
  unfold outC
  simp (maxSteps := 1000000) -implicitDefEqProofs only [go_sem]
  refine hleave _ _ _ (fun h => by cases h) ?_
  simp (maxSteps := 1000000) -implicitDefEqProofs only [go_sem]
set_option maxHeartbeats 4000000 in
set_option maxRecDepth 20000 in
/-- What the program's link did, and what the document says that it does. -/
theorem c_r18is (W : WkV) (h : FrsOK W.sent) (hl : W.sent.length ≤ 1000) (hw : W.want.length ≤ 1000) (hp : PkOK W.p) (hpl : W.p.d.length ≤ lim) (hip : W.ip = ⟨true, false, 0, []⟩) (hk : LkOK (doneK W)) (hb : (doneK W).line.b.length ≤ lim) (hL : CmpN (doneK W).l) (hN : CmpN (doneK W).n) (σ : St) :
    VCalls Tryz.prog 35 [rnv (endK W), lkv (doneK W), outW W] σ fun r σ' => r = .bool true ∧ σ' = σ := by
  refine vcalls_intro (C := cfg Tryz.prog [] [] []) (cfg_ok mixed) Tryz.func35 rfl rfl rfl rfl rfl ?_
  have hsm := fun σ => c_r18same (doneK W) (doneK W) hk hk hb hL hN σ
  rw [sameK_self] at hsm
  have ho := fun σ => c_r18outs W h hl hw hp hpl hip σ
  have e : rnv (endK W) = .agg (lkC (doneK W) ++ outC (slF W.sent) (slT W.want) W.p W.stop W.ip) := rfl
  rw [e]
  clear e
  obtain ⟨a, z, e1, _⟩ := slF_sl W.sent
  obtain ⟨b, y, e2, _⟩ := slT_sl W.want
  rw [e1, e2] at ho
  rw [e1, e2]
  generalize doneK W = K at *
  unfold lkv lkC at hsm
  unfold outW outC at ho
  unfold outW lkC outC
  simp (maxSteps := 1000000) -implicitDefEqProofs only [go_sem, lkv, lkC, List.cons_append, List.nil_append]
  refine vgo_call rfl rfl rfl rfl (hsm _) ?_
  simp (maxSteps := 1000000) -implicitDefEqProofs only [go_sem]
  refine vgo_call rfl rfl rfl rfl (ho _) ?_
  simp (maxSteps := 1000000) -implicitDefEqProofs only [go_sem]

end Go.VL

/- LinkJudges' law. Conditions: none. -/
namespace Go.VL
open Go.Proofs

/-! Plain: what came out may be held against the document. -/
theorem frm_ok (proto : UInt16) {os : List PkV} (h : ∀ p ∈ os, p.d.length ≤ 1496) : FrsOK (os.map (frmOf proto)) := by
  intro f hf
  obtain ⟨p, hp, rfl⟩ := List.mem_map.1 hf
  have := h p hp
  refine ⟨rfl, ?_⟩
  show (pkB p).length ≤ lim
  unfold pkB lim
  simp only [List.length_append, List.length_cons, List.length_nil]
  omega
theorem frs_app {a b : List FrV} (ha : FrsOK a) (hb : FrsOK b) : FrsOK (a ++ b) := fun f hf => (List.mem_append.1 hf).elim (ha f) (hb f)
structure FineW (k : LinkV) (W : WkV) : Prop where
  f : FrsOK W.sent
  sl : W.sent.length ≤ 1000
  wl : W.want.length ≤ 1000
  p : W.p = zPk
  ip : W.ip = ⟨true, false, 0, []⟩
  line : W.k.line = k.line
  l : Good W.k.l
  n : Good W.k.n
  fl : PeerF W.k.l
  fn : PeerF W.k.n
theorem c_is {k : LinkV} {W : WkV} (h : FineW k W) (hz : k.line.sz = 1) (hb : k.line.b.length ≤ lim) (σ : St) : VCalls Tryz.prog 35 [rnv (endK W), lkv (doneK W), outW W] σ fun r σ' => r = .bool true ∧ σ' = σ :=
  c_r18is W h.f h.sl h.wl (by rw [h.p]; exact .inr ⟨rfl, rfl⟩) (by rw [h.p]; exact Nat.zero_le _) h.ip ⟨by show LnOK W.k.line; rw [h.line]; exact .inl hz, h.fl.ok, h.fn.ok⟩ (by show W.k.line.b.length ≤ lim; rw [h.line]; exact hb) (h.fl.cmp h.l) (h.fn.cmp h.n) σ
theorem fine_begin {k : LinkV} (h : KeepW k (beginW k) 0) : FineW k (beginW k) :=
  ⟨fun f hf => (by cases hf), Nat.zero_le _, Nat.zero_le _, rfl, rfl, rfl, h.l, h.n, h.fl, h.fn⟩
theorem fine_ask {k : LinkV} (h : KeepW k (beginW k) 0) (v : B16) : FineW k (askW k v) := by
  unfold askW
  cases phaseP k == 2
  · exact fine_begin h
  · exact ⟨frm_ok 49699 (os := [chalP (k.a.id + 1) v]) (fun p hp => by rw [List.mem_singleton.1 hp]; show 26 ≤ 1496; omega), by show 1 ≤ 1000; omega, Nat.zero_le _, rfl, rfl, rfl, h.l, h.n, h.fl, h.fn⟩
theorem fine_told {k : LinkV} (h : KeepW k (beginW k) 0) (who : ByteArray) (proof : B16) (good : Bool) : FineW k (toldW1 k who proof good) := by
  have hK := keep_told h who proof good
  cases ha : askedB k
  · have e : toldW1 k who proof good = beginW k := by unfold toldW1; rw [ha]; rfl
    rw [e]
    exact fine_begin h
  · have e : toldW1 k who proof good = closeW (endW1 (beginW k) who proof good) := by unfold toldW1; rw [ha]; rfl
    rw [e] at hK ⊢
    obtain ⟨_, c2, _, c4, c5⟩ := lcp_l (endW1 (beginW k) who proof good) (evN (endW1 (beginW k) who proof good).k.l 3) (doO (endW1 (beginW k) who proof good).k.l 3) (evT (endW1 (beginW k) who proof good).k.l 3)
    refine ⟨?_, by have := hK.sl; omega, by have := hK.wl; omega, c5, c4, hK.line, hK.l, hK.n, hK.fl, hK.fn⟩
    have hs : (closeW (endW1 (beginW k) who proof good)).sent = (endW1 (beginW k) who proof good).sent ++ (doO (endW1 (beginW k) who proof good).k.l 3).map (frmOf 49185) := c2
    rw [hs]
    refine frs_app ?_ (frm_ok 49185 fun p hp => (doO_ok (n := (endW1 (beginW k) who proof good).k.l) h.l 3 p hp).2)
    exact frm_ok 49699 (os := [endP k.a good]) fun p hp => by rw [List.mem_singleton.1 hp]; exact Nat.zero_le _
theorem fine_welcome {k : LinkV} (h : KeepW k (beginW k) 0) (who : ByteArray) (proof : B16) (id : Int) (addr : UInt32) : FineW k (welcomeW k who proof id addr) := by
  cases ha : askedB k
  · have e : welcomeW k who proof id addr = beginW k := by unfold welcomeW; rw [ha]; rfl
    rw [e]
    exact fine_begin h
  · rw [welcome_is ha]
    refine ⟨?_, by show 2 ≤ 1000; omega, Nat.zero_le _, rfl, rfl, rfl, h.l, up_good _, h.fl, .nil rfl rfl⟩
    show FrsOK ([endP k.a true].map (frmOf 49699) ++ [reqP (upN (gateR addr))].map (frmOf 32801))
    exact frs_app (frm_ok 49699 fun p hp => by rw [List.mem_singleton.1 hp]; exact Nat.zero_le _) (frm_ok 32801 fun p hp => by rw [List.mem_singleton.1 hp]; exact (up_pk _).2)

/-! What the law is asked of. -/
def jugC (k : LinkV) (v : B16) (who : ByteArray) (id : UInt16) (addr : UInt32) : List V := lkC k ++ (b16C v ++ [.str who, .int .u16 id.toNat, .int .u32 addr.toNat])
section
variable (k : LinkV) (v : B16) (who : ByteArray) (id : UInt16) (addr : UInt32)
theorem jug_len : (jugC k v who id addr).length = 88 := rfl
theorem jug_imm : (jugC k v who id addr).all imm1 = true := rfl
theorem jug_cell : (jugC k v who id addr).all cell1 = true := rfl
theorem jug_take : (jugC k v who id addr).take 69 = lkC k := rfl
theorem jug_v : ((jugC k v who id addr).drop 69) = b16C v ++ [.str who, .int .u16 id.toNat, .int .u32 addr.toNat] := rfl
theorem jug_w : ((jugC k v who id addr).drop 85) = [.str who, .int .u16 id.toNat, .int .u32 addr.toNat] := rfl
theorem jug_id : ((jugC k v who id addr).drop 86) = [.int .u16 id.toNat, .int .u32 addr.toNat] := rfl
theorem jug_addr : ((jugC k v who id addr).drop 87) = [.int .u32 addr.toNat] := rfl
end

set_option maxHeartbeats 32000000 in
set_option maxRecDepth 20000 in
theorem c_linkJudges (k : LinkV) (v : B16) (who : ByteArray) (id : UInt16) (addr : UInt32) (hz : k.line.sz = 1) (h1 : k.l.ps = 2) (h2 : k.n.ps = 2) (σ : St) :
    VCalls Tryz.prog 7 [.agg (jugC k v who id addr)] σ fun r σ' => r = .bool true ∧ σ' = σ := by
  refine vcalls_intro (C := cfg Tryz.prog [] [] []) (cfg_ok mixed) Tryz.func7 rfl rfl rfl rfl rfl ?_
  simp (maxSteps := 1000000) -implicitDefEqProofs only [go_sem, jug_len, jug_cell, jug_imm, jug_take, jug_v, jug_w, jug_id, jug_addr, lk_len, lk_take, lk_cell, lk_imm, set_lk, b16C]
  refine vgo_call rfl rfl rfl rfl (c_shown18 σ) ?_
  simp (maxSteps := 1000000) -implicitDefEqProofs only [go_sem, lk_len, lk_take, lk_cell, lk_imm, set_lk]
  refine vgo_call rfl rfl rfl rfl (c_r18small k h1 h2 σ) ?_
  cases hs : smallK k
  · simp (maxSteps := 1000000) -implicitDefEqProofs only [go_sem, lk_len, lk_take, lk_cell, lk_imm, set_lk]
  have hsN : smallN k.l = true ∧ smallN k.n = true := by
    unfold smallK at hs
    simp only [Bool.and_eq_true] at hs
    exact ⟨hs.1.1.1, hs.1.1.2⟩
  have hf1 : few k.l.ours = true := by have := hsN.1; unfold smallN at this; simp only [Bool.and_eq_true] at this; exact this.1
  have hf2 : few k.n.ours = true := by have := hsN.2; unfold smallN at this; simp only [Bool.and_eq_true] at this; exact this.1
  have hL := fun σ => c_rright14 k.l hf1 σ
  have hN := fun σ => c_rright14 k.n hf2 σ
  have hb : k.line.b.length ≤ lim := by
    unfold smallK at hs
    simp only [Bool.and_eq_true, decide_eq_true_eq] at hs
    unfold lim
    omega
  simp (maxSteps := 1000000) -implicitDefEqProofs only [go_sem, lk_len, lk_take, lk_cell, lk_imm, set_lk]
  refine vgo_call rfl rfl rfl rfl (c_r18right1 k hz hL hN σ) ?_
  cases hr : rightK k
  · simp (maxSteps := 1000000) -implicitDefEqProofs only [go_sem, lk_len, lk_take, lk_cell, lk_imm, set_lk]
  have hg := goodK_of hs hr
  simp (maxSteps := 1000000) -implicitDefEqProofs only [go_sem, lk_len, lk_take, lk_cell, lk_imm, set_lk]
  cases qw : decide ((50 : Int) < (who.size : Int))
  · have hfl := peerF_of hsN.1 h1
    have hfn := peerF_of hsN.2 h2
    have hK0 : KeepW k (beginW k) 0 := keep_begin hg hfl hfn []
    have hw := wrap_u16 id
    have hX1 := c_lask k v σ
    have hX2 := c_lrefuse k hg.l σ
    have hX3 := c_lfull k who v hg.l σ
    have hX4 := c_lwelcome k who v (id.toNat : Int) addr hg.l σ
    have hR1 := c_r18ask k v hg.l.st σ
    have hR2 := c_r18refuse k hg.l σ
    have hR3 := c_r18full k who v hg.l σ
    have hR4 := c_r18welcome k who v (id.toNat : Int) addr hg.l σ
    have hI1 := c_is (fine_ask hK0 v) hz hb σ
    have hI2 := c_is (fine_told hK0 noS z16 false) hz hb σ
    have hI3 := c_is (fine_told hK0 who v true) hz hb σ
    have hI4 := c_is (fine_welcome hK0 who v (id.toNat : Int) addr) hz hb σ
    generalize askW k v = W1 at hX1 hR1 hI1
    generalize toldW1 k noS z16 false = W2 at hX2 hR2 hI2
    generalize toldW1 k who v true = W3 at hX3 hR3 hI3
    generalize welcomeW k who v (id.toNat : Int) addr = W4 at hX4 hR4 hI4
    unfold rnv at hR1 hI1
    generalize rnC (endK W1) = V1 at hR1 hI1
    generalize doneK W1 = m1 at hX1 hI1
    unfold rnv at hR2 hI2
    generalize rnC (endK W2) = V2 at hR2 hI2
    generalize doneK W2 = m2 at hX2 hI2
    unfold rnv at hR3 hI3
    generalize rnC (endK W3) = V3 at hR3 hI3
    generalize doneK W3 = m3 at hX3 hI3
    unfold rnv at hR4 hI4
    generalize rnC (endK W4) = V4 at hR4 hI4
    generalize doneK W4 = m4 at hX4 hI4
    unfold lkv outW outC at hX1 hX2 hX3 hX4
    unfold lkv at hR1 hR2 hR3 hR4
    unfold lkv outW at hI1 hI2 hI3 hI4
    unfold b16C at hX1 hX3 hX4 hR1 hR3 hR4
    simp (maxSteps := 1000000) -implicitDefEqProofs only [go_sem, qw, lk_len, lk_take, lk_cell, lk_imm, set_lk]
    refine vgo_call rfl rfl rfl rfl hX1 ?_
    simp (maxSteps := 1000000) -implicitDefEqProofs only [go_sem, lkv, lk_len, lk_take, lk_cell, lk_imm, set_lk]
    refine vgo_call rfl rfl rfl rfl hX2 ?_
    simp (maxSteps := 1000000) -implicitDefEqProofs only [go_sem, lkv, lk_len, lk_take, lk_cell, lk_imm, set_lk]
    refine vgo_call rfl rfl rfl rfl hX3 ?_
    simp (maxSteps := 1000000) -implicitDefEqProofs only [go_sem, lkv, lk_len, lk_take, lk_cell, lk_imm, set_lk, hw]
    refine vgo_call rfl rfl rfl rfl hX4 ?_
    simp (maxSteps := 1000000) -implicitDefEqProofs only [go_sem, lkv, lk_len, lk_take, lk_cell, lk_imm, set_lk]
    refine w_walk2 [37] [0, 1, 2, 3, 4, 5, 6, 7, 8, 9, 10, 11, 12, 13, 14, 15, 16, 17, 18, 19, 20, 21, 22, 23, 24, 25, 26, 27, 28, 29, 30, 31, 32, 33, 34, 35, 36, 37] [70, 71, 72, 73, 74, 75, 76, 77, 78, 79, 80, 81, 82, 83, 84, 85, 86, 87, 88, 89, 90, 91, 92, 93, 94, 95, 96, 97, 98, 99, 100, 101, 102, 103, 104, 105, 106] [0, 1, 3, 3, 15, 3, 3, 127, 255, 511, 1023, 2047, 1023, 1023, 16383, 32767, 65535, 131071, 131071, 131071, 1048575, 131071, 131071, 8388607, 16777215, 33554431, 67108863, 67108863, 67108863, 67108863, 603979775, 67108863, 4294967295, 67108863, 67108863, 34359738367, 68719476735, 137438953471] rfl rfl rfl rfl ?_
    simp (maxSteps := 1000000) -implicitDefEqProofs only [go_sem, lk_len, lk_take, lk_cell, lk_imm, set_lk, hw]
    refine vdgo_call rfl rfl rfl rfl hR1 ?_
    simp (maxSteps := 1000000) -implicitDefEqProofs only [go_sem, lk_len, lk_take, lk_cell, lk_imm, set_lk, hw]
    refine vdgo_call rfl rfl rfl rfl hI1 ?_
    simp (maxSteps := 1000000) -implicitDefEqProofs only [go_sem, lk_len, lk_take, lk_cell, lk_imm, set_lk, hw]
    refine vdgo_call rfl rfl rfl rfl hR2 ?_
    simp (maxSteps := 1000000) -implicitDefEqProofs only [go_sem, lk_len, lk_take, lk_cell, lk_imm, set_lk, hw]
    refine vdgo_call rfl rfl rfl rfl hI2 ?_
    simp (maxSteps := 1000000) -implicitDefEqProofs only [go_sem, lk_len, lk_take, lk_cell, lk_imm, set_lk, hw]
    refine vdgo_call rfl rfl rfl rfl hR3 ?_
    simp (maxSteps := 1000000) -implicitDefEqProofs only [go_sem, lk_len, lk_take, lk_cell, lk_imm, set_lk, hw]
    refine vdgo_call rfl rfl rfl rfl hI3 ?_
    simp (maxSteps := 1000000) -implicitDefEqProofs only [go_sem, lk_len, lk_take, lk_cell, lk_imm, set_lk, hw]
    refine vdgo_call rfl rfl rfl rfl hR4 ?_
    simp (maxSteps := 1000000) -implicitDefEqProofs only [go_sem, lk_len, lk_take, lk_cell, lk_imm, set_lk, hw]
    refine vdgo_call rfl rfl rfl rfl hI4 ?_
    simp (maxSteps := 1000000) -implicitDefEqProofs only [go_sem, lk_len, lk_take, lk_cell, lk_imm, set_lk, hw]
  · simp (maxSteps := 1000000) -implicitDefEqProofs only [go_sem, qw, lk_len, lk_take, lk_cell, lk_imm, set_lk]

end Go.VL
