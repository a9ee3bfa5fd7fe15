/- Contracts of this program's functions over values, joined texts. Conditions: none. -/
import Derived.Test.YtonjofnphkghcaaGreatDoorSSd
set_option linter.unusedVariables false
set_option linter.unusedSimpArgs false
/- Contracts of this program's functions: what the document's protocols have acted; their events. Conditions: none. -/
namespace Go.VL
open Go.Proofs

def outT (n : NgV) (term reply : PkV) (x : Int) : List PkV :=
  if x = 7 then [reqP n] else if x = 10 then [⟨5, n.a.id, true, false, 0, []⟩] else if x = 11 then [term] else if x = 8 ∨ x = 9 ∨ x = 12 ∨ x = 13 then [reply] else []
def outsT (n : NgV) (term reply : PkV) (l : List Int) : List PkV := l.flatMap (outT n term reply)
theorem outsT_take (n : NgV) (term reply : PkV) {l : List Int} {i : Nat} (h : i < l.length) : outsT n term reply (l.take (i + 1)) = outsT n term reply (l.take i) ++ outT n term reply l[i] := by
  unfold outsT
  rw [List.take_succ_eq_append_getElem h, List.flatMap_append]
  simp
theorem outT_len (n : NgV) (term reply : PkV) (x : Int) : (outT n term reply x).length ≤ 1 := by
  unfold outT
  split
  · simp
  split
  · simp
  split
  · simp
  split <;> simp
theorem outsT_len (n : NgV) (term reply : PkV) (l : List Int) : ∀ i, i ≤ l.length → (outsT n term reply (l.take i)).length ≤ i
  | 0, _ => by simp [outsT]
  | i + 1, h => by
    rw [outsT_take n term reply h, List.length_append]
    have := outsT_len n term reply l i (by omega)
    have := outT_len n term reply l[i]
    omega
def roC (n : NgV) (s t l : V) : List V := [.int .i64 n.a.st, .int .i64 n.a.cnt, .int .i64 n.a.left, .int .u8 n.a.id.toNat, .bool n.r.ip, .int .u32 n.r.magic.toNat, .int .u32 n.r.other.toNat, .int .u32 n.r.addr.toNat, .int .u32 n.r.ours.toNat, .sl n.on n.oc 2 (osv n.ours), .int .i64 n.naks, .sl n.pn n.pc n.ps (osv n.peer), s, t, l]
def zeroRO : List V := [.int .i64 0, .int .i64 0, .int .i64 0, .int .u8 0, .bool false, .int .u32 0, .int .u32 0, .int .u32 0, .int .u32 0, .sl true false 0 [], .int .i64 0, .sl true false 0 [], .sl true false 0 [], .sl true false 0 [], .sl true false 0 []]
/-- What comes out, as the document says: the protocol, what is sent, what is told, what was done. -/
def roV (n : NgV) (s t l : V) : V := .agg (roC n s t l)
theorem rowL_some {l : List Int} (h : 0 < l.length) : rowL l = .sl false true 1 (zv64 l) := by
  cases l with
  | nil => simp at h
  | cons x l => rfl

set_option maxHeartbeats 8000000 in
set_option maxRecDepth 20000 in
theorem c_racted (n : NgV) (term reply : PkV) (was : Int) (l : List Int) (hl : l.length ≤ 20) (hE : encOK (actN n was l).ours = true) (hw : resetB was l = true → 1 ≤ was) (σ : St) :
    VCalls Tryz.prog 85 [ngv n, .int .i64 was, rowL l, pkv reply, pkv term] σ fun r σ' => r = roV (actN n was l) (outV (outsT (actN n was l) term reply l)) (telV (toldOf l)) (rowL l) ∧ σ' = σ := by
  refine vcalls_intro (C := cfg Tryz.prog [] [5] []) (cfg_ok mixed) Tryz.func85 rfl rfl rfl rfl rfl ?_
  have h5 := c_rhasL l 5 (by omega) σ
  have h7 := c_rhasL l 7 (by omega) σ
  have hrow : rowL l = .sl l.isEmpty (!l.isEmpty) (bif l.isEmpty then 0 else 1) (zv64 l) := rfl
  rw [hrow] at h5 h7
  have hrk := c_rask n.r σ
  unfold rv rvC at hrk
  have hq0 : actN n was l = actN n was l := rfl
  generalize hq : actN n was l = n1 at hE ⊢
  clear hq0
  rw [hrow]
  simp (maxSteps := 1000000) -implicitDefEqProofs only [go_sem, ngv, ngC, pkv, pkC]
  refine vgo_call rfl rfl rfl rfl h5 ?_
  simp (maxSteps := 1000000) -implicitDefEqProofs only [go_sem]
  refine vgo_call rfl rfl rfl rfl h7 ?_
  have adopt : ∀ {fr : Fr} {Q : Exit → Fr → St → Prop} {c : Code}, lk fr 13 = .cell (roC n1 (.sl true false 0 []) (.sl true false 0 []) (.sl l.isEmpty (!l.isEmpty) (bif l.isEmpty then 0 else 1) (zv64 l))) →
      vwp (cfg Tryz.prog [] [5] []) σ (.loop c) ((13, .cell (roC n1 (.rsl σ.length 0 0 0) (.rsl (σ.length + 1) 0 0 0) (.sl l.isEmpty (!l.isEmpty) (bif l.isEmpty then 0 else 1) (zv64 l)))) :: (13, .cell (roC n1 (.rsl σ.length 0 0 0) (.sl true false 0 []) (.sl l.isEmpty (!l.isEmpty) (bif l.isEmpty then 0 else 1) (zv64 l)))) :: fr) (σ ++ [rowO' [], rowT' []]) Q → vwp (cfg Tryz.prog [] [5] []) σ (.loop c) fr σ Q := by
    intro fr Q c hlk hgo
    refine loop_adoptF 13 12 3 σ.length hlk rfl rfl ?_
    refine loop_adoptF 13 13 1 (σ.length + 1) (cs := roC n1 (.rsl σ.length 0 0 0) (.sl true false 0 []) (.sl l.isEmpty (!l.isEmpty) (bif l.isEmpty then 0 else 1) (zv64 l))) rfl rfl (len_app1 _ _) ?_
    rw [List.append_assoc]
    exact hgo
  have cs : (resetB was l = false ∧ n1 = n) ∨ (resetB was l = true ∧ n1 = resetN n) := by
    unfold actN at hq
    cases h : resetB was l
    · rw [h] at hq; exact .inl ⟨rfl, hq.symm⟩
    · rw [h] at hq; exact .inr ⟨rfl, hq.symm⟩
  have cs2 : (decide ((5 : Int) ∈ l) && (decide ((7 : Int) ∈ l) && (decide (1 ≤ was) && decide (was ≤ 3)))) = resetB was l := by
    unfold resetB at hw ⊢
    cases a : decide ((5 : Int) ∈ l) <;> cases b : decide ((7 : Int) ∈ l) <;> cases c : decide (was ≤ 3) <;> simp only [Bool.and_false, Bool.false_and, Bool.and_true, Bool.true_and]
    rw [a, b, c] at hw
    have := hw rfl
    simpa using this
  have fin : ∀ {fr : Fr} {Q : Exit → Fr → St → Prop}, True := trivial
  have cs3 : (decide ((5 : Int) ∈ l) = true ∧ decide ((7 : Int) ∈ l) = true ∧ decide (1 ≤ was) = true ∧ decide (was ≤ 3) = true ∧ n1 = resetN n) ∨
      (n1 = n ∧ (decide ((5 : Int) ∈ l) = false ∨ (decide ((5 : Int) ∈ l) = true ∧ decide ((7 : Int) ∈ l) = false) ∨ (decide ((5 : Int) ∈ l) = true ∧ decide ((7 : Int) ∈ l) = true ∧ decide (1 ≤ was) = false) ∨ (decide ((5 : Int) ∈ l) = true ∧ decide ((7 : Int) ∈ l) = true ∧ decide (1 ≤ was) = true ∧ decide (was ≤ 3) = false))) := by
    rcases cs with ⟨h, e⟩ | ⟨h, e⟩
    · right
      refine ⟨e, ?_⟩
      rw [← cs2] at h
      cases a : decide ((5 : Int) ∈ l)
      · exact .inl rfl
      cases b : decide ((7 : Int) ∈ l)
      · exact .inr (.inl ⟨rfl, rfl⟩)
      cases c : decide (1 ≤ was)
      · exact .inr (.inr (.inl ⟨rfl, rfl, rfl⟩))
      cases d : decide (was ≤ 3)
      · exact .inr (.inr (.inr ⟨rfl, rfl, rfl, rfl⟩))
      · rw [a, b, c, d] at h; cases h
    · left
      rw [← cs2] at h
      simp only [Bool.and_eq_true] at h
      exact ⟨h.1, h.2.1, h.2.2.1, h.2.2.2, e⟩
  clear cs cs2 hq
  rcases cs3 with ⟨c1, c2, c3, c4, hn⟩ | ⟨hn, c1 | ⟨c1, c2⟩ | ⟨c1, c2, c3⟩ | ⟨c1, c2, c3, c4⟩⟩
  all_goals first
    | (simp (maxSteps := 1000000) -implicitDefEqProofs only [go_sem, c1, c2, c3, c4]
       try (refine vgo_call rfl rfl rfl rfl hrk ?_
            simp (maxSteps := 1000000) -implicitDefEqProofs only [go_sem])
       refine adopt (by rw [hn]; rfl) ?_)
    | (simp (maxSteps := 1000000) -implicitDefEqProofs only [go_sem, c1, c2, c3]
       refine adopt (by rw [hn]; rfl) ?_)
    | (simp (maxSteps := 1000000) -implicitDefEqProofs only [go_sem, c1, c2]
       refine adopt (by rw [hn]; rfl) ?_)
    | (simp (maxSteps := 1000000) -implicitDefEqProofs only [go_sem, c1]
       refine adopt (by rw [hn]; rfl) ?_)
  all_goals
    have hn5 : lk [(5, V.cell (ngC n1))] 5 = .cell (ngC n1) := rfl
    refine w_loopL (fun i => i ≤ l.length) (fun i => [(14, .int .i64 i), (13, .cell (roC n1 (.rsl σ.length (outsT n1 term reply (l.take i)).length 0 (outsT n1 term reply (l.take i)).length) (.rsl (σ.length + 1) (toldOf (l.take i)).length 0 (toldOf (l.take i)).length) (.sl l.isEmpty (!l.isEmpty) (bif l.isEmpty then 0 else 1) (zv64 l)))), (10, .cell zeroRO), (9, .ip (pkC term)), (8, .ip (pkC reply)), (5, .cell (ngC n1)), (2, .sl l.isEmpty (!l.isEmpty) (bif l.isEmpty then 0 else 1) (zv64 l))]) (fun i => σ ++ [rowO' (outsT n1 term reply (l.take i)), rowT' (toldOf (l.take i))]) (fun i => l.length - i) 0 (Nat.zero_le _) ?_ rfl ?_
    · simp (maxSteps := 1000000) -implicitDefEqProofs only [go_sem, hn]
      repeat' apply And.intro
      all_goals rfl
    intro i hi L hnext hleave
    have hol := outsT_len n1 term reply l i hi
    have htl := toldOf_len l i
    rcases Nat.lt_or_ge i l.length with h | h
    · have hw : IntKind.i64.wrap ((i : Int) + 1) = ((i + 1 : Nat) : Int) := wrap_ok (by omega) (by omega)
      have hot := outsT_take n1 term reply h
      have htt := toldOf_take h
      have hem : l.isEmpty = false := by cases l with
        | nil => simp at h
        | cons x l => rfl
      have hem' : (bif l.isEmpty then 0 else 1 : Nat) = 1 := by rw [hem]; rfl
      generalize outsT n1 term reply (l.take i) = os at hol hot
      generalize toldOf (l.take i) = ts at htl htt
      have hpl : (pkvs os).length = os.length := pkvs_length os
      have hzl : (zv64 ts).length = ts.length := zv_length ts
      have hby := fun σ => c_rbytes n1.on n1.oc n1.ours (enc_few hE).1 (enc_few hE).2 σ
      have henc : decide ((encL n1.ours).length ≤ 1496) = true := by unfold encOK at hE; simp only [Bool.and_eq_true] at hE; exact hE.2
      rw [henc] at hby
      simp only [cond_true] at hby
      simp (maxSteps := 1000000) -implicitDefEqProofs only [go_sem, h, zv_length, zv_getD h, roC, rowO_un, rowT_un, ngC, pkC, hem']
      by_cases e7 : l[i] = 7
      · have ho : outT n1 term reply l[i] = [reqP n1] := by unfold outT; rw [if_pos e7]
        have htn : (l[i] == 1 || l[i] == 2 || l[i] == 3 || l[i] == 4) = false := by rw [e7]; rfl
        rw [ho] at hot
        rw [htn, cond_false, List.append_nil] at htt
        simp (maxSteps := 1000000) -implicitDefEqProofs only [go_sem, e7]
        refine vgo_call rfl rfl rfl rfl (hby _) ?_
        simp (maxSteps := 1000000) -implicitDefEqProofs only [go_sem, hpl, hzl, Nat.zero_add, Nat.sub_zero]
        refine ⟨by unfold lim; omega, hnext (i + 1) _ _ (by show i + 1 ≤ l.length; omega) (by show l.length - (i + 1) < l.length - i; omega) ?_ ?_⟩
        · rw [hot, htt]
          simp (maxSteps := 1000000) -implicitDefEqProofs only [go_sem, hw, roC, ngC, pkC, List.length_append, List.length_cons, List.length_nil, Nat.zero_add, hem']
        · rw [hot, htt, rowO_snoc]
          first | rfl | (simp only [List.length_append, List.length_cons, List.length_nil, Nat.zero_add]; rfl)
      by_cases e10 : l[i] = 10
      · have ho : outT n1 term reply l[i] = [⟨5, n1.a.id, true, false, 0, []⟩] := by unfold outT; rw [if_neg e7, if_pos e10]
        have htn : (l[i] == 1 || l[i] == 2 || l[i] == 3 || l[i] == 4) = false := by rw [e10]; rfl
        rw [ho] at hot
        rw [htn, cond_false, List.append_nil] at htt
        simp (maxSteps := 1000000) -implicitDefEqProofs only [go_sem, e10, hpl, hzl, Nat.zero_add, Nat.sub_zero]
        refine ⟨by unfold lim; omega, hnext (i + 1) _ _ (by show i + 1 ≤ l.length; omega) (by show l.length - (i + 1) < l.length - i; omega) ?_ ?_⟩
        · rw [hot, htt]
          simp (maxSteps := 1000000) -implicitDefEqProofs only [go_sem, hw, roC, ngC, pkC, List.length_append, List.length_cons, List.length_nil, Nat.zero_add, hem']
        · rw [hot, htt, rowO_snoc]
          first | rfl | (simp only [List.length_append, List.length_cons, List.length_nil, Nat.zero_add]; rfl)
      by_cases e11 : l[i] = 11
      · have ho : outT n1 term reply l[i] = [term] := by unfold outT; rw [if_neg e7, if_neg e10, if_pos e11]
        have htn : (l[i] == 1 || l[i] == 2 || l[i] == 3 || l[i] == 4) = false := by rw [e11]; rfl
        rw [ho] at hot
        rw [htn, cond_false, List.append_nil] at htt
        simp (maxSteps := 1000000) -implicitDefEqProofs only [go_sem, e11, hpl, hzl, Nat.zero_add, Nat.sub_zero]
        refine ⟨by unfold lim; omega, hnext (i + 1) _ _ (by show i + 1 ≤ l.length; omega) (by show l.length - (i + 1) < l.length - i; omega) ?_ ?_⟩
        · rw [hot, htt]
          simp (maxSteps := 1000000) -implicitDefEqProofs only [go_sem, hw, roC, ngC, pkC, List.length_append, List.length_cons, List.length_nil, Nat.zero_add, hem']
        · rw [hot, htt, rowO_snoc]
          first | rfl | (simp only [List.length_append, List.length_cons, List.length_nil, Nat.zero_add]; rfl)
      by_cases e8 : l[i] = 8
      · have ho : outT n1 term reply l[i] = [reply] := by unfold outT; rw [if_neg e7, if_neg e10, if_neg e11, if_pos (.inl e8)]
        have htn : (l[i] == 1 || l[i] == 2 || l[i] == 3 || l[i] == 4) = false := by rw [e8]; rfl
        rw [ho] at hot
        rw [htn, cond_false, List.append_nil] at htt
        simp (maxSteps := 1000000) -implicitDefEqProofs only [go_sem, e8, hpl, hzl, Nat.zero_add, Nat.sub_zero]
        refine ⟨by unfold lim; omega, hnext (i + 1) _ _ (by show i + 1 ≤ l.length; omega) (by show l.length - (i + 1) < l.length - i; omega) ?_ ?_⟩
        · rw [hot, htt]
          simp (maxSteps := 1000000) -implicitDefEqProofs only [go_sem, hw, roC, ngC, pkC, List.length_append, List.length_cons, List.length_nil, Nat.zero_add, hem']
        · rw [hot, htt, rowO_snoc]
          first | rfl | (simp only [List.length_append, List.length_cons, List.length_nil, Nat.zero_add]; rfl)
      by_cases e9 : l[i] = 9
      · have ho : outT n1 term reply l[i] = [reply] := by unfold outT; rw [if_neg e7, if_neg e10, if_neg e11, if_pos (.inr (.inl e9))]
        have htn : (l[i] == 1 || l[i] == 2 || l[i] == 3 || l[i] == 4) = false := by rw [e9]; rfl
        rw [ho] at hot
        rw [htn, cond_false, List.append_nil] at htt
        simp (maxSteps := 1000000) -implicitDefEqProofs only [go_sem, e9, hpl, hzl, Nat.zero_add, Nat.sub_zero]
        refine ⟨by unfold lim; omega, hnext (i + 1) _ _ (by show i + 1 ≤ l.length; omega) (by show l.length - (i + 1) < l.length - i; omega) ?_ ?_⟩
        · rw [hot, htt]
          simp (maxSteps := 1000000) -implicitDefEqProofs only [go_sem, hw, roC, ngC, pkC, List.length_append, List.length_cons, List.length_nil, Nat.zero_add, hem']
        · rw [hot, htt, rowO_snoc]
          first | rfl | (simp only [List.length_append, List.length_cons, List.length_nil, Nat.zero_add]; rfl)
      by_cases e12 : l[i] = 12
      · have ho : outT n1 term reply l[i] = [reply] := by unfold outT; rw [if_neg e7, if_neg e10, if_neg e11, if_pos (.inr (.inr (.inl e12)))]
        have htn : (l[i] == 1 || l[i] == 2 || l[i] == 3 || l[i] == 4) = false := by rw [e12]; rfl
        rw [ho] at hot
        rw [htn, cond_false, List.append_nil] at htt
        simp (maxSteps := 1000000) -implicitDefEqProofs only [go_sem, e12, hpl, hzl, Nat.zero_add, Nat.sub_zero]
        refine ⟨by unfold lim; omega, hnext (i + 1) _ _ (by show i + 1 ≤ l.length; omega) (by show l.length - (i + 1) < l.length - i; omega) ?_ ?_⟩
        · rw [hot, htt]
          simp (maxSteps := 1000000) -implicitDefEqProofs only [go_sem, hw, roC, ngC, pkC, List.length_append, List.length_cons, List.length_nil, Nat.zero_add, hem']
        · rw [hot, htt, rowO_snoc]
          first | rfl | (simp only [List.length_append, List.length_cons, List.length_nil, Nat.zero_add]; rfl)
      by_cases e13 : l[i] = 13
      · have ho : outT n1 term reply l[i] = [reply] := by unfold outT; rw [if_neg e7, if_neg e10, if_neg e11, if_pos (.inr (.inr (.inr e13)))]
        have htn : (l[i] == 1 || l[i] == 2 || l[i] == 3 || l[i] == 4) = false := by rw [e13]; rfl
        rw [ho] at hot
        rw [htn, cond_false, List.append_nil] at htt
        simp (maxSteps := 1000000) -implicitDefEqProofs only [go_sem, e13, hpl, hzl, Nat.zero_add, Nat.sub_zero]
        refine ⟨by unfold lim; omega, hnext (i + 1) _ _ (by show i + 1 ≤ l.length; omega) (by show l.length - (i + 1) < l.length - i; omega) ?_ ?_⟩
        · rw [hot, htt]
          simp (maxSteps := 1000000) -implicitDefEqProofs only [go_sem, hw, roC, ngC, pkC, List.length_append, List.length_cons, List.length_nil, Nat.zero_add, hem']
        · rw [hot, htt, rowO_snoc]
          first | rfl | (simp only [List.length_append, List.length_cons, List.length_nil, Nat.zero_add]; rfl)
      by_cases e1 : l[i] = 1
      · have ho : outT n1 term reply l[i] = [] := by unfold outT; rw [if_neg e7, if_neg e10, if_neg e11, if_neg (by omega)]
        have htn : (l[i] == 1 || l[i] == 2 || l[i] == 3 || l[i] == 4) = true := by rw [e1]; rfl
        rw [ho, List.append_nil] at hot
        rw [htn, cond_true] at htt
        simp (maxSteps := 1000000) -implicitDefEqProofs only [go_sem, e1]
        refine w_walk2 [7, 9] [0, 1, 2, 3, 4, 5, 6, 7, 8, 9] [57, 58, 59, 60, 61, 62, 63, 65] [0, 1, 0, 0, 12, 28, 60, 127, 255, 511] rfl rfl rfl rfl ?_
        simp (maxSteps := 1000000) -implicitDefEqProofs only [go_sem, h, zv_length, zv_getD h, hem', e1, hpl, hzl, Nat.zero_add, Nat.sub_zero]
        refine ⟨by unfold lim; omega, hnext (i + 1) _ _ (by show i + 1 ≤ l.length; omega) (by show l.length - (i + 1) < l.length - i; omega) ?_ ?_⟩
        · rw [hot, htt]
          simp (maxSteps := 1000000) -implicitDefEqProofs only [go_sem, hw, roC, ngC, pkC, List.length_append, List.length_cons, List.length_nil, Nat.zero_add, hem']
        · rw [hot, htt, e1, rowT_snoc]
          first | rfl | (simp only [List.length_append, List.length_cons, List.length_nil, Nat.zero_add]; rfl)
      by_cases e2 : l[i] = 2
      · have ho : outT n1 term reply l[i] = [] := by unfold outT; rw [if_neg e7, if_neg e10, if_neg e11, if_neg (by omega)]
        have htn : (l[i] == 1 || l[i] == 2 || l[i] == 3 || l[i] == 4) = true := by rw [e2]; rfl
        rw [ho, List.append_nil] at hot
        rw [htn, cond_true] at htt
        simp (maxSteps := 1000000) -implicitDefEqProofs only [go_sem, e2]
        refine w_walk2 [7, 9] [0, 1, 2, 3, 4, 5, 6, 7, 8, 9] [57, 58, 59, 60, 61, 62, 63, 65] [0, 1, 0, 0, 12, 28, 60, 127, 255, 511] rfl rfl rfl rfl ?_
        simp (maxSteps := 1000000) -implicitDefEqProofs only [go_sem, h, zv_length, zv_getD h, hem', e2, hpl, hzl, Nat.zero_add, Nat.sub_zero]
        refine ⟨by unfold lim; omega, hnext (i + 1) _ _ (by show i + 1 ≤ l.length; omega) (by show l.length - (i + 1) < l.length - i; omega) ?_ ?_⟩
        · rw [hot, htt]
          simp (maxSteps := 1000000) -implicitDefEqProofs only [go_sem, hw, roC, ngC, pkC, List.length_append, List.length_cons, List.length_nil, Nat.zero_add, hem']
        · rw [hot, htt, e2, rowT_snoc]
          first | rfl | (simp only [List.length_append, List.length_cons, List.length_nil, Nat.zero_add]; rfl)
      by_cases e3 : l[i] = 3
      · have ho : outT n1 term reply l[i] = [] := by unfold outT; rw [if_neg e7, if_neg e10, if_neg e11, if_neg (by omega)]
        have htn : (l[i] == 1 || l[i] == 2 || l[i] == 3 || l[i] == 4) = true := by rw [e3]; rfl
        rw [ho, List.append_nil] at hot
        rw [htn, cond_true] at htt
        simp (maxSteps := 1000000) -implicitDefEqProofs only [go_sem, e3]
        refine w_walk2 [7, 9] [0, 1, 2, 3, 4, 5, 6, 7, 8, 9] [57, 58, 59, 60, 61, 62, 63, 65] [0, 1, 0, 0, 12, 28, 60, 127, 255, 511] rfl rfl rfl rfl ?_
        simp (maxSteps := 1000000) -implicitDefEqProofs only [go_sem, h, zv_length, zv_getD h, hem', e3, hpl, hzl, Nat.zero_add, Nat.sub_zero]
        refine ⟨by unfold lim; omega, hnext (i + 1) _ _ (by show i + 1 ≤ l.length; omega) (by show l.length - (i + 1) < l.length - i; omega) ?_ ?_⟩
        · rw [hot, htt]
          simp (maxSteps := 1000000) -implicitDefEqProofs only [go_sem, hw, roC, ngC, pkC, List.length_append, List.length_cons, List.length_nil, Nat.zero_add, hem']
        · rw [hot, htt, e3, rowT_snoc]
          first | rfl | (simp only [List.length_append, List.length_cons, List.length_nil, Nat.zero_add]; rfl)
      by_cases e4 : l[i] = 4
      · have ho : outT n1 term reply l[i] = [] := by unfold outT; rw [if_neg e7, if_neg e10, if_neg e11, if_neg (by omega)]
        have htn : (l[i] == 1 || l[i] == 2 || l[i] == 3 || l[i] == 4) = true := by rw [e4]; rfl
        rw [ho, List.append_nil] at hot
        rw [htn, cond_true] at htt
        simp (maxSteps := 1000000) -implicitDefEqProofs only [go_sem, e4]
        refine w_walk2 [7, 9] [0, 1, 2, 3, 4, 5, 6, 7, 8, 9] [57, 58, 59, 60, 61, 62, 63, 65] [0, 1, 0, 0, 12, 28, 60, 127, 255, 511] rfl rfl rfl rfl ?_
        simp (maxSteps := 1000000) -implicitDefEqProofs only [go_sem, h, zv_length, zv_getD h, hem', e4, hpl, hzl, Nat.zero_add, Nat.sub_zero]
        refine ⟨by unfold lim; omega, hnext (i + 1) _ _ (by show i + 1 ≤ l.length; omega) (by show l.length - (i + 1) < l.length - i; omega) ?_ ?_⟩
        · rw [hot, htt]
          simp (maxSteps := 1000000) -implicitDefEqProofs only [go_sem, hw, roC, ngC, pkC, List.length_append, List.length_cons, List.length_nil, Nat.zero_add, hem']
        · rw [hot, htt, e4, rowT_snoc]
          first | rfl | (simp only [List.length_append, List.length_cons, List.length_nil, Nat.zero_add]; rfl)
      have ho : outT n1 term reply l[i] = [] := by unfold outT; rw [if_neg e7, if_neg e10, if_neg e11, if_neg (by omega)]
      have htn : (l[i] == 1 || l[i] == 2 || l[i] == 3 || l[i] == 4) = false := by simp [e1, e2, e3, e4]
      rw [ho, List.append_nil] at hot
      rw [htn, cond_false, List.append_nil] at htt
      have b1 : (l[i] == 1) = false := by simp [e1]
      have b2 : (l[i] == 2) = false := by simp [e2]
      have b3 : (l[i] == 3) = false := by simp [e3]
      have b4 : (l[i] == 4) = false := by simp [e4]
      have b7 : (l[i] == 7) = false := by simp [e7]
      have b8 : (l[i] == 8) = false := by simp [e8]
      have b9 : (l[i] == 9) = false := by simp [e9]
      have b10 : (l[i] == 10) = false := by simp [e10]
      have b11 : (l[i] == 11) = false := by simp [e11]
      have b12 : (l[i] == 12) = false := by simp [e12]
      have b13 : (l[i] == 13) = false := by simp [e13]
      simp (maxSteps := 1000000) -implicitDefEqProofs only [go_sem, b1, b2, b3, b4, b7, b8, b9, b10, b11, b12, b13]
      refine hnext (i + 1) _ _ (by show i + 1 ≤ l.length; omega) (by show l.length - (i + 1) < l.length - i; omega) ?_ ?_
      · rw [hot, htt]
        simp (maxSteps := 1000000) -implicitDefEqProofs only [go_sem, hw, roC, ngC, pkC, hem']
      · rw [hot, htt]
        rfl
    · have hh : ¬ (i < l.length) := by omega
      simp (maxSteps := 1000000) -implicitDefEqProofs only [go_sem, hh, zv_length, roC, zeroRO]
      refine hleave _ _ _ (fun h => by cases h) ?_
      rw [List.take_of_length_le h]
      have hpt : (pkvs (outsT n1 term reply l)).take (outsT n1 term reply l).length = pkvs (outsT n1 term reply l) := List.take_of_length_le (Nat.le_of_eq (pkvs_length _))
      have hzt : (zv64 (toldOf l)).take (toldOf l).length = zv64 (toldOf l) := List.take_of_length_le (Nat.le_of_eq (zv_length _))
      have em1 : decide ((outsT n1 term reply l).length = 0) = (outsT n1 term reply l).isEmpty := by cases outsT n1 term reply l <;> simp
      have em2 : decide ((toldOf l).length = 0) = (toldOf l).isEmpty := by cases toldOf l <;> simp
      simp (maxSteps := 1000000) -implicitDefEqProofs only [go_sem, rowO_un, rowT_un, hpt, hzt, em1, em2, List.drop_zero]
      rfl

end Go.VL

/- Contracts of this program's functions: the document's events, Do, Tick, Magic, Turn, Is. Conditions: none. -/
namespace Go.VL
open Go.Proofs

theorem outsT_of (n : NgV) (pid : UInt8) (reply : PkV) (l : List Int) : outsT n ⟨6, pid, true, false, 0, []⟩ reply l = outsOf n pid reply l := rfl
def evLR (n : NgV) (e : Int) : V := bif doneB n e then rowL (doA n.a e).2.1 else nilV
def roR (x : RS × V) : V := roV x.1.1 x.1.2.1 x.1.2.2 x.2
set_option maxHeartbeats 4000000 in
set_option maxRecDepth 20000 in
theorem c_revent (n : NgV) (reply : PkV) (e : Int) (id : UInt8) (h : 0 ≤ n.a.cnt ∧ n.a.cnt ≤ 5) (hE : encOK n.ours = true) (σ : St) : VCalls Tryz.prog 83 [ngv n, .int .i64 e, pkv reply, .int .u8 id.toNat] σ fun r σ' => r = roR (evW n e id reply, evLR n e) ∧ σ' = σ := by
  refine vcalls_intro (C := cfg Tryz.prog [] [4] []) (cfg_ok mixed) Tryz.func83 rfl rfl rfl rfl rfl ?_
  have hE' := ev_enc hE e
  have hdo := c_rdo12 n.a h e σ
  unfold auv auC rowL at hdo
  simp -implicitDefEqProofs only [go_sem, ngv, ngC, pkv, pkC]
  refine vgo_call rfl rfl rfl rfl hdo ?_
  cases hd : doneB n e
  · rw [do_not hd]
    have hr : roR (evW n e id reply, evLR n e) = roV n nilV nilV nilV := by
      unfold roR evW evLR evN evOV evTV
      rw [hd]
      rfl
    rw [hr]
    simp -implicitDefEqProofs only [go_sem, bne]
    rfl
  · obtain ⟨d1, d2⟩ := do_done hd
    have hll : (doA n.a e).2.1.length ≤ 20 := by rw [d2]; have := next_len n.a.st e; omega
    have hN : evN n e = actN (withA n (doA n.a e).1) n.a.st (doA n.a e).2.1 := by unfold evN; rw [hd]; rfl
    rw [hN] at hE'
    have hac := fun σ => c_racted (withA n (doA n.a e).1) ⟨6, id, true, false, 0, []⟩ reply n.a.st (doA n.a e).2.1 hll hE' (fun h => reset_low h) σ
    have hr : roR (evW n e id reply, evLR n e) = roV (actN (withA n (doA n.a e).1) n.a.st (doA n.a e).2.1) (outV (outsT (actN (withA n (doA n.a e).1) n.a.st (doA n.a e).2.1) ⟨6, id, true, false, 0, []⟩ reply (doA n.a e).2.1)) (telV (toldOf (doA n.a e).2.1)) (rowL (doA n.a e).2.1) := by
      unfold roR evW evLR evOV evTV evO evT
      rw [hd, hN]
      rfl
    rw [hr]
    generalize doA n.a e = da at d1 d2 hll hac
    obtain ⟨a', l', er⟩ := da
    simp only at d1 hac
    subst d1
    generalize actN (withA n a') n.a.st l' = m at hac
    unfold rowL ngv ngC pkv pkC withA roV roC outV telV at hac
    simp -implicitDefEqProofs only [go_sem, bne]
    refine vgo_call rfl rfl rfl rfl (hac _) ?_
    simp -implicitDefEqProofs only [go_sem]
    rfl

theorem ev_resD (n : NgV) (e : Int) (pid : UInt8) (reply : PkV) : ∃ a s b t, rsV (evW n e pid reply) = .tup [.agg (ngC (evN n e)), .sl a false s (pkvs (evO n e pid reply)), .sl b false t (zv64 (evT n e))] ∧ IsSl (.sl a false s (pkvs (evO n e pid reply))) 3 (pkvs (evO n e pid reply)) ∧ IsSl (.sl b false t (zv64 (evT n e))) 1 (zv64 (evT n e)) := by
  obtain ⟨h1, h2⟩ := ev_sl n e pid reply
  obtain ⟨a, s, e1, hs⟩ := h1
  obtain ⟨b, t, e2, ht⟩ := h2
  refine ⟨a, s, b, t, ?_, ⟨a, s, rfl, hs⟩, ⟨b, t, rfl, ht⟩⟩
  unfold rsV
  rw [e1, e2]
  rfl
theorem c_rdo14 (n : NgV) (e : Int) (h : 0 ≤ n.a.cnt ∧ n.a.cnt ≤ 5) (hE : encOK n.ours = true) (σ : St) : VCalls Tryz.prog 31 [ngv n, .int .i64 e] σ fun r σ' => r = roR (doW n e, bif decide (0 ≤ e) && decide (e ≤ 3) then evLR n e else nilV) ∧ σ' = σ := by
  refine vcalls_intro (C := cfg Tryz.prog [] [] []) (cfg_ok mixed) Tryz.func31 rfl rfl rfl rfl rfl ?_
  have e1 : decide (e < 0) = !decide (0 ≤ e) := by rw [Bool.eq_iff_iff]; simp
  have e2 : decide ((3 : Int) < e) = !decide (e ≤ 3) := by rw [Bool.eq_iff_iff]; simp
  have hev := fun σ => c_revent n zPk e 0 h hE σ
  obtain ⟨a, s, b, t, hr, hu, hv⟩ := ev_resD n e 0 zPk
  have hro : ∃ x y z w, roR (evW n e 0 zPk, evLR n e) = .agg (roC (evN n e) (.sl a false s (pkvs (evO n e 0 zPk))) (.sl b false t (zv64 (evT n e))) (.sl x y z w)) := by
    have h1 : rsV (evW n e 0 zPk) = .tup [ngv (evN n e), (evW n e 0 zPk).2.1, (evW n e 0 zPk).2.2] := rfl
    rw [h1] at hr
    simp only [V.tup.injEq, List.cons.injEq, and_true] at hr
    unfold roR roV evLR
    cases doneB n e
    · exact ⟨true, false, 0, [], by rw [hr.2.1, hr.2.2]; rfl⟩
    · exact ⟨_, _, _, _, by rw [hr.2.1, hr.2.2]; rfl⟩
  obtain ⟨x, y, z, w, hro⟩ := hro
  have hev2 := hev
  rw [hro] at hev2
  unfold ngv ngC roC at hev2
  unfold doW
  simp -implicitDefEqProofs only [go_sem, ngv, ngC, e1]
  cases q1 : decide (0 ≤ e)
  · simp -implicitDefEqProofs only [go_sem, Bool.false_and, cond_false]
    rfl
  cases q2 : decide (e ≤ 3)
  · simp -implicitDefEqProofs only [go_sem, e2, q2, Bool.true_and, cond_false]
    rfl
  · simp -implicitDefEqProofs only [go_sem, e2, q2, Bool.true_and, cond_true]
    refine vgo_call rfl rfl rfl rfl (hev2 _) ?_
    simp -implicitDefEqProofs only [go_sem]
    exact hro.symm

theorem tick_len (a : AuV) : (tickA a).2.length ≤ 10 := by
  unfold tickA
  cases a.left == 0
  · cases decide (0 < a.left - 1)
    · exact do_len _ _
    · exact Nat.zero_le _
  · exact Nat.zero_le _
theorem outsT_no11 (n : NgV) (l : List Int) (h : (11 : Int) ∉ l) : outsT n zPk zPk l = outsOf n 0 zPk l := by
  unfold outsT outsOf
  induction l with
  | nil => rfl
  | cons x l ih =>
    rw [List.flatMap_cons, List.flatMap_cons, ih fun h' => h (List.mem_cons_of_mem _ h')]
    congr 1
    have hx : ¬ x = 11 := fun e => h (by rw [e]; exact List.mem_cons_self)
    unfold outT outOf
    split
    · rfl
    split
    · rfl
    first | rfl | rw [if_neg hx, if_neg hx]
set_option maxHeartbeats 4000000 in
set_option maxRecDepth 20000 in
theorem c_rtick14 {n : NgV} (hg : Good n) (σ : St) : VCalls Tryz.prog 32 [ngv n] σ fun r σ' => r = roR (tickW n, rowL (tickA n.a).2) ∧ σ' = σ := by
  refine vcalls_intro (C := cfg Tryz.prog [] [1] []) (cfg_ok mixed) Tryz.func32 rfl rfl rfl rfl rfl ?_
  have ht := c_rtick12 n.a hg.cnt hg.left.2 σ
  unfold auv auC rowL at ht
  have hen : encOK (actN (withA n (tickA n.a).1) n.a.st (tickA n.a).2).ours = true := (act_half hg.half _ _ _).e
  have hac := fun σ => c_racted (withA n (tickA n.a).1) zPk zPk n.a.st (tickA n.a).2 (by have := tick_len n.a; omega) hen (fun h => tick_reset h) σ
  rw [outsT_no11 _ _ (tick_11 hg.st)] at hac
  unfold tickW roR
  simp -implicitDefEqProofs only [go_sem, ngv, ngC]
  refine vgo_call rfl rfl rfl rfl ht ?_
  generalize tickA n.a = ta at hac
  obtain ⟨a', l'⟩ := ta
  simp only at hac ⊢
  generalize actN (withA n a') n.a.st l' = m at hac
  unfold rowL ngv ngC pkv pkC withA roV roC outV telV at hac
  simp -implicitDefEqProofs only [go_sem]
  refine vgo_call rfl rfl rfl rfl (hac _) ?_
  simp -implicitDefEqProofs only [go_sem]
  rfl

theorem c_rmagic14 (n : NgV) (hE : encOK n.ours = true) (σ : St) : VCalls Tryz.prog 90 [ngv n] σ fun r σ' => r = .int .u32 (magicN n).toNat ∧ σ' = σ := by
  refine vcalls_intro (C := cfg Tryz.prog [] [] []) (cfg_ok mixed) Tryz.func90 rfl rfl rfl rfl rfl ?_
  have hl : n.ours.length ≤ lim := by have := enc_len hE; unfold lim; omega
  simp -implicitDefEqProofs only [go_sem, ngv, ngC]
  refine vgo_call rfl rfl rfl (resO_val _) (c_rfind n.on n.oc n.ours 5 hl σ) ?_
  unfold magicN
  cases hf : findO n.ours 5 with
  | none =>
    cases hi : n.r.ip
    · simp -implicitDefEqProofs only [go_sem, resO, zeroO, hi, cond_false]
      rfl
    · simp -implicitDefEqProofs only [go_sem, resO, zeroO, hi, cond_true]
      rfl
  | some o =>
    cases hi : n.r.ip
    · simp -implicitDefEqProofs only [go_sem, resO, ov, hi, cond_false]
      refine vgo_call rfl rfl rfl rfl (c_rnumber' o.nl o.c o.d (enc_data hE o (findO_mem hf).1) σ) ?_
      simp -implicitDefEqProofs only [go_sem]
    · simp -implicitDefEqProofs only [go_sem, resO, ov, hi, cond_true]
      rfl

/-! Turn. -/
def dropT (a : List OV) (o : OV) : List OV := dropO a o.t
def turnF (nl c : Bool) (ours : List OV) (code : UInt8) (l : List OV) (put : Bool) : Bool × Bool :=
  bif code == 4 then (bif l.isEmpty then nl else (l.foldl dropT ours).isEmpty, bif l.isEmpty then c else false) else bif put then (false, false) else (nl, c)
def rturnV (r : RV) (nl c : Bool) (ours : List OV) (code : UInt8) (l : List OV) : V :=
  bif ((findO l 3).isSome && !r.ip) || (code != 3 && code != 4) then .tup [.sl nl c 2 (osv ours), .bool false]
  else bif code == 4 then .tup [.sl (bif l.isEmpty then nl else (l.foldl dropT ours).isEmpty) (bif l.isEmpty then c else false) 2 (osv (l.foldl dropT ours)), .bool true]
  else bif r.ip || (!(findO l 5).isSome || !(findO ours 5).isSome) then .tup [.sl nl c 2 (osv ours), .bool true]
  else .tup [.sl false false 2 (osv (putO ours (numO 5 4 r.other))), .bool true]
theorem drops_len (l : List OV) : ∀ a : List OV, (l.foldl dropT a).length ≤ a.length := by
  induction l with
  | nil => exact fun a => Nat.le_refl _
  | cons x l ih =>
    intro a
    rw [List.foldl_cons]
    exact Nat.le_trans (ih _) (List.length_filter_le _ _)
theorem drops_take {l : List OV} {i : Nat} (h : i < l.length) (a : List OV) : (l.take (i + 1)).foldl dropT a = dropO ((l.take i).foldl dropT a) l[i].t := by
  rw [List.take_succ_eq_append_getElem h, List.foldl_append]
  rfl
set_option maxHeartbeats 4000000 in
set_option maxRecDepth 20000 in
theorem c_rturn13 (r : RV) (nl c nl' c' : Bool) (ours l : List OV) (code : UInt8) (ho : ours.length < lim) (hl : l.length ≤ 100000) (σ : St) :
    VCalls Tryz.prog 155 [rv r, .sl nl c 2 (osv ours), .int .u8 code.toNat, .sl nl' c' 2 (osv l)] σ fun x σ' => x = rturnV r nl c ours code l ∧ σ' = σ := by
  refine vcalls_intro (C := cfg Tryz.prog [] [] []) (cfg_ok mixed) Tryz.func155 rfl rfl rfl rfl rfl ?_
  have hl' : l.length ≤ lim := by unfold lim; omega
  have t3 : ((code.toNat : Int) == 3) = (code == 3) := toNat_beq _ 3
  have t4 : ((code.toNat : Int) == 4) = (code == 4) := toNat_beq _ 4
  simp -implicitDefEqProofs only [go_sem, rv, rvC]
  refine vgo_call rfl rfl rfl (resO_val _) (c_rfind nl' c' l 3 hl' σ) ?_
  unfold rturnV
  have main : ∀ (K : Prop), K → K := fun _ h => h
  cases hs : (findO l 3).isSome && !r.ip
  case true =>
    simp only [Bool.and_eq_true, Bool.not_eq_true'] at hs
    obtain ⟨o, hf⟩ := Option.isSome_iff_exists.1 hs.1
    rw [hf]
    simp -implicitDefEqProofs only [go_sem, resO, ov, hs.2, Bool.true_or, cond_true]
  cases hc : code != 3 && code != 4
  case true =>
    simp only [Bool.and_eq_true, bne, Bool.not_eq_true'] at hc
    cases hf : findO l 3 with
    | none => simp -implicitDefEqProofs only [go_sem, resO, zeroO, bne, t3, t4, hc.1, hc.2, Bool.not_false, cond_true, Bool.false_or]
    | some o =>
      have hi : r.ip = true := by rw [hf] at hs; simpa using hs
      simp -implicitDefEqProofs only [go_sem, resO, ov, hi, bne, t3, t4, hc.1, hc.2, Bool.not_false, Bool.not_true, cond_true, Bool.false_or]
  have cs : code = 3 ∨ code = 4 := by
    simp only [bne, Bool.and_eq_false_imp, Bool.not_eq_true', Bool.not_eq_false'] at hc
    cases h3 : code == 3
    · exact .inr (by simpa using hc h3)
    · exact .inl (by simpa using h3)
  have hif : (findO l 3).isSome = true → r.ip = true := fun h => by rw [h] at hs; simpa using hs
  rcases cs with rfl | rfl
  · have u3 : (((3 : UInt8).toNat : Int) == 3) = true := rfl
    have u4 : (((3 : UInt8).toNat : Int) == 4) = false := rfl
    have v4 : ((3 : UInt8) == 4) = false := rfl
    have hg : ∀ (x : Option OV), (x.isSome = true → r.ip = true) → x = findO l 3 → True := fun _ _ _ => trivial
    have lo : ours.length ≤ lim := Nat.le_of_lt ho
    cases hf : findO l 3 with
    | none =>
      simp -implicitDefEqProofs only [go_sem, resO, zeroO, bne, u3, u4, v4, Bool.not_false, Bool.not_true, cond_false, Bool.false_or]
      refine vgo_call rfl rfl rfl (resO_val _) (c_rfind nl' c' l 5 hl' σ) ?_
      cases h5 : findO l 5 <;> simp -implicitDefEqProofs only [go_sem, resO, ov, zeroO]
      all_goals refine vgo_call rfl rfl rfl (resO_val _) (c_rfind nl c ours 5 lo σ) ?_
      all_goals cases ho5 : findO ours 5 <;> simp -implicitDefEqProofs only [go_sem, resO, ov, zeroO]
      all_goals cases hi : r.ip <;> simp -implicitDefEqProofs only [go_sem, Option.isSome_some, Option.isSome_none, Bool.not_false, Bool.not_true, Bool.or_true, Bool.or_false, Bool.true_or, Bool.false_or, cond_true, cond_false]
      all_goals
        refine vgo_call rfl rfl rfl rfl (c_rfour' r.other _) ?_
        simp -implicitDefEqProofs only [go_sem]
        refine vgo_call rfl rfl rfl rfl (c_rput nl c ours (numO 5 4 r.other) ho σ) ?_
        simp -implicitDefEqProofs only [go_sem]
    | some o =>
      have hi : r.ip = true := hif (by rw [hf]; rfl)
      simp -implicitDefEqProofs only [go_sem, resO, ov, hi, bne, u3, u4, v4, Bool.not_false, Bool.not_true, cond_false, Bool.false_or]
      refine vgo_call rfl rfl rfl (resO_val _) (c_rfind nl' c' l 5 hl' σ) ?_
      cases h5 : findO l 5 <;> simp -implicitDefEqProofs only [go_sem, resO, ov, zeroO]
      all_goals refine vgo_call rfl rfl rfl (resO_val _) (c_rfind nl c ours 5 lo σ) ?_
      all_goals cases ho5 : findO ours 5 <;> simp -implicitDefEqProofs only [go_sem, resO, ov, zeroO, hi, Option.isSome_some, Option.isSome_none, Bool.not_false, Bool.not_true, Bool.or_true, Bool.or_false, Bool.true_or, Bool.false_or, cond_true, cond_false]
  · have u3 : (((4 : UInt8).toNat : Int) == 3) = false := rfl
    have u4 : (((4 : UInt8).toNat : Int) == 4) = true := rfl
    have v4 : ((4 : UInt8) == 4) = true := rfl
    have start : ∀ {fr : Fr} {Q : Exit → Fr → St → Prop} {c0 : Code}, True := trivial
    cases hf : findO l 3
    all_goals first
      | (have hi : r.ip = true := hif (by rw [hf]; rfl)
         simp -implicitDefEqProofs only [go_sem, resO, ov, hi, bne, u3, u4, v4, Bool.not_false, Bool.not_true, cond_false, cond_true, Bool.false_or])
      | simp -implicitDefEqProofs only [go_sem, resO, zeroO, bne, u3, u4, v4, Bool.not_false, Bool.not_true, cond_false, cond_true, Bool.false_or]
    all_goals
      refine w_loopL (fun i => i ≤ l.length) (fun i => [(13, .int .i64 i), (12, .sl (bif Nat.beq i 0 then nl else ((l.take i).foldl dropT ours).isEmpty) (bif Nat.beq i 0 then c else false) 2 (osv ((l.take i).foldl dropT ours))), (9, .bool false), (8, .sl true false 0 []), (3, .sl nl' c' 2 (osv l))]) (fun _ => σ) (fun i => l.length - i) 0 (Nat.zero_le _) ?_ rfl ?_
      · simp -implicitDefEqProofs only [go_sem]
        exact ⟨rfl, rfl⟩
      intro i hi L hnext hleave
      rcases Nat.lt_or_ge i l.length with h | h
      · have hw1 : IntKind.i64.wrap ((i : Int) + 1) = ((i + 1 : Nat) : Int) := wrap_ok (by omega) (by omega)
        have hdl := Nat.lt_of_le_of_lt (drops_len (l.take i) ours) ho
        have hdt := drops_take h ours
        have hb : Nat.beq (i + 1) 0 = false := rfl
        simp -implicitDefEqProofs only [go_sem, h, osv_length, osv_getD h, ov]
        refine vgo_call rfl rfl rfl rfl (c_rdrop _ _ ((l.take i).foldl dropT ours) l[i].t hdl σ) ?_
        simp -implicitDefEqProofs only [go_sem, rowO]
        refine hnext (i + 1) _ _ h (by show l.length - (i + 1) < l.length - i; omega) ?_ rfl
        rw [hdt]
        simp -implicitDefEqProofs only [go_sem, hw1, hb, cond_false]
      · have hn : ¬ (i < l.length) := by omega
        have hil : i = l.length := by omega
        have hb : Nat.beq i 0 = l.isEmpty := by rw [hil]; cases l <;> rfl
        rw [hb]
        simp -implicitDefEqProofs only [go_sem, hn, osv_length]
        refine hleave _ _ _ (fun h => by cases h) ?_
        rw [List.take_of_length_le h]
        simp -implicitDefEqProofs only [go_sem]

end Go.VL
