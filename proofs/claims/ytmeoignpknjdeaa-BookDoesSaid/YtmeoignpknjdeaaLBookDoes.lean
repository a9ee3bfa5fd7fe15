/- BookDoes: at every book and every act the law answers true, and leaves its arguments as they were. Conditions: none. -/
import Derived.Test.YtmeoignpknjdeaaSSc
set_option linter.unusedVariables false
set_option linter.unusedSimpArgs false
/- Contracts of this program's functions: the document's answer for what is done. Conditions: none. -/
namespace Go.VL
open Go.Proofs

set_option maxRecDepth 20000 in
theorem c_with (b : BV) (x : IV) (hl : b.il.length < lim) (σ : St) : VCalls Try.prog 36 [bkv b, .agg (ivC x)] σ fun r σ' => r = bkv { b with il := b.il ++ [x], inl := false } ∧ σ' = σ := by
  refine vcalls_intro (C := cfg Try.prog [] [2] [11]) (cfg_ok mixed) Try.func36 rfl rfl rfl rfl rfl ?_
  simp -implicitDefEqProofs only [go_sem, bkv, bvC, ivC]
  refine w_walk2 [3, 6, 8] [0, 1, 2, 4, 5, 3, 6, 7, 8] [5, 6, 7, 9, 10, 12] [0, 0, 2, 7, 0, 16, 63, 127, 255] rfl rfl rfl rfl ?_
  simp -implicitDefEqProofs only [go_sem, bvC, ivs_length]
  refine ⟨by omega, by omega, hl, ?_⟩
  simp [ivs, iv, ivC]

def clR (b : BV) : Nat → BV
  | 0 => b
  | k + 1 => { b with il := b.il ++ (b.ol.take (k + 1)).map stopI, inl := false }
theorem clR_il (b : BV) : ∀ k, (clR b k).il = b.il ++ (b.ol.take k).map stopI
  | 0 => by simp [clR]
  | _ + 1 => rfl
theorem clR_step (b : BV) {k : Nat} (h : k < b.ol.length) : { clR b k with il := (clR b k).il ++ [stopI b.ol[k]], inl := false } = clR b (k + 1) := by
  have e : (clR b k).il ++ [stopI b.ol[k]] = b.il ++ (b.ol.take (k + 1)).map stopI := by
    rw [clR_il, List.take_succ_eq_append_getElem h, List.map_append, List.append_assoc]
    rfl
  rw [e]
  cases k <;> rfl

set_option maxRecDepth 20000 in
theorem c_rclose (b : BV) (hl : b.il.length + b.ol.length ≤ 60) (σ : St) : VCalls Try.prog 15 [bkv b] σ fun r σ' => r = bkv { clR b b.ol.length with ol := [], on := true } ∧ σ' = σ := by
  refine VCalls.res ?_
  refine vcalls_intro (C := cfg Try.prog [] [] []) (cfg_ok mixed) Try.func15 rfl rfl rfl rfl rfl ?_
  simp -implicitDefEqProofs only [go_sem, bkv, bvC]
  refine w_loop (fun i => i ≤ b.ol.length) (fun i => [(4, .int .i64 i), (3, .cell (bvC (clR b i))), (2, .cell [.int .i64 0, .sl true false 0 [], .sl true false 0 [], .sl true false 0 []]), (1, .ip (bvC b))]) (fun _ => σ) (fun i => b.ol.length - i) 0 (Nat.zero_le _) ?_ rfl ?_
  · simp -implicitDefEqProofs only [go_sem, bvC, clR]
    rfl
  intro i hi
  rcases Nat.lt_or_ge i b.ol.length with h | h
  · have hw : IntKind.i64.wrap ((i : Int) + 1) = ((i + 1 : Nat) : Int) := wrap_ok (by omega) (by omega)
    have hil : (clR b i).il.length < lim := by rw [clR_il]; unfold lim; simp; omega
    have hc := c_with (clR b i) (stopI b.ol[i]) hil σ
    rw [clR_step b h] at hc
    simp -implicitDefEqProofs only [go_sem, bvC, svs_length, h, svs_getD h]
    refine vgo_call rfl rfl rfl rfl hc ?_
    simp -implicitDefEqProofs only [go_sem, bkv, bvC]
    refine l_next (i + 1) h (by omega) ?_ rfl
    simp -implicitDefEqProofs only [go_sem, bvC, hw]
  · have hh : ¬ (i < b.ol.length) := by omega
    have hi' : i = b.ol.length := by omega
    subst hi'
    simp -implicitDefEqProofs only [go_sem, bvC, svs_length, hh]
    refine l_exit ?_
    simp -implicitDefEqProofs only [go_sem, bkv, bvC]
    exact .aggL ⟨.refl _, .nil _ _ _ _, .refl _, .refl _, trivial⟩

end Go.VL

/- Contracts of this program's functions: the document's answer for a session more. Conditions: none. -/
namespace Go.VL
open Go.Proofs

theorem openE_def {b : BV} {o : PV} (R : RightP b) : openE b o = bif !poolB o.addr then 1 else bif busyB b o then 6 else bif (decide ((60 : Int) < ((b.il.length + b.ol.length : Nat) : Int) + 2) || (b.next == 1000000000)) then 4 else 0 := by
  have := R.next1
  unfold openE
  have e1 : (!decide (b.il.length + b.ol.length + 2 ≤ 60)) = decide ((60 : Int) < ((b.il.length + b.ol.length : Nat) : Int) + 2) := by rw [Bool.eq_iff_iff]; simp; omega
  have e2 : decide (1000000000 ≤ b.next) = (b.next == 1000000000) := by rw [Bool.eq_iff_iff]; simp; omega
  rw [e1, e2]

set_option maxHeartbeats 4000000 in
set_option maxRecDepth 20000 in
theorem c_ropened (b : BV) (o : PV) (R : RightP b) (σ : St) : VCalls Try.prog 33 [bkv b, pv o] σ fun r σ' => r = applyV (if openE b o = 0 then (openP b o, 0) else (b, openE b o)) ∧ σ' = σ := by
  refine vcalls_intro (C := cfg Try.prog [] [] [77]) (cfg_ok mixed) Try.func33 rfl rfl rfl rfl rfl ?_
  have hlen := R.len
  have hn0 := R.next0
  have hn1 := R.next1
  have hE := openE_def (o := o) R
  simp -implicitDefEqProofs only [go_sem, bkv, bvC, pv, pvC]
  refine vgo_call rfl rfl rfl rfl (c_pool _ σ) ?_
  cases hp : poolB o.addr
  · rw [hp] at hE
    simp only [Bool.not_false, cond_true] at hE
    simp -implicitDefEqProofs only [go_sem, hE, applyV, bkv, bvC]
  rw [hp] at hE
  simp only [Bool.not_true, cond_false] at hE
  simp -implicitDefEqProofs only [go_sem]
  refine w_loop (fun i => i ≤ b.ol.length ∧ (b.ol.take i).any (fun s => s.link == o.link || s.addr == o.addr) = false) (fun i => [(7, .int .i64 i), (5, .int .i64 0), (4, .cell [.int .i64 0, .sl true false 0 [], .sl true false 0 [], .sl true false 0 []]), (3, .ip (pvC o)), (2, .ip (bvC b))]) (fun _ => σ) (fun i => b.ol.length - i) 0 ⟨Nat.zero_le _, rfl⟩ ?_ rfl ?_
  · simp -implicitDefEqProofs only [go_sem, bvC, pvC]
    rfl
  rintro i ⟨hi, hany⟩
  rcases Nat.lt_or_ge i b.ol.length with h | h
  · have hw : IntKind.i64.wrap ((i : Int) + 1) = ((i + 1 : Nat) : Int) := wrap_ok (by omega) (by omega)
    have hbusy : (b.ol[i].link == o.link || b.ol[i].addr == o.addr) = true → busyB b o = true := fun h' => List.any_eq_true.2 ⟨_, List.getElem_mem h, h'⟩
    have hnext : (b.ol[i].link == o.link || b.ol[i].addr == o.addr) = false → (b.ol.take (i + 1)).any (fun s => s.link == o.link || s.addr == o.addr) = false := fun h' => by
      rw [List.take_succ_eq_append_getElem h, List.any_append, hany]
      simpa using h'
    simp -implicitDefEqProofs only [go_sem, bvC, pvC, svs_length, h]
    refine w_walk2 [] [0, 1, 2, 3, 4, 5, 6, 7, 8, 9, 10, 11, 12, 13, 14, 15, 16, 17, 18, 19] [22, 23, 24, 25, 26, 27, 28, 29, 30, 31, 32, 33, 34, 35, 36, 37, 38, 39, 40, 41] [0, 1, 0, 7, 15, 31, 0, 64, 255, 511, 1023, 2047, 1023, 8191, 16383, 32767, 1023, 66559, 262143, 524287] rfl rfl rfl rfl ?_
    simp -implicitDefEqProofs only [go_sem, bvC, pvC, svs_length, h, svs_getD h]
    cases q1 : b.ol[i].link == o.link
    · simp -implicitDefEqProofs only [go_sem, q1, svs_length, h, svs_getD h]
      cases q2 : b.ol[i].addr == o.addr
      · simp -implicitDefEqProofs only [go_sem, q2]
        refine l_next (i + 1) ⟨h, hnext (by rw [q1, q2]; rfl)⟩ (by omega) ?_ rfl
        simp -implicitDefEqProofs only [go_sem, bvC, pvC, hw]
      · rw [hbusy (by rw [q1, q2]; rfl)] at hE
        simp only [cond_true] at hE
        simp -implicitDefEqProofs only [go_sem, q2]
        refine l_ret ?_
        simp -implicitDefEqProofs only [go_sem, hE, applyV, bkv, bvC]
    · rw [hbusy (by rw [q1]; rfl)] at hE
      simp only [cond_true] at hE
      simp -implicitDefEqProofs only [go_sem, q1]
      refine l_ret ?_
      simp -implicitDefEqProofs only [go_sem, hE, applyV, bkv, bvC]
  · have hh : ¬ (i < b.ol.length) := by omega
    rw [List.take_of_length_le h] at hany
    have hb : busyB b o = false := hany
    rw [hb] at hE
    simp only [cond_false] at hE
    have hw0 : IntKind.i64.wrap ((b.il.length : Int) + (b.ol.length : Int)) = ((b.il.length + b.ol.length : Nat) : Int) := by rw [IntKind.wrap_i64]; omega
    have hw1 : IntKind.i64.wrap (((b.il.length + b.ol.length : Nat) : Int) + 2) = ((b.il.length + b.ol.length : Nat) : Int) + 2 := by rw [IntKind.wrap_i64]; omega
    have hw2 : IntKind.i64.wrap (b.next + 1) = b.next + 1 := by rw [IntKind.wrap_i64]; omega
    simp -implicitDefEqProofs only [go_sem, bvC, pvC, svs_length, hh]
    refine l_exit ?_
    simp -implicitDefEqProofs only [go_sem, bvC, pvC, svs_length, ivs_length, hw0, hw1]
    have hil : b.il.length < lim := by unfold lim; omega
    have hcw := c_with b ⟨1, b.next, 0, 0, 0⟩ hil σ
    cases q1 : decide ((60 : Int) < ((b.il.length + b.ol.length : Nat) : Int) + 2)
    · rw [q1] at hE
      simp only [Bool.false_or] at hE
      simp -implicitDefEqProofs only [go_sem, q1]
      cases q2 : b.next == 1000000000
      · rw [q2] at hE
        simp only [cond_false] at hE
        simp -implicitDefEqProofs only [go_sem, q2]
        refine vgo_call rfl rfl rfl rfl hcw ?_
        simp -implicitDefEqProofs only [go_sem, bkv, bvC]
        refine w_walk2 [3, 14, 16] [0, 1, 2, 4, 5, 6, 7, 8, 9, 10, 11, 12, 13, 3, 14, 15, 16] [63, 64, 65, 67, 68, 69, 70, 71, 72, 73, 74, 75, 76, 78] [0, 0, 2, 7, 0, 16, 0, 64, 0, 256, 0, 1024, 4080, 8176, 16383, 32767, 65535] rfl rfl rfl rfl ?_
        simp (maxSteps := 1000000) -implicitDefEqProofs only [go_sem, bvC, pvC, svs_length, hE, hw2]
        refine ⟨by unfold lim; omega, by omega, by unfold lim; omega, ?_⟩
        simp [applyV, openP, bkv, bvC, svs, sv, svC, newS]
      · rw [q2] at hE
        simp only [cond_true] at hE
        simp -implicitDefEqProofs only [go_sem, q2, hE, applyV, bkv, bvC]
    · rw [q1] at hE
      simp only [Bool.true_or, cond_true] at hE
      simp -implicitDefEqProofs only [go_sem, q1, hE, applyV, bkv, bvC]

end Go.VL

/- Contracts of this program's functions: the document's answer for an interim, or a stop. Conditions: none. -/
namespace Go.VL
open Go.Proofs

def intB (b : BV) (o : PV) : BV := { b with ol := interimRow b o, on := false, il := b.il ++ [⟨2, o.id, o.inn, o.out, 0⟩], inl := false }
def stoB (b : BV) (o : PV) : BV := { b with ol := closeRow b o, on := false, il := b.il ++ [⟨3, o.id, o.inn, o.out, o.cause⟩], inl := false }

set_option maxHeartbeats 4000000 in
set_option maxRecDepth 20000 in
theorem c_rcounted (b : BV) (o : PV) (R : RightP b) (hk : o.kind = 2 ∨ o.kind = 3) (σ : St) : VCalls Try.prog 34 [bkv b, pv o] σ fun r σ' => r = applyV (if o.kind = 3 then (if closeE b o = 0 then (stoB b o, 0) else (b, closeE b o)) else (if interimE b o = 0 then (intB b o, 0) else (b, interimE b o))) ∧ σ' = σ := by
  refine vcalls_intro (C := cfg Try.prog [] [] [63]) (cfg_ok mixed) Try.func34 rfl rfl rfl rfl rfl ?_
  have hlen := R.len
  have hoL : b.ol.length ≤ lim := by unfold lim; omega
  have hil : b.il.length < lim := by unfold lim; omega
  simp -implicitDefEqProofs only [go_sem, bkv, bvC, pv, pvC]
  refine vgo_call rfl rfl rfl rfl (c_rof b o.id hoL σ) ?_
  rcases idxL_cases (idS o.id) b.ol with hn | ⟨i, hi, g2, g3⟩
  · have hat : atP b o = (0, 5) := by unfold atP; rw [find_none hn]
    have h1 : closeE b o = 5 := by unfold closeE; rw [hat]
    have h2 : interimE b o = 5 := by unfold interimE; rw [hat]; rfl
    have hr : (if o.kind = 3 then (if closeE b o = 0 then (stoB b o, 0) else (b, closeE b o)) else (if interimE b o = 0 then (intB b o, 0) else (b, interimE b o))) = (b, 5) := by
      rw [h1, h2]
      split <;> rfl
    have e1 : decide ((-1 : Int) < 0) = true := rfl
    rw [hr, idxL_none hn]
    simp -implicitDefEqProofs only [go_sem, e1, applyV, bkv, bvC]
  have hat : atP b o = bif decide (b.ol[i].inn ≤ o.inn) && decide (b.ol[i].out ≤ o.out) then ((i : Int), 0) else (0, 7) := by
    unfold atP
    rw [find_at hi g2 g3, idxL_at hi g2 g3]
  have n1 : ∀ a b : Int, decide (a < b) = !decide (b ≤ a) := fun a b => by rw [Bool.eq_iff_iff]; simp
  have e1 : decide ((i : Int) < 0) = false := by simp
  rw [idxL_at hi g2 g3]
  have hI : atI b o = i := by unfold atI; rw [idxL_at hi g2 g3]; rfl
  have bad : (decide (b.ol[i].inn ≤ o.inn) && decide (b.ol[i].out ≤ o.out)) = false → (if o.kind = 3 then (if closeE b o = 0 then (stoB b o, 0) else (b, closeE b o)) else (if interimE b o = 0 then (intB b o, 0) else (b, interimE b o))) = (b, 7) := fun hf => by
    rw [hf] at hat
    simp only [cond_false] at hat
    have h1 : closeE b o = 7 := by unfold closeE; rw [hat]
    have h2 : interimE b o = 7 := by unfold interimE; rw [hat]; rfl
    rw [h1, h2]
    split <;> rfl
  simp -implicitDefEqProofs only [go_sem, e1]
  refine w_walk2 [] [0, 1, 2, 3, 4, 5, 6, 7, 8, 9, 10, 11, 12, 13, 14, 15, 16, 17, 18, 19] [17, 18, 19, 20, 21, 22, 23, 24, 25, 26, 27, 28, 29, 30, 31, 32, 33, 34, 35, 36] [0, 1, 0, 7, 15, 31, 0, 64, 255, 511, 1023, 2047, 1023, 8191, 16383, 32767, 1023, 66559, 262143, 524287] rfl rfl rfl rfl ?_
  simp -implicitDefEqProofs only [go_sem, bvC, pvC, svs_length, hi, svs_getD hi, n1]
  cases a1 : decide (b.ol[i].inn ≤ o.inn)
  · rw [bad (by rw [a1]; rfl)]
    simp -implicitDefEqProofs only [go_sem, a1, applyV, bkv, bvC]
  simp -implicitDefEqProofs only [go_sem, a1, svs_length, hi, svs_getD hi, n1]
  cases a2 : decide (b.ol[i].out ≤ o.out)
  · rw [bad (by rw [a1, a2]; rfl)]
    simp -implicitDefEqProofs only [go_sem, a2, applyV, bkv, bvC]
  rw [a1, a2] at hat
  simp only [Bool.and_self, cond_true] at hat
  have hc0 : closeE b o = 0 := by unfold closeE; rw [hat]
  have hcr : closeRow b o = b.ol.eraseIdx i := by unfold closeRow; rw [hI]
  simp -implicitDefEqProofs only [go_sem, a2]
  rcases hk with hk | hk
  · have e3 : (o.kind == 3) = false := by rw [hk]; rfl
    rw [if_neg (show ¬ o.kind = 3 by omega)]
    have hiE : interimE b o = bif decide ((60 : Int) < ((b.il.length + b.ol.length : Nat) : Int) + 1) then 4 else 0 := by
      unfold interimE
      rw [hat]
      have : (!decide (b.il.length + b.ol.length + 1 ≤ 60)) = decide ((60 : Int) < ((b.il.length + b.ol.length : Nat) : Int) + 1) := by rw [Bool.eq_iff_iff]; simp; omega
      rw [this]
      rfl
    have hrow : interimRow b o = b.ol.set i (setS b.ol[i] o) := by
      unfold interimRow
      rw [hI]
      simp [hi]
    have hw0 : IntKind.i64.wrap ((b.il.length : Int) + (b.ol.length : Int)) = ((b.il.length + b.ol.length : Nat) : Int) := by rw [IntKind.wrap_i64]; omega
    have hw1 : IntKind.i64.wrap (((b.il.length + b.ol.length : Nat) : Int) + 1) = ((b.il.length + b.ol.length : Nat) : Int) + 1 := by rw [IntKind.wrap_i64]; omega
    simp -implicitDefEqProofs only [go_sem, e3, bvC, pvC, svs_length, ivs_length, hw0, hw1]
    cases q1 : decide ((60 : Int) < ((b.il.length + b.ol.length : Nat) : Int) + 1)
    · rw [q1] at hiE
      simp only [cond_false] at hiE
      simp -implicitDefEqProofs only [go_sem, q1]
      refine vgo_call rfl rfl rfl rfl (c_with b ⟨2, o.id, o.inn, o.out, 0⟩ hil σ) ?_
      simp (maxSteps := 1000000) -implicitDefEqProofs only [go_sem, bkv, bvC, svs_length, hi, Nat.sub_zero, Nat.zero_add, svs_getD hi]
      refine ⟨hoL, ?_⟩
      have ht : List.take b.ol.length ((svs b.ol).set i (V.agg [V.int IntKind.i64 b.ol[i].id, V.int IntKind.i64 b.ol[i].link, V.int IntKind.u32 b.ol[i].addr, V.str b.ol[i].user, V.int IntKind.u64 o.inn, V.int IntKind.u64 o.out])) = svs (interimRow b o) := by
        rw [List.take_of_length_le (by simp [svs]), hrow]
        simp [svs, List.map_set, sv, svC, setS]
      rw [ht, hiE, if_pos rfl]
      rfl
    · rw [q1] at hiE
      simp only [cond_true] at hiE
      simp -implicitDefEqProofs only [go_sem, q1, hiE, applyV, bkv, bvC]
  · have e3 : (o.kind == 3) = true := by rw [hk]; rfl
    rw [if_pos hk, if_pos hc0]
    have hw : IntKind.i64.wrap ((i : Int) + 1) = ((i + 1 : Nat) : Int) := wrap_ok (by omega) (by omega)
    simp -implicitDefEqProofs only [go_sem, e3]
    refine vgo_call rfl rfl rfl rfl (c_with b ⟨3, o.id, o.inn, o.out, o.cause⟩ hil σ) ?_
    simp -implicitDefEqProofs only [go_sem, bkv, bvC]
    refine w_walk2 [5, 11, 13] [0, 1, 2, 3, 4, 6, 7, 8, 9, 10, 5, 11, 12, 13] [52, 53, 54, 55, 56, 58, 59, 60, 61, 62, 64] [0, 0, 2, 0, 14, 31, 0, 64, 0, 256, 960, 2047, 4095, 8191] rfl rfl rfl rfl ?_
    simp (maxSteps := 1000000) -implicitDefEqProofs only [go_sem, bvC, pvC, svs_length, hi, hw]
    have ht : List.take i (svs b.ol) ++ List.drop (i + 1) (List.take b.ol.length (svs b.ol)) = svs (closeRow b o) := by
      rw [List.take_of_length_le (by simp [svs] : (svs b.ol).length ≤ b.ol.length), hcr, List.eraseIdx_eq_take_drop_succ]
      simp [svs]
    have hln : (List.take i (svs b.ol)).length = i := by simp [svs]; omega
    have hld : (List.drop (i + 1) (List.take b.ol.length (svs b.ol))).length = b.ol.length - (i + 1) := by simp [svs]
    rw [ht, hln, hld]
    unfold lim
    exact ⟨by omega, by omega, by omega, by omega, .inr ⟨by omega, by omega⟩, by omega, by omega, rfl⟩

end Go.VL

/- Contracts of this program's functions: the document's answer for failures. Conditions: none. -/
namespace Go.VL
open Go.Proofs

def faiB (b : BV) (o : PV) : BV := { b with ll := if (b.ll.find? (usL o.user)).isSome then failRow b o else b.ll ++ [⟨o.user, 1, o.t⟩], ln := false }
def pasB (b : BV) (o : PV) : BV := { b with ll := passRow b o, ln := false }

set_option maxHeartbeats 4000000 in
set_option maxRecDepth 20000 in
theorem c_rfails (b : BV) (o : PV) (R : RightP b) (hk : o.kind = 4 ∨ o.kind = 5) (σ : St) : VCalls Try.prog 35 [bkv b, pv o] σ fun r σ' => r = applyV (if o.kind = 5 then (if passE b o = 0 then (pasB b o, 0) else (b, passE b o)) else (if failE b o = 0 then (faiB b o, 0) else (b, failE b o))) ∧ σ' = σ := by
  refine vcalls_intro (C := cfg Try.prog [] [] [35, 53]) (cfg_ok mixed) Try.func35 rfl rfl rfl rfl rfl ?_
  have hlk := R.lks
  have hlL : b.ll.length ≤ lim := by unfold lim; omega
  simp -implicitDefEqProofs only [go_sem, bkv, bvC, pv, pvC]
  refine vgo_call rfl rfl rfl rfl (c_rfailed b o.user hlL σ) ?_
  simp -implicitDefEqProofs only [go_sem, lvs_length]
  refine ⟨by unfold lim; omega, ?_⟩
  rcases idxL_cases (usL o.user) b.ll with hn | ⟨i, hi, g2, g3⟩
  · have hI : lkI b o = -1 := by unfold lkI; rw [idxL_none hn]
    have hp : passE b o = 5 := by unfold passE; rw [hI]; rfl
    have hf : failE b o = bif decide (8 ≤ b.ll.length) then 4 else 0 := by unfold failE; rw [find_none hn]
    have hfb : faiB b o = { b with ll := b.ll ++ [⟨o.user, 1, o.t⟩], ln := false } := by unfold faiB; rw [find_none hn]; rfl
    have e1 : decide ((-1 : Int) < 0) = true := rfl
    rw [idxL_none hn]
    rcases hk with hk | hk
    · have e3 : (o.kind == 5) = false := by rw [hk]; rfl
      have e8 : ((b.ll.length : Int) == 8) = decide (8 ≤ b.ll.length) := by rw [Bool.eq_iff_iff]; simp; omega
      rw [if_neg (show ¬ o.kind = 5 by omega)]
      simp -implicitDefEqProofs only [go_sem, e3, e1, lvs_length, e8]
      cases q1 : decide (8 ≤ b.ll.length)
      · rw [q1] at hf
        simp only [cond_false] at hf
        simp -implicitDefEqProofs only [go_sem, q1, hf, lvs_length]
        refine ⟨by omega, by unfold lim; omega, ?_⟩
        rw [hfb]
        simp [applyV, bkv, bvC, lvs, lv, lvC]
      · rw [q1] at hf
        simp only [cond_true] at hf
        simp -implicitDefEqProofs only [go_sem, q1, hf, applyV, bkv, bvC]
    · have e3 : (o.kind == 5) = true := by rw [hk]; rfl
      rw [if_pos hk, hp]
      simp -implicitDefEqProofs only [go_sem, e3, e1, applyV, bkv, bvC]
  · have hI : lkI b o = i := by unfold lkI; rw [idxL_at hi g2 g3]
    have e1 : decide ((i : Int) < 0) = false := by simp
    rw [idxL_at hi g2 g3]
    rcases hk with hk | hk
    · have e3 : (o.kind == 5) = false := by rw [hk]; rfl
      have hf : failE b o = bif decide (b.ll[i].t ≤ o.t) then 0 else 7 := by unfold failE; rw [find_at hi g2 g3]
      have hN : 1 ≤ b.ll[i].n ∧ b.ll[i].n ≤ 255 := by have := R.lkk _ (List.getElem_mem hi); exact ⟨this.2.1, this.2.2.1⟩
      have hw1 : IntKind.i64.wrap (b.ll[i].n + 1) = b.ll[i].n + 1 := by rw [IntKind.wrap_i64]; omega
      have n1 : ∀ a b : Int, decide (a < b) = !decide (b ≤ a) := fun a b => by rw [Bool.eq_iff_iff]; simp
      rw [if_neg (show ¬ o.kind = 5 by omega)]
      simp -implicitDefEqProofs only [go_sem, e3, e1]
      refine w_walk2 [] [0, 1, 2, 3, 4, 5, 6, 7, 8] [56, 57, 58, 59, 60, 61, 62, 63, 64] [0, 1, 0, 7, 15, 31, 0, 64, 255] rfl rfl rfl rfl ?_
      simp -implicitDefEqProofs only [go_sem, bvC, pvC, lvs_length, hi, lvs_getD hi, n1]
      cases q1 : decide (b.ll[i].t ≤ o.t)
      · rw [q1] at hf
        simp only [cond_false] at hf
        simp -implicitDefEqProofs only [go_sem, q1, hf, applyV, bkv, bvC]
      · rw [q1] at hf
        simp only [cond_true] at hf
        simp -implicitDefEqProofs only [go_sem, q1, hf]
        refine w_walk2 [17] [0, 1, 2, 3, 4, 5, 6, 7, 8, 9, 10, 11, 12, 13, 14, 15, 16, 17] [66, 67, 68, 69, 70, 71, 72, 73, 74, 75, 76, 77, 78, 79, 80, 81, 82] [0, 1, 0, 0, 8, 0, 32, 0, 224, 480, 992, 2016, 4064, 0, 8192, 32760, 65535, 131071] rfl rfl rfl rfl ?_
        simp (maxSteps := 1000000) -implicitDefEqProofs only [go_sem, bvC, pvC, lvs_length, hi, Nat.sub_zero, Nat.zero_add, lvs_getD hi, hw1]
        have hu : b.ll[i].user = o.user := usL_iff.1 g3
        have hfb : faiB b o = { b with ll := b.ll.set i (failL b.ll[i] o), ln := false } := by
          unfold faiB
          rw [find_at hi g2 g3]
          show ({ b with ll := failRow b o, ln := false } : BV) = _
          have : failRow b o = b.ll.set i (failL b.ll[i] o) := by
            unfold failRow
            rw [hI]
            simp [hi]
          rw [this]
        have hmin : (if b.ll[i].n + 1 < 255 then b.ll[i].n + 1 else 255) = (if 255 < b.ll[i].n + 1 then 255 else b.ll[i].n + 1) := by split <;> split <;> omega
        have ht : List.take b.ll.length ((lvs b.ll).set i (V.agg [V.str o.user, V.int IntKind.i64 (if b.ll[i].n + 1 < 255 then b.ll[i].n + 1 else 255), V.int IntKind.i64 o.t])) = lvs (b.ll.set i (failL b.ll[i] o)) := by
          rw [List.take_of_length_le (by simp [lvs]), hmin]
          simp [lvs, List.map_set, lv, lvC, failL, hu]
        rw [ht, hfb]
        rfl
    · have e3 : (o.kind == 5) = true := by rw [hk]; rfl
      have hp : passE b o = 0 := by unfold passE; rw [hI, e1]; rfl
      have hw : IntKind.i64.wrap ((i : Int) + 1) = ((i + 1 : Nat) : Int) := wrap_ok (by omega) (by omega)
      rw [if_pos hk, hp]
      simp -implicitDefEqProofs only [go_sem, e3, e1]
      refine w_walk2 [5, 11, 13] [0, 1, 2, 3, 4, 6, 7, 8, 9, 10, 5, 11, 12, 13] [24, 25, 26, 27, 28, 30, 31, 32, 33, 34, 36] [0, 0, 2, 0, 14, 31, 0, 64, 0, 256, 960, 2047, 4095, 8191] rfl rfl rfl rfl ?_
      simp -implicitDefEqProofs only [go_sem, bvC, pvC, lvs_length, hi, hw]
      simp -implicitDefEqProofs only [go_sem, List.append_assoc, List.append_eq]
      have hcr : passRow b o = b.ll.eraseIdx i := by unfold passRow; rw [hI]; rfl
      have ht : List.take i (lvs b.ll) ++ List.drop (i + 1) (List.take b.ll.length (lvs b.ll)) = lvs (passRow b o) := by
        rw [List.take_of_length_le (by simp [lvs] : (lvs b.ll).length ≤ b.ll.length), hcr, List.eraseIdx_eq_take_drop_succ]
        simp [lvs]
      have hln : (List.take i (lvs b.ll)).length = i := by simp [lvs]; omega
      have hld : (List.drop (i + 1) (List.take b.ll.length (lvs b.ll))).length = b.ll.length - (i + 1) := by simp [lvs]
      rw [ht, hln, hld]
      unfold lim
      exact ⟨by omega, by omega, by omega, by omega, .inr ⟨by omega, by omega⟩, by omega, by omega, rfl⟩

end Go.VL

/- BookTrims over values. Conditions: none. -/
namespace Go.VL
open Go.Proofs

def oT : PV := ⟨6, 0, 0, 0, uB, 0, 0, 0, 0⟩
theorem oT_may : mayB oT = true := by decide +kernel
theorem apply_oT (b : BV) : applyP b oT = ({ b with il := trimRow b }, 0) := by
  unfold applyP
  rw [oT_may, if_neg (by decide), if_neg (show ¬ oT.kind = 1 by decide), if_neg (show ¬ oT.kind = 2 by decide), if_neg (show ¬ oT.kind = 3 by decide), if_neg (show ¬ oT.kind = 4 by decide), if_neg (show ¬ oT.kind = 5 by decide)]
theorem trim_idem (b : BV) : trimRow { b with il := trimRow b } = trimRow b := by
  show keepL (goneB b) (keepL (goneB b) b.il) = keepL (goneB b) b.il
  unfold keepL
  rw [List.filter_filter]
  congr 1
  funext x
  cases goneB b x <;> rfl
theorem keep_get {α : Type} {p : α → Bool} {l : List α} {i : Nat} (h : i < l.length) (hp : p l[i] = false) : ∃ hj : (keepL p (l.take i)).length < (keepL p l).length, (keepL p l)[(keepL p (l.take i)).length] = l[i] := by
  have e : keepL p l = keepL p (l.take i) ++ (l[i] :: keepL p (l.drop (i + 1))) := by
    conv => lhs; rw [← List.take_append_drop i l, drop_step h]
    unfold keepL
    rw [List.filter_append, List.filter_cons, hp]
    rfl
  have hlt : (keepL p (l.take i)).length < (keepL p l).length := by
    have := congrArg List.length e
    simp only [List.length_append, List.length_cons] at this
    omega
  refine ⟨hlt, ?_⟩
  have h1 : (keepL p l)[(keepL p (l.take i)).length]? = some l[i] := by
    conv => lhs; arg 1; rw [e]
    simp
  rw [List.getElem?_eq_getElem hlt] at h1
  exact Option.some.inj h1
theorem of_gone (b : BV) (x : IV) : decide (idxL (idS x.id) b.ol < 0) = goneB b x := by
  unfold goneB
  have := idxL_nonneg (idS x.id) b.ol
  rw [← this]
  by_cases h : idxL (idS x.id) b.ol < 0
  · have h2 : ¬ 0 ≤ idxL (idS x.id) b.ol := by omega
    simp [h, h2]
  · have h2 : 0 ≤ idxL (idS x.id) b.ol := by omega
    simp [h, h2]

set_option maxHeartbeats 4000000 in
set_option maxRecDepth 20000 in
theorem c_ltrims (b : BV) (ok : BOK b) (h1 : b.ol.length < 4611686018427387904) (h2 : b.il.length < 4611686018427387904) (σ : St) :
    VCalls Try.prog 8 [bkv b] σ fun r σ' => r = .bool true := by
  refine vcalls_intro (C := cfg Try.prog [] [10] []) (cfg_ok mixed) Try.func8 rfl rfl rfl rfl rfl ?_
  simp -implicitDefEqProofs only [go_sem, bkv, bvC]
  refine vgo_call rfl rfl rfl rfl (c_shown σ) ?_
  simp -implicitDefEqProofs only [go_sem]
  refine vgo_call rfl rfl rfl rfl (c_rright b h1 h2 σ) ?_
  cases hR : rightB b
  · simp -implicitDefEqProofs only [go_sem]
  have R := ((right_iff b).1 hR).p
  have hlen := R.len
  have hac := c_apply b oT ok R.next0 R.len R.lks (right_N R.f) (by show (0 : Int) < 4294967296; decide) σ
  rw [apply_oT] at hac
  have Rc := right_trim R
  have okc := ok_apply ok oT
  rw [apply_oT] at okc
  simp only at okc
  have had := c_apply { b with il := trimRow b } oT okc Rc.next0 Rc.len Rc.lks (right_N Rc.f) (by show (0 : Int) < 4294967296; decide) σ
  rw [apply_oT, trim_idem] at had
  have hlc := Rc.len
  simp only at had hlc
  have htr : trimRow b = keepL (goneB b) b.il := rfl
  simp -implicitDefEqProofs only [go_sem]
  refine vgo_call rfl rfl rfl rfl hac ?_
  simp -implicitDefEqProofs only [go_sem, applyV, bkv, bvC]
  refine vgo_call rfl rfl rfl rfl had ?_
  simp -implicitDefEqProofs only [go_sem, applyV, bkv, bvC]
  have hk0 : ∀ i, i ≤ b.il.length → (keepL (goneB b) (b.il.take i)).length ≤ 60 := fun i hi => by
    have := keepL_length (goneB b) b.il i
    omega
  refine w_loop (fun i => i ≤ b.il.length) (fun i => [(9, .int .i64 i), (8, .int .i64 ((keepL (goneB b) (b.il.take i)).length : Nat)), (7, .int .i64 0), (6, .cell (bvC { b with il := trimRow b })), (5, .int .i64 0), (4, .cell (bvC { b with il := trimRow b })), (3, .bool true), (2, .bool false), (1, .ip (bvC b))]) (fun _ => σ) (fun i => b.il.length - i) 0 (Nat.zero_le _) ?_ rfl ?_
  · simp -implicitDefEqProofs only [go_sem, bvC]
    exact ⟨rfl, rfl⟩
  intro i hi
  rcases Nat.lt_or_ge i b.il.length with h | h
  · have hw : IntKind.i64.wrap ((i : Int) + 1) = ((i + 1 : Nat) : Int) := wrap_ok (by omega) (by omega)
    have hkt := keepL_take (p := goneB b) h
    have hk := hk0 i hi
    simp -implicitDefEqProofs only [go_sem, bvC, ivs_length, h, ivs_getD h]
    refine w_walk2 [] [0, 1, 2, 3, 4, 5, 6, 7, 8] [35, 36, 37, 38, 39, 40, 41, 42, 43] [0, 0, 2, 0, 14, 30, 62, 127, 255] rfl rfl rfl rfl ?_
    simp -implicitDefEqProofs only [go_sem, bvC, ivs_length, h, ivs_getD h]
    refine vdgo_call rfl rfl rfl rfl (c_rof b b.il[i].id (by unfold lim; omega) σ) ?_
    cases hg : goneB b b.il[i]
    · have hgd := of_gone b b.il[i]
      rw [hg] at hgd
      rw [hg] at hkt
      obtain ⟨hj, hje⟩ := keep_get h hg
      rw [← htr] at hj
      have hje' : (trimRow b)[(keepL (goneB b) (b.il.take i)).length]'hj = b.il[i] := hje
      have hd1 : decide ((trimRow b).length ≤ (keepL (goneB b) (b.il.take i)).length) = false := by
        rw [decide_eq_false_iff_not]; omega
      have hgt := ivs_getD hj
      rw [hje'] at hgt
      have hw2 : IntKind.i64.wrap (((keepL (goneB b) (b.il.take i)).length : Int) + 1) = (((keepL (goneB b) (b.il.take i)).length + 1 : Nat) : Int) := wrap_ok (by omega) (by omega)
      simp -implicitDefEqProofs only [go_sem, hgd]
      refine w_walk2 [] [0, 1, 2, 3, 4, 5, 6, 7, 8, 9, 10, 11, 12, 13, 14, 15, 16, 17] [44, 45, 46, 47, 48, 49, 50, 51, 52, 53, 54, 55, 56, 57, 58, 59, 60, 61] [0, 0, 2, 6, 15, 31, 63, 127, 63, 511, 1023, 63, 2111, 63, 14399, 30783, 65535, 131071] rfl rfl rfl rfl ?_
      simp -implicitDefEqProofs only [go_sem, bvC, ivs_length, h, ivs_getD h, hj, hgt, hd1, mk]
      refine l_next (i + 1) h (by omega) ?_ rfl
      have hkl : (keepL (goneB b) (b.il.take i) ++ [b.il[i]]).length = (keepL (goneB b) (b.il.take i)).length + 1 := by simp
      simp -implicitDefEqProofs only [go_sem, bvC, hw, hw2, hkt, cond_false, hkl]
    · have hgd := of_gone b b.il[i]
      rw [hg] at hgd
      rw [hg] at hkt
      simp -implicitDefEqProofs only [go_sem, hgd]
      refine l_next (i + 1) h (by omega) ?_ rfl
      simp -implicitDefEqProofs only [go_sem, bvC, hw, hkt, cond_true, List.append_nil]
  · have hh : ¬ (i < b.il.length) := by omega
    simp -implicitDefEqProofs only [go_sem, bvC, ivs_length, hh]
    refine l_exit ?_
    rw [List.take_of_length_le h]
    have hrs := c_rsame { b with il := trimRow b } { b with il := trimRow b } (by unfold lim; show b.ol.length ≤ _; omega) (by unfold lim; show (trimRow b).length ≤ _; omega) (by have := R.lks; unfold lim; show b.ll.length ≤ _; omega) σ
    rw [sameB_self] at hrs
    have hrr := c_rright { b with il := trimRow b } (by show b.ol.length < _; omega) (by show (trimRow b).length < _; omega) σ
    rw [(right_iff _).2 Rc.f] at hrr
    have e9 : (((keepL (goneB b) b.il).length : Int) == ((keepL (goneB b) b.il).length : Int)) = true := by simp
    rw [htr] at hrs hrr
    simp -implicitDefEqProofs only [go_sem, bvC, ivs_length, htr, e9]
    refine vgo_call rfl rfl rfl rfl hrs ?_
    simp -implicitDefEqProofs only [go_sem, bvC, bkv]
    refine vgo_call rfl rfl rfl rfl hrs ?_
    simp -implicitDefEqProofs only [go_sem, bvC, bkv]
    refine vgo_call rfl rfl rfl rfl hrr ?_
    simp -implicitDefEqProofs only [go_sem, bvC, bkv]

end Go.VL

/- BookCloses over values. Conditions: none. -/
namespace Go.VL
open Go.Proofs

theorem right_closeS {b : BV} (R : RightP b) : ∀ k, k ≤ b.ol.length → RightP (closeS b k)
  | 0, _ => R
  | k + 1, h => by
    have := right_apply (right_closeS R k (by omega)) (clO b.ol[k])
    rwa [closeS_step R.f (by omega)] at this
theorem right_closeP {b : BV} (R : RightP b) : RightP (closeP b) := right_closeS R _ (Nat.le_refl _)
theorem closeP_ol (b : BV) : (closeP b).ol = [] := by unfold closeP; rw [closeS_ol, List.drop_length]
theorem closeP_nil {c : BV} (h : c.ol = []) : closeP c = c := by unfold closeP; rw [h]; rfl
theorem free_nil {c : BV} (h : c.ol = []) : freeP c = (167772161, true) := by unfold freeP; rw [h]; rfl

def cntK (id kind : Int) (l : List IV) : Nat := l.countP fun x => x.id == id && x.kind == kind
theorem cntK_take (id kind : Int) {l : List IV} {i : Nat} (h : i < l.length) : cntK id kind (l.take (i + 1)) = cntK id kind (l.take i) + (bif l[i].id == id && l[i].kind == kind then 1 else 0) := by
  unfold cntK
  rw [List.take_succ_eq_append_getElem h, List.countP_append, List.countP_cons, List.countP_nil]
  cases l[i].id == id && l[i].kind == kind <;> simp
theorem cntK_le (id kind : Int) (l : List IV) (i : Nat) : cntK id kind (l.take i) ≤ i := Nat.le_trans List.countP_le_length (by simp; omega)
def cntOK (id : Int) (l : List IV) : Prop := match prevOf id l with
  | none => cntK id 1 l = 0 ∧ cntK id 3 l = 0
  | some y => cntK id 1 l = 1 ∧ cntK id 3 l = (if y.kind = 3 then 1 else 0)
theorem cnt_lines {n : Int} {l : List IV} (hl : ∀ (i : Nat) (h : i < l.length), lineB n (l.take i) l[i] = true) (id : Int) : ∀ m, m ≤ l.length → cntOK id (l.take m)
  | 0, _ => ⟨rfl, rfl⟩
  | m + 1, h => by
    have ih := cnt_lines hl id m (by omega)
    unfold cntOK at *
    rw [prevOf_take id (by omega), cntK_take id 1 (by omega), cntK_take id 3 (by omega)]
    have hb := hl m (by omega)
    unfold lineB at hb
    simp only [Bool.and_eq_true] at hb
    have hb := hb.2
    by_cases e : l[m].id = id
    · have e1 : idI id l[m] = true := by simp [idI, e]
      have e2 : (l[m].id == id) = true := by simp [e]
      rw [e1, e2]
      rw [e] at hb
      cases hp : prevOf id (l.take m) with
      | none =>
        rw [hp] at ih hb
        simp only at ih hb
        unfold startB at hb
        simp only [Bool.and_eq_true, beq_iff_eq] at hb
        simp [hb.1.1.1, ih.1, ih.2]
      | some y =>
        rw [hp] at ih hb
        simp only at ih hb
        unfold onB at hb
        simp only [Bool.and_eq_true, Bool.not_eq_true', beq_eq_false_iff_ne] at hb
        obtain ⟨⟨⟨b1, _⟩, _⟩, b2⟩ := hb
        rw [if_neg b1] at ih
        cases hc : l[m].kind == 2 && l[m].cause == 0
        · rw [hc] at b2
          simp only [cond_false, Bool.and_eq_true, beq_iff_eq] at b2
          simp [b2.1.1, ih.1, ih.2]
        · simp only [Bool.and_eq_true, beq_iff_eq] at hc
          simp [hc.1, ih.1, ih.2]
    · have e1 : idI id l[m] = false := by simp [idI, e]
      have e2 : (l[m].id == id) = false := by simp [e]
      rw [e1, e2]
      simpa using ih
theorem prev_none {id : Int} {l : List IV} (h : prevOf id l = none) {x : IV} (hx : x ∈ l) : x.id ≠ id := by
  rcases last_prev id l l.length (Nat.le_refl _) with ⟨h1, _⟩ | ⟨n, _, _, _, h1, _⟩
  · rcases lastL_spec (idI id) l l.length (Nat.le_refl _) with ⟨_, h2⟩ | ⟨i, _, _, h2, _⟩
    · rw [List.take_length] at h2
      have := List.all_eq_true.1 h2 x hx
      simpa [idI] using this
    · rw [h1] at h2
      exact absurd h2 (by omega)
  · rw [List.take_length, h] at h1; cases h1
theorem cnt_closed {c : BV} (R : RightP c) (ho : c.ol = []) {x : IV} (hx : x ∈ c.il) : cntK x.id 1 c.il = 1 ∧ cntK x.id 3 c.il = 1 := by
  have h := cnt_lines R.line x.id c.il.length (Nat.le_refl _)
  have hs := R.st x.id
  rw [List.take_length] at h
  unfold cntOK at h
  rw [ho] at hs
  cases hp : prevOf x.id c.il with
  | none => exact absurd rfl (prev_none hp hx)
  | some y =>
    rw [hp] at h hs
    have hk : y.kind = 3 := hs
    simp only [hk, if_true] at h
    exact h

set_option maxHeartbeats 4000000 in
set_option maxRecDepth 20000 in
theorem c_lcloses (b : BV) (ok : BOK b) (h1 : b.ol.length < 4611686018427387904) (h2 : b.il.length < 4611686018427387904) (σ : St) :
    VCalls Try.prog 5 [bkv b] σ fun r σ' => r = .bool true := by
  refine vcalls_intro (C := cfg Try.prog [] [] []) (cfg_ok mixed) Try.func5 rfl rfl rfl rfl rfl ?_
  simp -implicitDefEqProofs only [go_sem, bkv, bvC]
  refine vgo_call rfl rfl rfl rfl (c_shown σ) ?_
  simp -implicitDefEqProofs only [go_sem]
  refine vgo_call rfl rfl rfl rfl (c_rright b h1 h2 σ) ?_
  cases hR : rightB b
  · simp -implicitDefEqProofs only [go_sem]
  have R := ((right_iff b).1 hR).p
  have hlen := R.len
  have hcc := c_bclose b R.f ok σ
  have Rc := right_closeP R
  have okc : BOK (closeP b) := closeS_ok ok _
  have hol := closeP_ol b
  have hnx : (closeP b).next = b.next := closeS_next _ _
  have hil : (closeP b).il.length = b.il.length + b.ol.length := by
    unfold closeP
    rw [closeS_il]
    simp
  have hll : (closeP b).ll = b.ll := (closeS_ll _ _).1
  generalize closeP b = c at hcc Rc okc hol hnx hil hll
  have hlc := Rc.len
  have hlk := Rc.lks
  have hcf := c_free c (by unfold lim; omega) σ
  rw [free_nil hol] at hcf
  have hcr := c_rright c (by omega) (by omega) σ
  rw [(right_iff _).2 Rc.f] at hcr
  have hc2 := c_bclose c Rc.f okc σ
  rw [closeP_nil hol] at hc2
  have hcs := c_rsame c c (by unfold lim; omega) (by unfold lim; omega) (by unfold lim; omega) σ
  rw [sameB_self] at hcs
  have hol0 : c.ol.length = 0 := by rw [hol]; rfl
  have e0 : (((0 : Nat) : Int) == 0) = true := rfl
  have e1 : (((1 : Nat) : Int) == 1) = true := rfl
  have en : (b.next == b.next) = true := by simp
  have hw0 : IntKind.i64.wrap ((b.il.length : Int) + (b.ol.length : Int)) = ((b.il.length + b.ol.length : Nat) : Int) := by rw [IntKind.wrap_i64]; omega
  have el : (((b.il.length + b.ol.length : Nat) : Int) == ((b.il.length + b.ol.length : Nat) : Int)) = true := by simp
  have ell : ((b.ll.length : Int) == (b.ll.length : Int)) = true := by simp
  simp -implicitDefEqProofs only [go_sem]
  refine vgo_call rfl rfl rfl rfl hcc ?_
  simp -implicitDefEqProofs only [go_sem, bkv, bvC]
  refine vgo_call rfl rfl rfl rfl hcf ?_
  simp -implicitDefEqProofs only [go_sem, bkv, bvC]
  refine w_walk2 [] [0, 1, 2, 3, 4, 5, 6, 7, 8, 9, 10, 11, 12, 13, 14, 15, 16, 17, 18, 19, 20, 21, 22, 23, 24, 25, 26, 27, 28, 29, 30, 31, 32, 33, 34, 35, 36, 37, 38, 39, 40, 41, 42, 43] [23, 24, 25, 26, 27, 28, 29, 30, 31, 32, 33, 34, 35, 36, 37, 38, 39, 40, 41, 42, 43, 44, 45, 46, 47, 48, 49, 50, 51, 52, 53, 54, 55, 56, 57, 58, 59, 60, 61, 62, 63, 64, 65, 66] [0, 1, 3, 7, 15, 31, 63, 127, 255, 511, 1023, 2047, 4095, 8191, 16383, 32767, 65535, 131071, 262143, 524287, 262143, 2097151, 4194303, 8388607, 16777215, 33554431, 67108863, 33554431, 167772159, 536870911, 1073741823, 2147483647, 4294967295, 8589934591, 17179869183, 4294967295, 38654705663, 107374182399, 4294967295, 279172874239, 828928688127, 2168958484479, 4398046511103, 8796093022207] rfl rfl rfl rfl ?_
  simp -implicitDefEqProofs only [go_sem, bkv, bvC, svs_length, hol0, e0, bne]
  refine vdgo_call rfl rfl rfl rfl hcr ?_
  simp -implicitDefEqProofs only [go_sem, bkv, bvC]
  refine vdgo_call rfl rfl rfl rfl hc2 ?_
  simp -implicitDefEqProofs only [go_sem, bkv, bvC]
  refine vdgo_call rfl rfl rfl rfl hcs ?_
  simp -implicitDefEqProofs only [go_sem, bkv, bvC, hnx, en, ivs_length, svs_length, hil, hw0, el, bne]
  refine w_loop (fun i => i ≤ c.il.length) (fun i => [(7, .int .i64 i), (4, .cell (bvC c)), (3, .bool true), (2, .bool false), (1, .ip (bvC b))]) (fun _ => σ) (fun i => c.il.length - i) 0 (Nat.zero_le _) ?_ rfl ?_
  · simp -implicitDefEqProofs only [go_sem, bvC, hnx]
    rfl
  intro i hi
  rcases Nat.lt_or_ge i c.il.length with h | h
  · have hw : IntKind.i64.wrap ((i : Int) + 1) = ((i + 1 : Nat) : Int) := wrap_ok (by omega) (by omega)
    obtain ⟨k1, k2⟩ := cnt_closed Rc hol (List.getElem_mem h)
    simp -implicitDefEqProofs only [go_sem, bvC, ivs_length, h, ivs_getD h]
    refine w_loop (fun k => k ≤ c.il.length) (fun k => [(10, .int .i64 k), (9, .int .i64 (cntK c.il[i].id 1 (c.il.take k))), (8, .int .i64 (cntK c.il[i].id 3 (c.il.take k))), (7, .int .i64 i), (4, .cell (bvC c)), (3, .bool true), (2, .bool false), (1, .ip (bvC b))]) (fun _ => σ) (fun k => c.il.length - k) 0 (Nat.zero_le _) ?_ rfl ?_
    · simp -implicitDefEqProofs only [go_sem, bvC]
      exact ⟨rfl, rfl, rfl⟩
    intro k hk
    rcases Nat.lt_or_ge k c.il.length with hkl | hkl
    · have hwk : IntKind.i64.wrap ((k : Int) + 1) = ((k + 1 : Nat) : Int) := wrap_ok (by omega) (by omega)
      have t1 := cntK_take c.il[i].id 1 hkl
      have t3 := cntK_take c.il[i].id 3 hkl
      have u1 : IntKind.i64.wrap ((cntK c.il[i].id 1 (c.il.take k) : Int) + 1) = ((cntK c.il[i].id 1 (c.il.take k) + 1 : Nat) : Int) := by have := cntK_le c.il[i].id 1 c.il k; exact wrap_ok (by omega) (by omega)
      have u3 : IntKind.i64.wrap ((cntK c.il[i].id 3 (c.il.take k) : Int) + 1) = ((cntK c.il[i].id 3 (c.il.take k) + 1 : Nat) : Int) := by have := cntK_le c.il[i].id 3 c.il k; exact wrap_ok (by omega) (by omega)
      simp -implicitDefEqProofs only [go_sem, bvC, ivs_length, hkl]
      refine w_walk2 [] [0, 1, 2, 3, 4, 5, 6, 7, 8, 9, 10, 11, 12, 13, 14, 15, 16, 17, 18, 19, 20, 21] [81, 82, 83, 84, 85, 86, 87, 88, 89, 90, 91, 92, 93, 94, 95, 96, 97, 98, 99, 100, 101, 102] [0, 1, 0, 7, 15, 31, 0, 64, 0, 448, 960, 1984, 4095, 8191, 16383, 32767, 16383, 131071, 262143, 524287, 1048575, 2097151] rfl rfl rfl rfl ?_
      simp -implicitDefEqProofs only [go_sem, bvC, ivs_length, h, hkl, ivs_getD h, ivs_getD hkl]
      cases q1 : c.il[k].id == c.il[i].id
      · rw [q1] at t1 t3
        simp -implicitDefEqProofs only [go_sem, q1]
        refine w_walk2 [] [0, 1, 2, 3, 4, 5, 6, 7, 8, 9, 10, 11, 12, 13, 14, 15, 16, 17, 18, 19, 20, 21] [105, 106, 107, 108, 109, 110, 111, 112, 113, 114, 115, 116, 117, 118, 119, 120, 121, 122, 123, 124, 125, 126] [0, 1, 0, 7, 15, 31, 0, 64, 0, 448, 960, 1984, 4095, 8191, 16383, 32767, 16383, 131071, 262143, 524287, 1048575, 2097151] rfl rfl rfl rfl ?_
        simp -implicitDefEqProofs only [go_sem, bvC, ivs_length, h, hkl, ivs_getD h, ivs_getD hkl, q1]
        refine l_next (k + 1) hkl (by omega) ?_ rfl
        simp -implicitDefEqProofs only [go_sem, bvC, hwk, t1, t3, u1, u3, q1, Bool.false_and, Bool.true_and, Bool.and_false, Bool.and_true, cond_true, cond_false, Nat.add_zero]
      cases q3 : c.il[k].kind == 3
      · cases q2 : c.il[k].kind == 1
        · rw [q1, q2] at t1
          rw [q1, q3] at t3
          simp -implicitDefEqProofs only [go_sem, ivs_length, hkl, ivs_getD hkl, q1, q3]
          refine w_walk2 [] [0, 1, 2, 3, 4, 5, 6, 7, 8, 9, 10, 11, 12, 13, 14, 15, 16, 17, 18, 19, 20, 21] [105, 106, 107, 108, 109, 110, 111, 112, 113, 114, 115, 116, 117, 118, 119, 120, 121, 122, 123, 124, 125, 126] [0, 1, 0, 7, 15, 31, 0, 64, 0, 448, 960, 1984, 4095, 8191, 16383, 32767, 16383, 131071, 262143, 524287, 1048575, 2097151] rfl rfl rfl rfl ?_
          simp -implicitDefEqProofs only [go_sem, bvC, ivs_length, h, hkl, ivs_getD h, ivs_getD hkl, q1, q2]
          refine l_next (k + 1) hkl (by omega) ?_ rfl
          simp -implicitDefEqProofs only [go_sem, bvC, hwk, t1, t3, u1, u3, q1, Bool.false_and, Bool.true_and, Bool.and_false, Bool.and_true, cond_true, cond_false, Nat.add_zero]
        · rw [q1, q2] at t1
          rw [q1, q3] at t3
          simp -implicitDefEqProofs only [go_sem, ivs_length, hkl, ivs_getD hkl, q1, q3]
          refine w_walk2 [] [0, 1, 2, 3, 4, 5, 6, 7, 8, 9, 10, 11, 12, 13, 14, 15, 16, 17, 18, 19, 20, 21] [105, 106, 107, 108, 109, 110, 111, 112, 113, 114, 115, 116, 117, 118, 119, 120, 121, 122, 123, 124, 125, 126] [0, 1, 0, 7, 15, 31, 0, 64, 0, 448, 960, 1984, 4095, 8191, 16383, 32767, 16383, 131071, 262143, 524287, 1048575, 2097151] rfl rfl rfl rfl ?_
          simp -implicitDefEqProofs only [go_sem, bvC, ivs_length, h, hkl, ivs_getD h, ivs_getD hkl, q1, q2]
          refine l_next (k + 1) hkl (by omega) ?_ rfl
          simp -implicitDefEqProofs only [go_sem, bvC, hwk, t1, t3, u1, u3, q1, Bool.false_and, Bool.true_and, Bool.and_false, Bool.and_true, cond_true, cond_false, Nat.add_zero]
      · have q2 : (c.il[k].kind == 1) = false := by
          have := beq_iff_eq.1 q3
          rw [this]; rfl
        rw [q1, q2] at t1
        rw [q1, q3] at t3
        simp -implicitDefEqProofs only [go_sem, ivs_length, hkl, ivs_getD hkl, q1, q3]
        refine w_walk2 [] [0, 1, 2, 3, 4, 5, 6, 7, 8, 9, 10, 11, 12, 13, 14, 15, 16, 17, 18, 19, 20, 21] [105, 106, 107, 108, 109, 110, 111, 112, 113, 114, 115, 116, 117, 118, 119, 120, 121, 122, 123, 124, 125, 126] [0, 1, 0, 7, 15, 31, 0, 64, 0, 448, 960, 1984, 4095, 8191, 16383, 32767, 16383, 131071, 262143, 524287, 1048575, 2097151] rfl rfl rfl rfl ?_
        simp -implicitDefEqProofs only [go_sem, bvC, ivs_length, h, hkl, ivs_getD h, ivs_getD hkl, q1, q2]
        refine l_next (k + 1) hkl (by omega) ?_ rfl
        simp -implicitDefEqProofs only [go_sem, bvC, hwk, t1, t3, u1, u3, q1, Bool.false_and, Bool.true_and, Bool.and_false, Bool.and_true, cond_true, cond_false, Nat.add_zero]
    · have hh : ¬ (k < c.il.length) := by omega
      simp -implicitDefEqProofs only [go_sem, bvC, ivs_length, hh]
      refine l_exit ?_
      rw [List.take_of_length_le hkl, k1, k2]
      simp -implicitDefEqProofs only [go_sem, e1, bne]
      refine l_next (i + 1) h (by omega) ?_ rfl
      simp -implicitDefEqProofs only [go_sem, bvC, hw]
  · have hh : ¬ (i < c.il.length) := by omega
    simp -implicitDefEqProofs only [go_sem, bvC, ivs_length, hh]
    refine l_exit ?_
    simp -implicitDefEqProofs only [go_sem, bvC, lvs_length, hll, ell]

end Go.VL

/- Contracts of this program's functions: the document's answer for what is done; BookDoes over values. Conditions: none. -/
namespace Go.VL
open Go.Proofs

/-- The document's answer is the same but for which rows are nil. -/
def trimB (b : BV) : BV := { b with il := trimRow b, inl := decide ((trimRow b).length = 0) }
def refP (b : BV) (o : PV) : BV × Int := if mayB o = true ∧ o.kind = 6 then (trimB b, 0) else applyP b o
theorem refP_e (b : BV) (o : PV) : (refP b o).2 = (applyP b o).2 := by
  unfold refP
  split
  · rename_i h
    unfold applyP
    rw [h.1, if_neg (by decide), if_neg (by omega), if_neg (by omega), if_neg (by omega), if_neg (by omega), if_neg (by omega)]
  · rfl
theorem refP_same (b : BV) (o : PV) : sameB (applyP b o).1 (refP b o).1 = true := by
  unfold refP
  split
  · rename_i h
    unfold applyP
    rw [h.1, if_neg (by decide), if_neg (by omega), if_neg (by omega), if_neg (by omega), if_neg (by omega), if_neg (by omega)]
    simp [sameB, trimB]
  · exact sameB_self _

set_option maxHeartbeats 4000000 in
set_option maxRecDepth 20000 in
theorem c_rapply (b : BV) (o : PV) (R : RightP b) (σ : St) : VCalls Try.prog 12 [bkv b, pv o] σ fun r σ' => r = applyV (refP b o) ∧ σ' = σ := by
  refine VCalls.res ?_
  refine vcalls_intro (C := cfg Try.prog [] [] []) (cfg_ok mixed) Try.func12 rfl rfl rfl rfl rfl ?_
  have hlen := R.len
  have hoL : b.ol.length ≤ lim := by unfold lim; omega
  simp -implicitDefEqProofs only [go_sem, bkv, bvC, pv, pvC]
  refine vgo_call rfl rfl rfl rfl (c_rmay o σ) ?_
  cases e0 : mayB o
  · have he : refP b o = (b, 1) := by
      unfold refP applyP
      rw [e0, if_neg (by simp)]
      rfl
    simp -implicitDefEqProofs only [go_sem, he, applyV, bkv, bvC]
    exact .refl _
  have hk := e0
  simp only [mayB, Bool.and_eq_true, decide_eq_true_eq] at hk
  have hr : o.kind ≠ 6 → refP b o = applyP b o := fun h => by unfold refP; rw [if_neg (fun h' => h h'.2)]
  simp -implicitDefEqProofs only [go_sem]
  rcases kind_cases hk.1.1 hk.1.2 with h | h | h | h | h | h
  · have e1 : (o.kind == 1) = true := by rw [h]; rfl
    have he : applyP b o = (if openE b o = 0 then (openP b o, 0) else (b, openE b o)) := by
      unfold applyP
      rw [e0, if_neg (by decide), if_pos h]
    simp -implicitDefEqProofs only [go_sem, e1]
    refine vgo_call rfl rfl rfl rfl (c_ropened b o R σ) ?_
    rw [← he, hr (by omega)]
    simp -implicitDefEqProofs only [go_sem, applyV, bkv, bvC]
    exact .refl _
  · have e1 : (o.kind == 1) = false := by rw [h]; rfl
    have e2 : (o.kind == 2) = true := by rw [h]; rfl
    have he : applyP b o = (if o.kind = 3 then (if closeE b o = 0 then (stoB b o, 0) else (b, closeE b o)) else (if interimE b o = 0 then (intB b o, 0) else (b, interimE b o))) := by
      unfold applyP
      rw [e0, if_neg (by decide), if_neg (show ¬ o.kind = 1 by omega), if_pos h, if_neg (show ¬ o.kind = 3 by omega)]
      rfl
    simp -implicitDefEqProofs only [go_sem, e1, e2]
    refine vgo_call rfl rfl rfl rfl (c_rcounted b o R (.inl h) σ) ?_
    rw [← he, hr (by omega)]
    simp -implicitDefEqProofs only [go_sem, applyV, bkv, bvC]
    exact .refl _
  · have e1 : (o.kind == 1) = false := by rw [h]; rfl
    have e2 : (o.kind == 2) = false := by rw [h]; rfl
    have e3 : (o.kind == 3) = true := by rw [h]; rfl
    have he : applyP b o = (if o.kind = 3 then (if closeE b o = 0 then (stoB b o, 0) else (b, closeE b o)) else (if interimE b o = 0 then (intB b o, 0) else (b, interimE b o))) := by
      unfold applyP
      rw [e0, if_neg (by decide), if_neg (by omega), if_neg (by omega), if_pos h, if_pos h]
      rfl
    simp -implicitDefEqProofs only [go_sem, e1, e2, e3]
    refine vgo_call rfl rfl rfl rfl (c_rcounted b o R (.inr h) σ) ?_
    rw [← he, hr (by omega)]
    simp -implicitDefEqProofs only [go_sem, applyV, bkv, bvC]
    exact .refl _
  · have e1 : (o.kind == 1) = false := by rw [h]; rfl
    have e2 : (o.kind == 2) = false := by rw [h]; rfl
    have e3 : (o.kind == 3) = false := by rw [h]; rfl
    have e4 : (o.kind == 4) = true := by rw [h]; rfl
    have he : applyP b o = (if o.kind = 5 then (if passE b o = 0 then (pasB b o, 0) else (b, passE b o)) else (if failE b o = 0 then (faiB b o, 0) else (b, failE b o))) := by
      unfold applyP
      rw [e0, if_neg (by decide), if_neg (show ¬ o.kind = 1 by omega), if_neg (show ¬ o.kind = 2 by omega), if_neg (show ¬ o.kind = 3 by omega), if_pos h, if_neg (show ¬ o.kind = 5 by omega)]
      rfl
    simp -implicitDefEqProofs only [go_sem, e1, e2, e3, e4]
    refine vgo_call rfl rfl rfl rfl (c_rfails b o R (.inl h) σ) ?_
    rw [← he, hr (by omega)]
    simp -implicitDefEqProofs only [go_sem, applyV, bkv, bvC]
    exact .refl _
  · have e1 : (o.kind == 1) = false := by rw [h]; rfl
    have e2 : (o.kind == 2) = false := by rw [h]; rfl
    have e3 : (o.kind == 3) = false := by rw [h]; rfl
    have e4 : (o.kind == 4) = false := by rw [h]; rfl
    have e5 : (o.kind == 5) = true := by rw [h]; rfl
    have he : applyP b o = (if o.kind = 5 then (if passE b o = 0 then (pasB b o, 0) else (b, passE b o)) else (if failE b o = 0 then (faiB b o, 0) else (b, failE b o))) := by
      unfold applyP
      rw [e0, if_neg (by decide), if_neg (by omega), if_neg (by omega), if_neg (by omega), if_neg (by omega), if_pos h, if_pos h]
      rfl
    simp -implicitDefEqProofs only [go_sem, e1, e2, e3, e4, e5]
    refine vgo_call rfl rfl rfl rfl (c_rfails b o R (.inr h) σ) ?_
    rw [← he, hr (by omega)]
    simp -implicitDefEqProofs only [go_sem, applyV, bkv, bvC]
    exact .refl _
  · have e1 : (o.kind == 1) = false := by rw [h]; rfl
    have e2 : (o.kind == 2) = false := by rw [h]; rfl
    have e3 : (o.kind == 3) = false := by rw [h]; rfl
    have e4 : (o.kind == 4) = false := by rw [h]; rfl
    have e5 : (o.kind == 5) = false := by rw [h]; rfl
    have he : refP b o = (trimB b, 0) := by unfold refP; rw [if_pos ⟨e0, h⟩]
    simp -implicitDefEqProofs only [go_sem, e1, e2, e3, e4, e5]
    refine loop_adoptF 7 2 5 σ.length rfl rfl rfl ?_
    refine w_loop (fun i => i ≤ b.il.length) (fun i => [(8, .int .i64 i), (7, .cell [.int .i64 b.next, .sl b.on false 6 (svs b.ol), .rsl σ.length (keepL (goneB b) (b.il.take i)).length 0 (keepL (goneB b) (b.il.take i)).length, .sl b.ln false 3 (lvs b.ll)]), (5, .int .i64 0), (4, .cell [.int .i64 0, .sl true false 0 [], .sl true false 0 [], .sl true false 0 []]), (3, .ip (pvC o)), (2, .ip (bvC b))]) (fun i => σ ++ [.arr (decide ((keepL (goneB b) (b.il.take i)).length = 0)) (keepL (goneB b) (b.il.take i)).length 5 (ivs (keepL (goneB b) (b.il.take i)))]) (fun i => b.il.length - i) 0 (Nat.zero_le _) ?_ rfl ?_
    · simp -implicitDefEqProofs only [go_sem, bvC, pvC, List.set]
      exact ⟨rfl, rfl⟩
    intro i hi
    rcases Nat.lt_or_ge i b.il.length with h | h
    · have hw : IntKind.i64.wrap ((i : Int) + 1) = ((i + 1 : Nat) : Int) := wrap_ok (by omega) (by omega)
      have hkt := keepL_take (p := goneB b) h
      have hkl := keepL_length (goneB b) b.il i
      simp -implicitDefEqProofs only [go_sem, bvC, pvC, ivs_length, h, ivs_getD h]
      refine w_walk2 [] [0, 1, 2, 3, 4, 5, 6, 7, 8] [48, 49, 50, 51, 52, 53, 54, 55, 56] [0, 0, 2, 0, 14, 30, 62, 127, 255] rfl rfl rfl rfl ?_
      simp -implicitDefEqProofs only [go_sem, bvC, pvC, ivs_length, h, ivs_getD h]
      refine vdgo_call rfl rfl rfl rfl (c_rof b b.il[i].id hoL _) ?_
      have hgd : decide (0 ≤ idxL (idS b.il[i].id) b.ol) = !goneB b b.il[i] := by
        rw [← of_gone]
        rw [Bool.eq_iff_iff]
        simp
      cases hg : goneB b b.il[i]
      · rw [hg] at hgd hkt
        simp -implicitDefEqProofs only [go_sem, hgd]
        refine w_walk2 [8, 10] [0, 1, 2, 3, 4, 5, 6, 7, 8, 9, 10] [57, 58, 59, 60, 61, 62, 63, 64, 66] [0, 1, 0, 4, 0, 28, 60, 124, 255, 511, 1023] rfl rfl rfl rfl ?_
        simp (maxSteps := 1000000) -implicitDefEqProofs only [go_sem, bvC, pvC, ivs_length, h, ivs_getD h, Nat.zero_add, Nat.sub_zero]
        refine ⟨by unfold lim; omega, l_next (i + 1) h (by omega) ?_ ?_⟩
        · have hkk : (keepL (goneB b) (b.il.take i) ++ [b.il[i]]).length = (keepL (goneB b) (b.il.take i)).length + 1 := by simp
          simp -implicitDefEqProofs only [go_sem, bvC, pvC, hw, hkt, cond_false, hkk]
        · rw [hkt]
          simp [ivs, iv, ivC]
      · rw [hg] at hgd hkt
        simp -implicitDefEqProofs only [go_sem, hgd]
        refine l_next (i + 1) h (by omega) ?_ ?_
        · simp -implicitDefEqProofs only [go_sem, bvC, pvC, hw, hkt, cond_true, List.append_nil]
        · simp only [hkt, cond_true, List.append_nil]
    · have hh : ¬ (i < b.il.length) := by omega
      simp -implicitDefEqProofs only [go_sem, bvC, pvC, ivs_length, hh]
      refine l_exit ?_
      rw [List.take_of_length_le h, he]
      simp -implicitDefEqProofs only [go_sem, bvC, pvC, ivs_length, applyV, bkv]
      rw [show List.take (keepL (goneB b) b.il).length (ivs (keepL (goneB b) b.il)) = ivs (keepL (goneB b) b.il) from List.take_of_length_le (by simp [ivs])]
      exact .refl _


set_option maxHeartbeats 4000000 in
set_option maxRecDepth 20000 in
theorem c_ldoes (b : BV) (o : PV) (ok : BOK b) (h1 : b.ol.length < 4611686018427387904) (h2 : b.il.length < 4611686018427387904) (ha : o.addr < 4294967296) (σ : St) :
    VCalls Try.prog 3 [bkv b, pv o] σ fun r σ' => r = .bool true := by
  refine vcalls_intro (C := cfg Try.prog [] [] []) (cfg_ok mixed) Try.func3 rfl rfl rfl rfl rfl ?_
  simp -implicitDefEqProofs only [go_sem, bkv, bvC, pv, pvC]
  refine vgo_call rfl rfl rfl rfl (c_shown σ) ?_
  simp -implicitDefEqProofs only [go_sem]
  refine vgo_call rfl rfl rfl rfl (c_rright b h1 h2 σ) ?_
  cases hR : rightB b
  · simp -implicitDefEqProofs only [go_sem]
  have R := ((right_iff b).1 hR).p
  have hlen := R.len
  simp -implicitDefEqProofs only [go_sem]
  cases hu : decide ((50 : Int) < (o.user.size : Int))
  · simp -implicitDefEqProofs only [go_sem, hu]
    have hN := right_N R.f
    have R1 := right_apply R o
    have hl1 := R1.len
    have hk1 := R1.lks
    have hs1 := c_rsame (applyP b o).1 (refP b o).1 (by unfold lim; omega) (by unfold lim; omega) (by unfold lim; omega) σ
    rw [refP_same] at hs1
    have he := refP_e b o
    have hap := c_apply b o ok R.next0 R.len R.lks hN ha σ
    have hrp := c_rapply b o R σ
    have hbc := c_bclose b R.f ok σ
    have hrc := c_rclose b R.len σ
    have Rc := right_closeP R
    have hlc := Rc.len
    have hlk := Rc.lks
    have hs2 := c_rsame (closeP b) { clR b b.ol.length with ol := [], on := true } (by unfold lim; omega) (by unfold lim; omega) (by unfold lim; omega) σ
    rw [show sameB (closeP b) { clR b b.ol.length with ol := [], on := true } = true by
      have q1 : (clR b b.ol.length).next = b.next := by cases b.ol.length <;> rfl
      have q2 : (clR b b.ol.length).ll = b.ll := by cases b.ol.length <;> rfl
      have q3 : (closeP b).il = b.il ++ b.ol.map stopI := by unfold closeP; rw [closeS_il, List.take_length]
      have q4 : (closeP b).next = b.next := closeS_next _ _
      have q5 : (closeP b).ll = b.ll := (closeS_ll _ _).1
      simp [sameB, closeP_ol, q1, q2, q3, q4, q5, clR_il]] at hs2
    generalize { clR b b.ol.length with ol := [], on := true } = rc at hrc hs2
    generalize closeP b = cc at hbc hs2
    generalize applyP b o = x at hap he hs1
    generalize refP b o = y at hrp he hs1
    obtain ⟨c, e⟩ := x
    obtain ⟨d, f⟩ := y
    simp only at he hs1
    subst he
    have ef : (f == f) = true := by simp
    refine vgo_call rfl rfl rfl rfl hap ?_
    simp -implicitDefEqProofs only [go_sem, applyV, bkv, bvC]
    refine vgo_call rfl rfl rfl rfl hrp ?_
    simp -implicitDefEqProofs only [go_sem, applyV, bkv, bvC]
    refine w_walk2 [18] [0, 1, 2, 3, 4, 5, 6, 7, 8, 9, 10, 11, 12, 13, 14, 15, 16, 17, 18] [33, 34, 35, 36, 37, 38, 39, 40, 41, 42, 43, 44, 45, 46, 47, 48, 49, 50] [0, 1, 3, 3, 15, 31, 63, 127, 127, 511, 1023, 2047, 4095, 8191, 4095, 32767, 65535, 131071, 262143] rfl rfl rfl rfl ?_
    simp -implicitDefEqProofs only [go_sem, bkv, bvC]
    refine vdgo_call rfl rfl rfl rfl hs1 ?_
    simp -implicitDefEqProofs only [go_sem, bkv, bvC, ef]
    refine vdgo_call rfl rfl rfl rfl hbc ?_
    simp -implicitDefEqProofs only [go_sem, bkv, bvC]
    refine vdgo_call rfl rfl rfl rfl hrc ?_
    simp -implicitDefEqProofs only [go_sem, bkv, bvC]
    refine vdgo_call rfl rfl rfl rfl hs2 ?_
    simp -implicitDefEqProofs only [go_sem, bkv, bvC]
  · simp -implicitDefEqProofs only [go_sem, hu]

end Go.VL

/- BookDoes: at every book and every act the law answers true, and leaves its arguments as they were. Conditions: none. -/
namespace Go.Proofs.Ytmeoignpknjdeaa
open Go.VL Go.ChangeShapes Go.WideShapes Go.RowKit

theorem bookDoes_calls (vs : List V) (h : argsV [shBook, shAct] vs) : VCalls Try.prog 3 vs [] fun r _ => r = .bool true := by
  obtain ⟨c1, r1, rfl, h1, c2, r2, rfl, h2, rfl⟩ := h
  obtain ⟨b, e1, ok, l1, l2, l3⟩ := book_of h1
  obtain ⟨o, e2, ha⟩ := act_of h2
  show VCalls Try.prog _ [.agg c1, .agg c2] _ _
  rw [e1, e2]
  exact c_ldoes b o ok l1 l2 ha []

theorem bookDoes_lifted (os : Os) (started : os.Started) (H : Type) (enc : TypeId × Value → H) :
    ReturnsInHanded {} Try.checked os 3 .any (Rows.bookDoesSpec.pre6 enc Try.prog Try.f3 Rows.bookDoesRow.domain false) (Rows.bookDoesSpec.post enc Try.prog Try.f3 false true false false) := by
  refine returnsInHanded_of_change_sized (C := Try.checked) own started (by kernel_rfl) Try.func3
    (ChangeSpec.witness6 (enc := enc) (C := Try.checked) false ⟨#[], #[.agg #[.int .i64 0, .slice none 0 0, .slice none 0 0, .slice none 0 0], .agg #[.int .i64 0, .int .i64 0, .int .i64 0, .int .u32 0, .string ⟨#[]⟩, .int .u64 0, .int .u64 0, .int .i64 0, .int .i64 0]], []⟩ 8 (by kernel_rfl) (by kernel_rfl) (by kernel_rfl) (by kernel_rfl)) ?_
  intro W base args ds gs before hval0 hW hcnd hsz0 _
  have hW' := hW
  obtain ⟨p, q, hA0, hV, rfl, hfz, hnd⟩ := hW
  obtain ⟨rfl, rfl⟩ := trodVars_none hV
  have hval : ∀ (j : Nat) t v, (Try.f3.params.toList)[j]? = some t → args.toList[j]? = some v → Value.okWide Try.prog W .any base t v := fun j t v h1 h2 => hval0 j t v (by simpa using h1) (by simpa using h2)
  refine (law_calls (fun _ => rfl) (ss := [shBook, shAct]) (by kernel_rfl) bookDoes_calls hval hA0 hsz0).mono fun e W' ⟨he, bel⟩ => ?_
  subst he
  have hb := again_of' laidOut bel (by kernel_rfl) hA0
  obtain ⟨v0, vs0, d0, ds0, p0, q0, e0a, rfl, e0b, h0, r0⟩ := trodAll_cons (show DataW.TrodAll enc Try.prog W 0 (fun _ => true) true [26, 30] args.toList ds p from hA0)
  obtain ⟨v1, vs1, d1, ds1, p1, q1, e1a, rfl, e1b, h1, r1⟩ := trodAll_cons r0
  obtain ⟨_, rfl, _⟩ := trodAll_nil r1
  exact ⟨_, rfl, _, _, _, [], _, [], hW', trodAll_mk1 (shut_bool Try.underlying4 _), hb, rfl, bel.frame _, fun h => by cases h⟩

theorem bookDoes_holds : Rows.BookDoesSaid :=
  OpenClaim.holds_of_wide 3 Try.f3 rfl rfl rfl rfl rfl rfl rfl ⟨rfl, rfl, rfl, rfl, rfl⟩ rfl rfl rfl rfl rfl (by kernel_rfl) Try.func3 (by kernel_rfl)
    (of_decide_eq_true (by kernel_rfl)) (by unfold Func.isWrapper; first | (rw [if_pos (by decide +kernel)]; kernel_rfl) | (rw [if_neg (by decide +kernel)]; exact ⟨rfl, rfl⟩))
    (fun os started H enc _ => bookDoes_lifted os started H enc)
#print axioms bookDoes_holds

end Go.Proofs.Ytmeoignpknjdeaa
