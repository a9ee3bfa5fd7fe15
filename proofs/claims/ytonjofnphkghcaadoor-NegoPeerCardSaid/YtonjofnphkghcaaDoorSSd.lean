/- Contracts of this program's functions over values, joined texts. Conditions: none. -/
import Derived.Test.YtonjofnphkghcaaDoorSSc
import Derived.Test.YtonjofnphkghcaaDoorVVc
import Derived.Test.YtonjofnphkghcaaDoorRows
import Derived.Test.YtonjofnphkghcaaDoorCards
import Derived.Test.YtonjofnphkghcaaDoorTie
import Derived.ProofKit
import Derived.WalkKit
import Derived.LaidMore
import Derived.Lay
import Derived.SevenTiedAt
import Derived.Stop.Joined
set_option linter.unusedVariables false
set_option linter.unusedSimpArgs false
/- The law NegoCodes, over values. Conditions: none. -/
namespace Go.VL
open Go.Proofs

set_option maxHeartbeats 4000000 in
set_option maxRecDepth 20000 in
theorem c_lcodes (n : NgV) (p : PkV) (hps : n.ps = 2) (hp : p.sz = 1) (σ : St) : VCalls Tryd.prog 6 [ngv n, pkv p] σ fun r σ' => r = .bool true ∧ σ' = σ := by
  refine vcalls_intro (C := cfg Tryd.prog [] [] []) (cfg_ok mixed) Tryd.func6 rfl rfl rfl rfl rfl ?_
  have hsm := c_small14 n hps σ
  simp only [ngv, ngC] at hsm
  simp -implicitDefEqProofs only [go_sem, ngv, ngC, pkv, pkC, hp]
  refine vgo_call rfl rfl rfl rfl (c_shown σ) ?_
  simp -implicitDefEqProofs only [go_sem]
  refine vgo_call rfl rfl rfl rfl hsm ?_
  cases hs : smallN n
  · simp -implicitDefEqProofs only [go_sem]
  have hs' := hs
  unfold smallN at hs'
  simp only [Bool.and_eq_true] at hs'
  obtain ⟨hf1, hf2⟩ := hs'
  have hri := c_rright14 n hf1 σ
  simp only [ngv, ngC] at hri
  simp -implicitDefEqProofs only [go_sem]
  refine vgo_call rfl rfl rfl rfl hri ?_
  cases hr : rightN n
  · simp -implicitDefEqProofs only [go_sem]
  have hg := good_of hf1 hr
  simp -implicitDefEqProofs only [go_sem, bv_length]
  cases hd : decide ((1400 : Int) < (p.d.length : Int))
  · have hd' : p.d.length ≤ 1400 := by simp only [decide_eq_false_iff_not] at hd; omega
    have htk := c_takeG hg p hp (by omega) σ
    simp -implicitDefEqProofs only [go_sem, hd, bv_length]
    have key : knownC n.r.ip p.code = false → takeW n p = bif decide (n.a.st < 2) then stayW n else (n, outV [rejP p n.a.id], telV []) := fun hk => by
      have e1 : decide (n.a.st ≤ 1) = decide (n.a.st < 2) := by rw [Bool.eq_iff_iff]; simp; omega
      unfold takeW
      rw [e1, hk]
      cases h2 : decide (n.a.st < 2)
      · have h2' : 2 ≤ n.a.st := by simp only [decide_eq_false_iff_not] at h2; omega
        simp only [cond_false, Bool.not_false, cond_true]
        exact code_ev hg h2' _ _
      · rfl
    have hrs := c_rsame' n n (.inl hps) (.inl hps) (by have := few_len hf1; unfold lim; omega) (by have := few_len hf2; unfold lim; omega) (fun o ho => by have := few_data hf1 o ho; unfold lim; omega) (fun o ho => by have := few_data hf2 o ho; unfold lim; omega) σ
    rw [sameN_self] at hrs
    have hn1 : ((n.a.st : Int) == n.a.st) = true := by simp
    have hb1 : ((p.code.toNat : Int) == (p.code.toNat : Int)) = true := by simp
    have e1 : (((1 : Nat) : Int) == 1) = true := rfl
    have e0 : (((0 : Nat) : Int) == 0) = true := rfl
    have e7 : (((UInt8.toNat 7 : Nat) : Int) == 7) = true := rfl
    have hlen : ((pkB p).take 1496).length = p.d.length + 4 := by rw [List.length_take, pkB_len]; omega
    have hw : IntKind.i64.wrap (4 + (p.d.length : Int)) = ((p.d.length + 4 : Nat) : Int) := by rw [IntKind.wrap_i64]; omega
    have hL : (((p.d.length + 4 : Nat) : Int) == ((p.d.length + 4 : Nat) : Int)) = true := by simp
    have h0 : (0 : Int) < ((p.d.length + 4 : Nat) : Int) := by omega
    have hh : (bv ((pkB p).take 1496)).getD 0 .undef = .int .u8 p.code.toNat := rfl
    cases c1 : decide ((1 : Int) ≤ (p.code.toNat : Int))
    · have hk : knownC n.r.ip p.code = false := by unfold knownC; rw [c1]; rfl
      rw [key hk] at htk
      simp -implicitDefEqProofs only [go_sem, c1]
      cases h2 : decide (n.a.st < 2)
      · rw [h2] at htk
        simp only [cond_false, rsV, ngv, ngC, outV, telV, pkv, pkC, hp, rejP, pkvs, zv64, List.map, List.isEmpty] at htk
        refine vgo_call rfl rfl rfl rfl htk ?_
        simp -implicitDefEqProofs only [go_sem, h2]
        refine w_walk2 [50] [0, 1, 2, 3, 4, 5, 6, 7, 8, 9, 10, 11, 12, 13, 14, 15, 16, 17, 18, 19, 20, 21, 22, 23, 24, 25, 26, 27, 28, 29, 30, 31, 32, 33, 34, 35, 36, 37, 38, 39, 40, 41, 42, 43, 44, 45, 46, 47, 48, 49, 50] [57, 58, 59, 60, 61, 62, 63, 64, 65, 66, 67, 68, 69, 70, 71, 72, 73, 74, 75, 76, 77, 78, 79, 80, 81, 82, 83, 84, 85, 86, 87, 88, 89, 90, 91, 92, 93, 94, 95, 96, 97, 98, 99, 100, 101, 102, 103, 104, 105, 106] [0, 1, 3, 7, 15, 3, 35, 99, 255, 511, 1023, 2047, 4095, 8191, 16383, 32767, 65535, 131071, 262143, 524287, 1048575, 2097151, 4194303, 8388607, 16777215, 33554431, 67108863, 134217727, 8388607, 276824063, 813694975, 1887436799, 4294967295, 8589934591, 17179869183, 34359738367, 68719476735, 137438953471, 274877906943, 549755813887, 1099511627775, 34359738367, 2233382993919, 8796093022207, 17592186044415, 35184372088831, 70368744177663, 140737488355327, 281474976710655, 562949953421311, 1125899906842623] rfl rfl rfl rfl ?_
        simp (maxSteps := 1000000) -implicitDefEqProofs only [go_sem, hn1, hb1, e1, e0, e7, hlen, hw, hL, hh, List.length, bv_length]
        exact ⟨by decide, by decide, by decide, h0⟩
      · rw [h2] at htk
        simp only [cond_true, rsV, stayW, ngv, ngC, nilV, pkv, pkC, hp] at htk
        refine vgo_call rfl rfl rfl rfl htk ?_
        simp -implicitDefEqProofs only [go_sem, h2]
        refine vgo_call rfl rfl rfl rfl hrs ?_
        simp -implicitDefEqProofs only [go_sem, e0]
    · simp -implicitDefEqProofs only [go_sem, c1]
      cases c2 : decide ((p.code.toNat : Int) ≤ 11)
      · have hk : knownC n.r.ip p.code = false := by
          have : ¬ (p.code.toNat : Int) ≤ 11 := by simpa using c2
          unfold knownC
          rw [c1]
          simp only [Bool.true_and, decide_eq_false_iff_not]
          cases n.r.ip
          · exact this
          · show ¬ (p.code.toNat : Int) ≤ 7
            omega
        rw [key hk] at htk
        simp -implicitDefEqProofs only [go_sem, c2]
        cases h2 : decide (n.a.st < 2)
        · rw [h2] at htk
          simp only [cond_false, rsV, ngv, ngC, outV, telV, pkv, pkC, hp, rejP, pkvs, zv64, List.map, List.isEmpty] at htk
          refine vgo_call rfl rfl rfl rfl htk ?_
          simp -implicitDefEqProofs only [go_sem, h2]
          refine w_walk2 [50] [0, 1, 2, 3, 4, 5, 6, 7, 8, 9, 10, 11, 12, 13, 14, 15, 16, 17, 18, 19, 20, 21, 22, 23, 24, 25, 26, 27, 28, 29, 30, 31, 32, 33, 34, 35, 36, 37, 38, 39, 40, 41, 42, 43, 44, 45, 46, 47, 48, 49, 50] [57, 58, 59, 60, 61, 62, 63, 64, 65, 66, 67, 68, 69, 70, 71, 72, 73, 74, 75, 76, 77, 78, 79, 80, 81, 82, 83, 84, 85, 86, 87, 88, 89, 90, 91, 92, 93, 94, 95, 96, 97, 98, 99, 100, 101, 102, 103, 104, 105, 106] [0, 1, 3, 7, 15, 3, 35, 99, 255, 511, 1023, 2047, 4095, 8191, 16383, 32767, 65535, 131071, 262143, 524287, 1048575, 2097151, 4194303, 8388607, 16777215, 33554431, 67108863, 134217727, 8388607, 276824063, 813694975, 1887436799, 4294967295, 8589934591, 17179869183, 34359738367, 68719476735, 137438953471, 274877906943, 549755813887, 1099511627775, 34359738367, 2233382993919, 8796093022207, 17592186044415, 35184372088831, 70368744177663, 140737488355327, 281474976710655, 562949953421311, 1125899906842623] rfl rfl rfl rfl ?_
          simp (maxSteps := 1000000) -implicitDefEqProofs only [go_sem, hn1, hb1, e1, e0, e7, hlen, hw, hL, hh, List.length, bv_length]
          exact ⟨by decide, by decide, by decide, h0⟩
        · rw [h2] at htk
          simp only [cond_true, rsV, stayW, ngv, ngC, nilV, pkv, pkC, hp] at htk
          refine vgo_call rfl rfl rfl rfl htk ?_
          simp -implicitDefEqProofs only [go_sem, h2]
          refine vgo_call rfl rfl rfl rfl hrs ?_
          simp -implicitDefEqProofs only [go_sem, e0]
      · simp -implicitDefEqProofs only [go_sem, c2]
  · simp -implicitDefEqProofs only [go_sem, hd]

end Go.VL

/- The law NegoEchoes, over values. Conditions: none. -/
namespace Go.VL
open Go.Proofs

/-- What an Echo-Request does. -/
theorem echo_take {n : NgV} (hg : Good n) (hi : n.r.ip = false) (p : PkV) (hc : p.code = 9) : takeW n p = bif (n.a.st == 9) && decide (4 ≤ p.d.length) then (n, outV [echoP n p], telV []) else bif decide (2 ≤ n.a.st) && decide (4 ≤ p.d.length) then (n, outV [], telV []) else stayW n := by
  have hk : knownC n.r.ip p.code = true := by rw [hi, hc]; rfl
  have hcw : codeW n p = echoW n p := by unfold codeW; rw [hc]; rfl
  unfold takeW
  rw [hk, hcw]
  unfold echoW
  cases h4 : decide (4 ≤ p.d.length)
  · simp
  · simp only [cond_true, Bool.and_true, Bool.not_true, cond_false]
    rcases Int.lt_or_le n.a.st 2 with h2 | h2
    · have e1 : decide (n.a.st ≤ 1) = true := by simp; omega
      have e2 : (n.a.st == 9) = false := by simp; omega
      have e3 : decide (2 ≤ n.a.st) = false := by simp; omega
      rw [e1, e2, e3]
      rfl
    · have e1 : decide (n.a.st ≤ 1) = false := by simp; omega
      have e3 : decide (2 ≤ n.a.st) = true := by simp; omega
      rw [e1, e3]
      simp only [cond_false, cond_true]
      have := echo_ev hg h2 p.id (echoP n p)
      unfold evW at this
      rw [this]
      by_cases h9 : n.a.st = 9
      · rw [if_pos h9, h9]
        rfl
      · have e2 : (n.a.st == 9) = false := by simp [h9]
        rw [if_neg h9, e2]
        rfl

set_option maxHeartbeats 4000000 in
set_option maxRecDepth 20000 in
theorem c_lechoes (n : NgV) (id : UInt8) (nl c : Bool) (d : List UInt8) (hps : n.ps = 2) (σ : St) : VCalls Tryd.prog 7 [ngv n, .int .u8 id.toNat, .sl nl c 1 (bv d)] σ fun r σ' => r = .bool true ∧ σ' = σ := by
  refine vcalls_intro (C := cfg Tryd.prog [] [] []) (cfg_ok mixed) Tryd.func7 rfl rfl rfl rfl rfl ?_
  have hsm := c_small14 n hps σ
  simp only [ngv, ngC] at hsm
  simp -implicitDefEqProofs only [go_sem, ngv, ngC]
  refine vgo_call rfl rfl rfl rfl (c_shown σ) ?_
  simp -implicitDefEqProofs only [go_sem]
  refine vgo_call rfl rfl rfl rfl hsm ?_
  cases hs : smallN n
  · simp -implicitDefEqProofs only [go_sem]
  have hs' := hs
  unfold smallN at hs'
  simp only [Bool.and_eq_true] at hs'
  obtain ⟨hf1, hf2⟩ := hs'
  have hri := c_rright14 n hf1 σ
  simp only [ngv, ngC] at hri
  simp -implicitDefEqProofs only [go_sem]
  refine vgo_call rfl rfl rfl rfl hri ?_
  cases hr : rightN n
  · simp -implicitDefEqProofs only [go_sem]
  have hg := good_of hf1 hr
  simp -implicitDefEqProofs only [go_sem]
  cases hi : n.r.ip
  · simp -implicitDefEqProofs only [go_sem, bv_length]
    cases hd : decide ((1000 : Int) < (d.length : Int))
    · have hd' : d.length ≤ 1000 := by simp only [decide_eq_false_iff_not] at hd; omega
      have htk := c_takeG hg ⟨9, id, nl, c, 1, d⟩ rfl (by show d.length ≤ 1496; omega) σ
      rw [echo_take hg hi ⟨9, id, nl, c, 1, d⟩ rfl] at htk
      have hrs := c_rsame' n n (.inl hps) (.inl hps) (by have := few_len hf1; unfold lim; omega) (by have := few_len hf2; unfold lim; omega) (fun o ho => by have := few_data hf1 o ho; unfold lim; omega) (fun o ho => by have := few_data hf2 o ho; unfold lim; omega) σ
      rw [sameN_self] at hrs
      have hmg := c_magic n hg.e σ
      simp only [ngv, ngC, hi] at hrs hmg
      have e1 : (((1 : Nat) : Int) == 1) = true := rfl
      have e0 : (((0 : Nat) : Int) == 0) = true := rfl
      have e4 : decide ((d.length : Int) < 4) = !decide (4 ≤ d.length) := by rw [Bool.eq_iff_iff]; simp; omega
      have t10 : (((UInt8.toNat 10 : Nat) : Int) == 10) = true := rfl
      have hid : (((id.toNat : Nat) : Int) == ((id.toNat : Nat) : Int)) = true := by simp
      simp only [ngv, ngC, hi, pkv, pkC] at htk
      simp -implicitDefEqProofs only [go_sem, hd, bv_length, e4]
      cases h9 : n.a.st == 9
      · rw [h9] at htk
        simp only [Bool.false_and, cond_false] at htk
        cases h2 : decide (2 ≤ n.a.st) && decide (4 ≤ d.length)
        · rw [h2] at htk
          simp only [cond_false, rsV, stayW, ngv, ngC, hi, nilV] at htk
          refine vgo_call rfl rfl rfl rfl htk ?_
          simp -implicitDefEqProofs only [go_sem, h9, e0, bne, Bool.not_false]
          refine vgo_call rfl rfl rfl rfl hrs ?_
          simp -implicitDefEqProofs only [go_sem, e0]
        · rw [h2] at htk
          simp only [cond_true, rsV, ngv, ngC, hi, outV, telV, pkvs, zv64, List.map, List.isEmpty] at htk
          refine vgo_call rfl rfl rfl rfl htk ?_
          simp -implicitDefEqProofs only [go_sem, h9, e0, bne, Bool.not_false]
          refine vgo_call rfl rfl rfl rfl hrs ?_
          simp -implicitDefEqProofs only [go_sem, e0]
      · rw [h9] at htk
        simp only [Bool.true_and, cond_true] at htk
        cases h4 : decide (4 ≤ d.length)
        · rw [h4] at htk
          simp only [Bool.and_false, cond_false, rsV, stayW, ngv, ngC, hi, nilV] at htk
          refine vgo_call rfl rfl rfl rfl htk ?_
          simp -implicitDefEqProofs only [go_sem, h9, e0, e4, h4, bv_length, bne, Bool.not_false, Bool.not_true]
          refine vgo_call rfl rfl rfl rfl hrs ?_
          simp -implicitDefEqProofs only [go_sem, e0]
        · have h4' : 4 ≤ d.length := of_decide_eq_true h4
          have hln : (fourB (magicN n) ++ d.drop 4).length = d.length := by rw [List.length_append, List.length_drop]; show 4 + _ = _; omega
          have hll : (((d.length : Nat) : Int) == ((d.length : Nat) : Int)) = true := by simp
          rw [h4] at htk
          simp only [cond_true, rsV, ngv, ngC, hi, outV, telV, pkvs, pkv, pkC, echoP, zv64, List.map, List.isEmpty] at htk
          refine vgo_call rfl rfl rfl rfl htk ?_
          simp -implicitDefEqProofs only [go_sem, h9, e0, e4, e1, h4, hln, hll, bv_length, List.length, bne, Bool.not_false, Bool.not_true]
          refine ⟨by decide, by decide, ?_⟩
          refine w_walk2 [36] [0, 1, 2, 3, 4, 5, 6, 7, 8, 9, 10, 11, 12, 13, 14, 15, 16, 17, 18, 19, 20, 21, 22, 23, 24, 25, 26, 27, 28, 29, 30, 31, 32, 33, 34, 35, 36] [77, 78, 79, 80, 81, 82, 83, 84, 85, 86, 87, 88, 89, 90, 91, 92, 93, 94, 95, 96, 97, 98, 99, 100, 101, 102, 103, 104, 105, 106, 107, 108, 109, 110, 111, 112] [0, 1, 3, 7, 15, 31, 63, 127, 255, 127, 1023, 2047, 4095, 8191, 16383, 32767, 65535, 8191, 262143, 524287, 1048575, 2097151, 4194303, 8388607, 16777215, 33554431, 4194303, 71303167, 205520895, 536870911, 1073741823, 2147483647, 4294967295, 4294967295, 17179869183, 34359738367, 68719476735] rfl rfl rfl rfl ?_
          simp (maxSteps := 1000000) -implicitDefEqProofs only [go_sem, t10, hid, hln, bv_length]
          have hrn := c_rnumber' false false (fourB (magicN n)) (by show (4 : Nat) ≤ lim; decide) σ
          rw [numU_fourB] at hrn
          have htk4 : (((bv (fourB (magicN n) ++ d.drop 4)).take (4 : Int).toNat).drop (0 : Int).toNat) = bv (fourB (magicN n)) := rfl
          refine ⟨by omega, by omega, ?_⟩
          refine vdgo_call rfl rfl rfl rfl hrn ?_
          simp (maxSteps := 1000000) -implicitDefEqProofs only [go_sem]
          refine vdgo_call rfl rfl rfl rfl hmg ?_
          simp (maxSteps := 1000000) -implicitDefEqProofs only [go_sem]
          have hdd : List.drop 4 (List.take (bv d).length (bv d)) = List.map (fun b => V.int IntKind.u8 ↑b.toNat) (d.drop 4) := by
            rw [List.take_length]
            unfold bv
            rw [List.map_drop]
          have hdf : List.drop 4 (List.take (bv (fourB (magicN n) ++ d.drop 4)).length (bv (fourB (magicN n) ++ d.drop 4))) = List.map (fun b => V.int IntKind.u8 ↑b.toNat) (d.drop 4) := by
            rw [List.take_length]
            rfl
          refine ⟨by rw [bv_length, hln]; omega, Nat.le_refl _, d.drop 4, hdf, by rw [bv_length]; omega, Nat.le_refl _, d.drop 4, hdd, ?_⟩
          have hse : strEq { data := (List.drop 4 d).toArray } { data := (List.drop 4 d).toArray } = true := by unfold strEq; simp
          simp (maxSteps := 1000000) -implicitDefEqProofs only [go_sem, hse]
          refine vdgo_call rfl rfl rfl rfl hrs ?_
          simp (maxSteps := 1000000) -implicitDefEqProofs only [go_sem, hse]
    · simp -implicitDefEqProofs only [go_sem, hd]
  · simp -implicitDefEqProofs only [go_sem]

end Go.VL

/- The laws' arguments, as values; what the listed package variables hold. Conditions: none. -/
namespace Go.VL
open Go.Proofs

def shBytes : Sh := .sl (.int .u8)
def shOpt : Sh := .st (.pair (.int .u8) (.pair shBytes .nil))
def shOpts : Sh := .sl shOpt
def shU32 : Sh := .int .u32
def shI64 : Sh := .int .i64
def shU8 : Sh := .int .u8
def shRule : Sh := .st (.pair .bool (.pair shU32 (.pair shU32 (.pair shU32 (.pair shU32 .nil)))))
def shAuto : Sh := .st (.pair shI64 (.pair shI64 (.pair shI64 (.pair shU8 .nil))))
def shNego : Sh := .st (.pair shAuto (.pair shRule (.pair shOpts (.pair shI64 (.pair shOpts .nil)))))
def shPkt : Sh := .st (.pair shU8 (.pair shU8 (.pair shBytes .nil)))

theorem wf_u8 {n : Int} (h : (Lit.int .u8 n).wf = true) : ∃ b : UInt8, n = (b.toNat : Int) := by
  have h' : 0 ≤ n ∧ n ≤ 255 := by simpa [Lit.wf, IntKind.min, IntKind.max, IntKind.signed, IntKind.bits] using h
  refine ⟨UInt8.ofNat n.toNat, ?_⟩
  simp
  omega
theorem wf_u32 {n : Int} (h : (Lit.int .u32 n).wf = true) : ∃ b : UInt32, n = (b.toNat : Int) := by
  have h' : 0 ≤ n ∧ n ≤ 4294967295 := by simpa [Lit.wf, IntKind.min, IntKind.max, IntKind.signed, IntKind.bits] using h
  refine ⟨UInt32.ofNat n.toNat, ?_⟩
  simp
  omega

theorem bytes_of {cs : List V} (h : shV shBytes cs) : ∃ nl l, cs = [.sl nl false 1 (bv l)] := by
  rcases h with rfl | ⟨es, rfl, _, h⟩
  · exact ⟨true, [], rfl⟩
  · have key : ∀ es : List V, (∀ x ∈ es, isAggV x = false ∧ shV (.int .u8) x.cells) → ∃ l, es = bv l := by
      intro es
      induction es with
      | nil => exact fun _ => ⟨[], rfl⟩
      | cons x es ih =>
        intro h
        obtain ⟨l, rfl⟩ := ih fun y hy => h y (by simp [hy])
        obtain ⟨h1, n, h2, h3⟩ := h x (by simp)
        obtain ⟨b, rfl⟩ := wf_u8 h3
        refine ⟨b :: l, ?_⟩
        cases x with
        | agg cs => simp [isAggV] at h1
        | _ => simp only [V.cells, List.cons.injEq, and_true] at h2; rw [h2]; rfl
    obtain ⟨l, rfl⟩ := key es h
    exact ⟨false, l, rfl⟩

theorem opt_of {cs : List V} (h : shV shOpt cs) : ∃ o, V.agg cs = ov o := by
  obtain ⟨x, y, rfl, ⟨n, rfl, h1⟩, z, w, rfl, h2, rfl⟩ := h
  obtain ⟨b, rfl⟩ := wf_u8 h1
  obtain ⟨nl, l, rfl⟩ := bytes_of h2
  exact ⟨⟨b, nl, false, l⟩, rfl⟩

theorem opts_of {cs : List V} (h : shV shOpts cs) : ∃ nl l, cs = [.sl nl false 2 (osv l)] := by
  rcases h with rfl | ⟨es, rfl, _, h⟩
  · exact ⟨true, [], rfl⟩
  · have key : ∀ es : List V, (∀ x ∈ es, isAggV x = true ∧ shV shOpt x.cells) → ∃ l, es = osv l := by
      intro es
      induction es with
      | nil => exact fun _ => ⟨[], rfl⟩
      | cons x es ih =>
        intro h
        obtain ⟨l, rfl⟩ := ih fun y hy => h y (by simp [hy])
        obtain ⟨h1, h2⟩ := h x (by simp)
        cases x with
        | agg cs =>
          obtain ⟨o, ho⟩ := opt_of h2
          exact ⟨o :: l, by simp only [osv, List.map_cons]; rw [← ho]; rfl⟩
        | _ => simp [isAggV] at h1
    obtain ⟨l, rfl⟩ := key es h
    exact ⟨false, l, rfl⟩

theorem rule_of {cs : List V} (h : shV shRule cs) : ∃ r, cs = rvC r := by
  obtain ⟨x, y, rfl, ⟨ip, rfl⟩, x, y, rfl, ⟨n1, rfl, h1⟩, x, y, rfl, ⟨n2, rfl, h2⟩, x, y, rfl, ⟨n3, rfl, h3⟩, x, y, rfl, ⟨n4, rfl, h4⟩, rfl⟩ := h
  obtain ⟨a1, rfl⟩ := wf_u32 h1
  obtain ⟨a2, rfl⟩ := wf_u32 h2
  obtain ⟨a3, rfl⟩ := wf_u32 h3
  obtain ⟨a4, rfl⟩ := wf_u32 h4
  exact ⟨⟨ip, a1, a2, a3, a4⟩, rfl⟩
theorem auto_of {cs : List V} (h : shV shAuto cs) : ∃ a, cs = auC a := by
  obtain ⟨x, y, rfl, ⟨n1, rfl, _⟩, x, y, rfl, ⟨n2, rfl, _⟩, x, y, rfl, ⟨n3, rfl, _⟩, x, y, rfl, ⟨n4, rfl, h4⟩, rfl⟩ := h
  obtain ⟨a4, rfl⟩ := wf_u8 h4
  exact ⟨⟨n1, n2, n3, a4⟩, rfl⟩
theorem nego_of {cs : List V} (h : shV shNego cs) : ∃ n, V.agg cs = ngv n ∧ n.ps = 2 := by
  obtain ⟨x, y, rfl, h1, x, y, rfl, h2, x, y, rfl, h3, x, y, rfl, ⟨k, rfl, _⟩, x, y, rfl, h5, rfl⟩ := h
  obtain ⟨a, rfl⟩ := auto_of h1
  obtain ⟨r, rfl⟩ := rule_of h2
  obtain ⟨on, ours, rfl⟩ := opts_of h3
  obtain ⟨pn, peer, rfl⟩ := opts_of h5
  exact ⟨⟨a, r, ours, on, false, k, peer, pn, false, 2⟩, rfl, rfl⟩
theorem pkt_of {cs : List V} (h : shV shPkt cs) : ∃ p, V.agg cs = pkv p ∧ p.sz = 1 := by
  obtain ⟨x, y, rfl, ⟨n1, rfl, h1⟩, x, y, rfl, ⟨n2, rfl, h2⟩, x, y, rfl, h3, rfl⟩ := h
  obtain ⟨a1, rfl⟩ := wf_u8 h1
  obtain ⟨a2, rfl⟩ := wf_u8 h2
  obtain ⟨nl, l, rfl⟩ := bytes_of h3
  exact ⟨⟨a1, a2, nl, false, 1, l⟩, rfl, rfl⟩

section
open Go.ChangeShapes Go.WideShapes Go.Deep Go.RowKit
variable {H : Type} {enc : TypeId × Value → H} {P : Program}
/-- A law's call, out of what is shown of it over values, where the package variables that it looks at hold what they are laid with. -/
theorem law_calls_g {f : FuncId} {ss : List Sh} {ts : List TypeId} (hs : shTs P ss ts = true) (hc : ∀ vs, argsV ss vs → VCalls P f vs [] fun r _ => r = .bool true) {W : World} (hg : GLO (Bad (fun _ => False) []) W) {base : Nat} {args : Array Value} {ds : List (DataW H)} {p : List MemPlace}
    (hv : ∀ (j : Nat) t v, ts[j]? = some t → args.toList[j]? = some v → Value.okWide P W .any base t v) (h : DataW.TrodAll enc P W 0 (fun _ => true) true ts args.toList ds p) (hsz : (DataW.weightsEach P (ts ++ []) (ds ++ [])).all (· ≤ reachBytes) = true) :
    Calls P f args W fun e W' => e = .returned (.bool true) ∧ Below W.heap.size W W' := by
  rw [List.append_nil, List.append_nil] at hsz
  obtain ⟨vs, h1, h2⟩ := args_of hs hv h hsz
  have hR : Rel (fun _ => False) [] [] W := ⟨rfl, fun i j b c d h => (by simp at h), fun i b c h => (by simp at h), fun b h => h.elim, fun i o bm h => (by simp at h), hg⟩
  have := (hc vs h1).2 _ [] W args.toList hR h2
  rw [Array.toArray_toList] at this
  refine this.mono fun e W' ⟨r, u, m', σ', h3, h4, h5, h6, h7⟩ => ?_
  subst h7
  rw [h3, h4.bool_inv]
  exact ⟨rfl, h6.below⟩
end
end Go.VL
namespace Go.Proofs.YtonjofnphkghcaaDoor
open Go.VL Go.ChangeShapes Go.WideShapes Go.RowKit

theorem own : ownKnob Tryd.prog.godebug = none := by kernel_rfl
theorem laidOut : laidOutB Tryd.prog = true := by kernel_rfl

def laidL : List (String × DataW Unit) := [("unicode.White_Space", Rows.laid_unicode_White_Space), ("strings.asciiSpace", Rows.laid_strings_asciiSpace)]
def spaceZ : List Int := (List.range 256).map fun i => bif (Nat.ble 9 i && Nat.ble i 13) || Nat.beq i 32 then 1 else 0
theorem space_data : (Rows.laid_strings_asciiSpace : DataW Unit) = .agg (spaceZ.map fun n => .lit (.int .u8 n)) := by kernel_rfl
theorem space_cell {W : World} (h : laidMetH Tryd.prog laidL W) (r : Nat) (hr : r < 256) : W.cell? ⟨0, r, none⟩ = some (.int .u8 (spaceZ.getD r 0)) := by
  rw [MakeChecks.laidMetH_plain _ _ _ (by kernel_rfl)] at h
  obtain ⟨ps, ⟨_, _, _, _, _, _, _, _, _, _, h2, _⟩, _, _⟩ := h
  obtain ⟨g, t, cs, fuel, p, q, hg, ht, hv, hd, _, _⟩ := h2
  obtain rfl := Option.some.inj ((show Tryd.prog.globalNamed "strings.asciiSpace" = some 0 by kernel_rfl).symm.trans hg)
  obtain rfl := Option.some.inj ((show (Tryd.prog.globals[0]?).map (·.type) = some 138 by kernel_rfl).symm.trans ht)
  rw [space_data] at hd
  obtain ⟨xs, m, _, ex, _, hl, hel⟩ := DataW.trod_array Tryd.underlying138 hd
  have c5 : Tryd.prog.cellsOf 5 = 1 := by kernel_rfl
  have hE := hel r hr
  rw [c5, Nat.mul_one, List.getElem?_eq_getElem (by omega)] at hE
  obtain ⟨z, e1, e2, _⟩ := DataW.trod_int Tryd.underlying5 hE
  have hlen : spaceZ.length = 256 := by kernel_rfl
  have e3 : (xs.map (·.1)) = spaceZ.map fun n => .lit (.int .u8 n) := (DataW.agg.inj (Prod.mk.inj ex).1).symm
  have e4 : (xs.map (·.1))[r]? = (spaceZ.map fun n => (DataW.lit (.int .u8 n) : DataW Unit))[r]? := by rw [e3]
  rw [List.getElem?_map, List.getElem?_map, List.getElem?_eq_getElem (by omega : r < xs.length), List.getElem?_eq_getElem (by omega : r < spaceZ.length), e2] at e4
  have hz : z = spaceZ.getD r 0 := by
    simp only [Option.map_some, Option.some.injEq, DataW.lit.injEq, Lit.int.injEq, true_and] at e4
    rw [e4, List.getD, List.getElem?_eq_getElem (by omega : r < spaceZ.length)]; rfl
  rw [World.var?_cell hg hv r, ← hz]
  have : cs.toList[r]? = some (.int .u8 z) := by
    have h0 : ((cs.toList.drop r).take 1)[0]? = some (.int .u8 z) := by rw [e1]; rfl
    simpa using h0
  simpa using this
theorem globs_space : globs 0 = some (spaceZ.map fun n => .int .u8 n) := by
  unfold spaceZ
  rw [List.map_map]
  show some _ = some _
  congr 1
theorem glo_of {W : World} (h : laidMetH Tryd.prog laidL W) : GLO (Bad (fun _ => False) []) W := by
  intro g cs hg
  match g, hg with
  | 0, hg =>
    rw [globs_space] at hg
    obtain rfl := Option.some.inj hg
    have hlen : spaceZ.length = 256 := by kernel_rfl
    have hB : ∀ b, ¬ Bad (fun _ => False) ([] : Mp) b := by
      rintro b (h | ⟨i, c, h⟩)
      · exact h
      · simp at h
    have h0 := space_cell h 0 (by decide)
    refine .ip _ ⟨0, 0, none⟩ (fun j => .int .u8 (spaceZ.getD j 0)) (fun _ => hB _) (fun _ => ?_) (fun j hj => ?_) fun r v hr => ?_
    · unfold World.cell? at h0
      cases hh : W.heap[0]? with
      | none => simp [hh] at h0
      | some o => exact (Array.getElem?_eq_some_iff.1 hh).1
    · rw [List.length_map, hlen] at hj
      have := space_cell h j hj
      have e : (⟨0, 0, none⟩ : Addr).add j = ⟨0, j, none⟩ := by
        by_cases hz : j = 0
        · subst hz; rfl
        · simp [Addr.add, hz]
      rw [e]
      exact this
    · rw [List.getElem?_map] at hr
      cases hq : spaceZ[r]? with
      | none => rw [hq] at hr; cases hr
      | some z =>
        rw [hq] at hr
        obtain rfl := Option.some.inj hr
        rw [List.getD, hq]
        exact .int _ _
  | g + 1, hg => cases hg

end Go.Proofs.YtonjofnphkghcaaDoor
