/- LinkSays: at every link and every packet the law answers true, and leaves its arguments as they were. Conditions: none. -/
import Derived.Test.YtonjofnphkghcaaGreatDoorSSn
import Derived.Test.YtonjofnphkghcaaGreatDoorSSa
import Derived.Test.YtonjofnphkghcaaGreatDoorSSm
import Derived.Test.YtonjofnphkghcaaGreatDoorSSx
set_option linter.unusedVariables false
set_option linter.unusedSimpArgs false
/- Check sequences, told in two ways, in plain Lean. Conditions: none. -/
namespace Go.VL
open Go.Proofs

theorem wrap_u16' {n : Int} (h : 0 ≤ n) (h2 : n ≤ 65535) : IntKind.u16.wrap n = n := by
  unfold IntKind.wrap
  simp [IntKind.bits, IntKind.signed]
  omega
theorem ofInt_nat (w n : Nat) : BitVec.ofInt w (n : Int) = BitVec.ofNat w n := by simp
theorem ibits_xor_u16 (a b : Nat) (ha : a < 65536) (hb : b < 65536) : ibits .xor .u16 a b = ((a ^^^ b : Nat) : Int) := by
  show IntKind.u16.wrap (((BitVec.ofInt 16 (a : Int)) ^^^ (BitVec.ofInt 16 (b : Int))).toNat : Int) = _
  rw [ofInt_nat, ofInt_nat]
  have h3 : (BitVec.ofNat 16 a ^^^ BitVec.ofNat 16 b).toNat = a ^^^ b := by
    rw [BitVec.toNat_xor, BitVec.toNat_ofNat, BitVec.toNat_ofNat, Nat.mod_eq_of_lt (by simpa using ha), Nat.mod_eq_of_lt (by simpa using hb)]
  rw [h3]
  have h4 : a ^^^ b < 2 ^ 16 := Nat.xor_lt_two_pow (by simpa using ha) (by simpa using hb)
  have h5 : a ^^^ b < 65536 := by simpa using h4
  exact wrap_u16' (by omega) (by omega)
theorem ibits_xor_i64 (a b : Nat) (ha : a < 65536) (hb : b < 65536) : ibits .xor .i64 a b = ((a ^^^ b : Nat) : Int) := by
  show IntKind.i64.wrap (((BitVec.ofInt 64 (a : Int)) ^^^ (BitVec.ofInt 64 (b : Int))).toNat : Int) = _
  rw [ofInt_nat, ofInt_nat]
  have h3 : (BitVec.ofNat 64 a ^^^ BitVec.ofNat 64 b).toNat = a ^^^ b := by
    rw [BitVec.toNat_xor, BitVec.toNat_ofNat, BitVec.toNat_ofNat, Nat.mod_eq_of_lt (by omega), Nat.mod_eq_of_lt (by omega)]
  rw [h3]
  have h4 : a ^^^ b < 2 ^ 16 := Nat.xor_lt_two_pow (by simpa using ha) (by simpa using hb)
  have h5 : a ^^^ b < 65536 := by simpa using h4
  exact wrap_ok (by omega) (by omega)
theorem ibits_and_u16 (a b : Nat) (ha : a < 65536) (hb : b < 65536) : ibits .and .u16 a b = ((a &&& b : Nat) : Int) := by
  show IntKind.u16.wrap (((BitVec.ofInt 16 (a : Int)) &&& (BitVec.ofInt 16 (b : Int))).toNat : Int) = _
  rw [ofInt_nat, ofInt_nat]
  have h3 : (BitVec.ofNat 16 a &&& BitVec.ofNat 16 b).toNat = a &&& b := by
    rw [BitVec.toNat_and, BitVec.toNat_ofNat, BitVec.toNat_ofNat, Nat.mod_eq_of_lt (by simpa using ha), Nat.mod_eq_of_lt (by simpa using hb)]
  rw [h3]
  have h4 : a &&& b ≤ a := Nat.and_le_left
  exact wrap_u16' (by omega) (by omega)
def stepN (n : Nat) : Nat := if n % 2 = 1 then (n / 2) ^^^ 33800 else n / 2
theorem stepN_lt {n : Nat} (h : n < 65536) : stepN n < 65536 := by
  unfold stepN
  split
  · have h4 : (n / 2) ^^^ 33800 < 2 ^ 16 := Nat.xor_lt_two_pow (by omega) (by decide)
    simpa using h4
  · omega
theorem stepF_nat {n : Nat} (h : n < 65536) : stepF (n : Int) = (stepN n : Int) := by
  unfold stepF stepN
  have e1 : ibits .and .u16 (n : Int) 1 = ((n % 2 : Nat) : Int) := by
    have := ibits_and_u16 n 1 h (by omega)
    rw [Nat.and_one_is_mod] at this
    exact this
  have e2 : (n : Int).fdiv (2 ^ 1) = ((n / 2 : Nat) : Int) := by
    rw [Int.fdiv_eq_ediv_of_nonneg _ (by decide)]
    rfl
  rw [e1, e2]
  rcases Nat.mod_two_eq_zero_or_one n with h0 | h1
  · rw [h0, if_neg (by omega)]
    have e3 : ibits .and .u16 33800 (IntKind.u16.wrap (0 - ((0 : Nat) : Int))) = ((0 : Nat) : Int) := by decide +kernel
    rw [e3, ibits_xor_u16 _ _ (by omega) (by omega), Nat.xor_zero]
  · rw [h1, if_pos rfl]
    have e3 : ibits .and .u16 33800 (IntKind.u16.wrap (0 - ((1 : Nat) : Int))) = ((33800 : Nat) : Int) := by decide +kernel
    rw [e3, ibits_xor_u16 _ _ (by omega) (by omega)]
def iterN : Nat → Nat → Nat
  | 0, n => n
  | i + 1, n => stepN (iterN i n)
theorem iterN_lt {n : Nat} (h : n < 65536) : ∀ i, iterN i n < 65536
  | 0 => h
  | i + 1 => stepN_lt (iterN_lt h i)
theorem iterF_nat {n : Nat} (h : n < 65536) : ∀ i, iterF i (n : Int) = (iterN i n : Int)
  | 0 => rfl
  | i + 1 => by
    show stepF (iterF i (n : Int)) = _
    rw [iterF_nat h i, stepF_nat (iterN_lt h i)]
    rfl
def byteN (m : Nat) (b : UInt8) : Nat := iterN 8 (m ^^^ b.toNat)
theorem mix_lt {m : Nat} (h : m < 65536) (b : UInt8) : m ^^^ b.toNat < 65536 := by
  have hb := b.toNat_lt
  have h4 : m ^^^ b.toNat < 2 ^ 16 := Nat.xor_lt_two_pow (by simpa using h) (by omega)
  simpa using h4
theorem byteN_lt {m : Nat} (h : m < 65536) (b : UInt8) : byteN m b < 65536 := iterN_lt (mix_lt h b) 8
theorem stepZ_nat {m : Nat} (h : m < 65536) (b : UInt8) : stepZ (m : Int) b = (byteN m b : Int) := by
  unfold stepZ
  have hb := b.toNat_lt
  rw [wrap_u16' (by omega) (by omega), ibits_xor_u16 _ _ h (by omega), iterF_nat (mix_lt h b)]
  rfl
def onN (m : Nat) (l : List UInt8) : Nat := l.foldl byteN m
theorem onN_lt : ∀ (l : List UInt8) {m : Nat}, m < 65536 → onN m l < 65536
  | [], _, h => h
  | b :: l, _, h => onN_lt l (byteN_lt h b)
theorem onZ_nat : ∀ (l : List UInt8) {m : Nat}, m < 65536 → onZ (m : Int) l = (onN m l : Int)
  | [], _, _ => rfl
  | b :: l, m, h => by
    show onZ (stepZ (m : Int) b) l = _
    rw [stepZ_nat h b, onZ_nat l (byteN_lt h b)]
    rfl
/-- The sum that is sent. -/
def sumN (l : List UInt8) : Nat := 65535 - onN 65535 l
theorem xor_ones {x : Nat} (h : x < 65536) : 65535 ^^^ x = 65535 - x := by
  have h1 : (BitVec.allOnes 16 ^^^ BitVec.ofNat 16 x).toNat = 65535 ^^^ x := by
    rw [BitVec.toNat_xor, BitVec.toNat_ofNat, Nat.mod_eq_of_lt (by simpa using h)]
    rfl
  rw [← h1, BitVec.allOnes_xor, BitVec.toNat_not, BitVec.toNat_ofNat, Nat.mod_eq_of_lt (by simpa using h)]
theorem sumZ_nat (l : List UInt8) : sumZ l = (sumN l : Int) := by
  unfold sumZ sumN
  have h := onN_lt l (m := 65535) (by omega)
  have e := onZ_nat l (m := 65535) (by omega)
  rw [show onZ 65535 l = onZ ((65535 : Nat) : Int) l from rfl, e]
  show ibits .xor .u16 ((65535 : Nat) : Int) (onN 65535 l : Int) = _
  rw [ibits_xor_u16 _ _ (by omega) h, xor_ones h]
theorem u8Z_of (n : Nat) : u8Z (n : Int) = UInt8.ofNat n := by
  apply UInt8.toNat_inj.1
  have h := u8Z_nat (n : Int)
  have hw : IntKind.u8.wrap (n : Int) = ((n % 256 : Nat) : Int) := by
    unfold IntKind.wrap
    simp [IntKind.bits, IntKind.signed]
  rw [hw] at h
  have e : (UInt8.ofNat n).toNat = n % 256 := by simp
  rw [e]
  omega
theorem putB_nat (l : List UInt8) : putB l = l ++ [UInt8.ofNat (sumN l), UInt8.ofNat (sumN l / 256)] := by
  unfold putB
  rw [sumZ_nat, u8Z_of]
  have e2 : (sumN l : Int).fdiv (2 ^ 8) = ((sumN l / 256 : Nat) : Int) := by
    rw [Int.fdiv_eq_ediv_of_nonneg _ (by decide)]
    rfl
  rw [e2, u8Z_of]

end Go.VL

/- Contracts of this program's functions: the document's check sequences. Conditions: none. -/
namespace Go.VL
open Go.Proofs

theorem wrap_i64n {n : Nat} (h : n < 1000000000) : IntKind.i64.wrap (n : Int) = (n : Int) := wrap_ok (by omega) (by omega)
theorem tmod2 (n : Nat) : (n : Int).tmod 2 = ((n % 2 : Nat) : Int) := by rw [Int.tmod_eq_emod_of_nonneg (by omega)]; rfl
theorem tdiv2 (n : Nat) : (n : Int).tdiv 2 = ((n / 2 : Nat) : Int) := by rw [Int.tdiv_eq_ediv_of_nonneg (by omega)]; rfl
set_option maxRecDepth 20000 in
theorem c_r01step (m : Nat) (hm : m < 65536) (b : UInt8) (σ : St) : VCalls Tryz.prog 244 [.int .u16 m, .int .u8 b.toNat] σ fun r σ' => r = .int .u16 (byteN m b) ∧ σ' = σ := by
  refine vcalls_intro (C := cfg Tryz.prog [] [] []) (cfg_ok mixed) Tryz.func244 rfl rfl rfl rfl rfl ?_
  have hb := b.toNat_lt
  have w1 : IntKind.i64.wrap (m : Int) = (m : Int) := wrap_i64n (by omega)
  have w2 : IntKind.i64.wrap (b.toNat : Int) = (b.toNat : Int) := wrap_i64n (by omega)
  have hx : ibits .xor .i64 (m : Int) (b.toNat : Int) = ((m ^^^ b.toNat : Nat) : Int) := ibits_xor_i64 _ _ hm (by omega)
  have hxl := mix_lt hm b
  unfold byteN
  generalize m ^^^ b.toNat = X at *
  simp (maxSteps := 1000000) -implicitDefEqProofs only [go_sem, w1, w2, hx]
  refine w_loopL (fun i => i ≤ 8) (fun i => [(6, .int .i64 (i : Nat)), (5, .int .i64 (iterN i X : Nat))]) (fun _ => σ) (fun i => 8 - i) 0 (Nat.zero_le _) ?_ rfl ?_
  · simp -implicitDefEqProofs only [go_sem]
    exact ⟨rfl, rfl⟩
  intro i hi L hnext hleave
  have hxi := iterN_lt hxl i
  have hxs := iterN_lt hxl (i + 1)
  have hsn : iterN (i + 1) X = stepN (iterN i X) := rfl
  rcases Nat.lt_or_ge i 8 with h | h
  · have hw1 : IntKind.i64.wrap ((i : Int) + 1) = ((i + 1 : Nat) : Int) := wrap_ok (by omega) (by omega)
    have hd : decide ((i : Int) < 8) = true := by rw [decide_eq_true_iff]; omega
    have next := hnext (i + 1)
    rw [hsn] at next
    generalize iterN i X = Y at *
    have y1 := tmod2 Y
    have y2 := tdiv2 Y
    have y3 : IntKind.i64.wrap ((Y / 2 : Nat) : Int) = ((Y / 2 : Nat) : Int) := wrap_i64n (by omega)
    have y4 : IntKind.i64.wrap ((Y % 2 : Nat) : Int) = ((Y % 2 : Nat) : Int) := wrap_i64n (by omega)
    have y5 : ibits .xor .i64 ((Y / 2 : Nat) : Int) 33800 = ((Y / 2 ^^^ 33800 : Nat) : Int) := ibits_xor_i64 (Y / 2) 33800 (by omega) (by omega)
    simp (maxSteps := 1000000) -implicitDefEqProofs only [go_sem, hd, y1, y2, y3, y4]
    rcases Nat.mod_two_eq_zero_or_one Y with h0 | h1
    · have y6 : stepN Y = Y / 2 := by unfold stepN; rw [if_neg (by omega)]
      have q : (((Y % 2 : Nat) : Int) == 1) = false := by rw [h0]; rfl
      rw [y6] at next
      simp (maxSteps := 1000000) -implicitDefEqProofs only [go_sem, q]
      refine next _ _ (by omega) (by omega) ?_ rfl
      simp (maxSteps := 1000000) -implicitDefEqProofs only [go_sem, hw1]
    · have y6 : stepN Y = Y / 2 ^^^ 33800 := by unfold stepN; rw [if_pos h1]
      have q : (((Y % 2 : Nat) : Int) == 1) = true := by rw [h1]; rfl
      rw [y6] at next
      simp (maxSteps := 1000000) -implicitDefEqProofs only [go_sem, q, y5]
      refine next _ _ (by omega) (by omega) ?_ rfl
      simp (maxSteps := 1000000) -implicitDefEqProofs only [go_sem, hw1]
  · have hd : decide ((i : Int) < 8) = false := by rw [decide_eq_false_iff_not]; omega
    have h8 : i = 8 := by omega
    have hw : IntKind.u16.wrap (iterN i X : Int) = (iterN i X : Int) := wrap_u16' (by omega) (by omega)
    simp (maxSteps := 1000000) -implicitDefEqProofs only [go_sem, hd]
    refine hleave _ _ _ (fun h => by cases h) ?_
    simp (maxSteps := 1000000) -implicitDefEqProofs only [go_sem, hw]
    rw [h8]

theorem onN_snoc (m : Nat) {l : List UInt8} {i : Nat} (h : i < l.length) : onN m (l.take (i + 1)) = byteN (onN m (l.take i)) l[i] := by
  unfold onN
  rw [List.take_succ_eq_append_getElem h, List.foldl_append]
  rfl
set_option maxRecDepth 20000 in
theorem c_r01on (m : Nat) (hm : m < 65536) (nl c : Bool) (l : List UInt8) (hl : l.length ≤ lim) (σ : St) : VCalls Tryz.prog 234 [.int .u16 m, .sl nl c 1 (bv l)] σ fun r σ' => r = .int .u16 (onN m l) ∧ σ' = σ := by
  refine vcalls_intro (C := cfg Tryz.prog [] [] []) (cfg_ok mixed) Tryz.func234 rfl rfl rfl rfl rfl ?_
  unfold lim at hl
  simp (maxSteps := 1000000) -implicitDefEqProofs only [go_sem, bv_length]
  refine w_loopL (fun i => i ≤ l.length) (fun i => [(5, .int .i64 i), (1, .sl nl c 1 (bv l)), (0, .int .u16 (onN m (l.take i) : Nat))]) (fun _ => σ) (fun i => l.length - i) 0 (Nat.zero_le _) ?_ rfl ?_
  · simp -implicitDefEqProofs only [go_sem]
    repeat' apply And.intro
    all_goals rfl
  intro i hi L hnext hleave
  rcases Nat.lt_or_ge i l.length with h | h
  · have hw1 : IntKind.i64.wrap ((i : Int) + 1) = ((i + 1 : Nat) : Int) := wrap_ok (by omega) (by omega)
    have ho := onN_snoc m h
    simp (maxSteps := 1000000) -implicitDefEqProofs only [go_sem, bv_length, bv_getD h, h]
    refine vgo_call rfl rfl rfl rfl (c_r01step _ (onN_lt _ hm) _ _) ?_
    simp (maxSteps := 1000000) -implicitDefEqProofs only [go_sem]
    refine hnext (i + 1) _ _ h (by show l.length - (i + 1) < l.length - i; omega) ?_ rfl
    rw [ho]
    simp (maxSteps := 1000000) -implicitDefEqProofs only [go_sem, hw1]
  · have hn : ¬ (i < l.length) := by omega
    simp (maxSteps := 1000000) -implicitDefEqProofs only [go_sem, bv_length, hn]
    refine hleave _ _ _ (fun h => by cases h) ?_
    rw [List.take_of_length_le h]
    simp (maxSteps := 1000000) -implicitDefEqProofs only [go_sem]
theorem bv_app' (a b : List UInt8) : bv (a ++ b) = bv a ++ bv b := by unfold bv; rw [List.map_append]
theorem tmod256 (n : Nat) : (n : Int).tmod 256 = ((n % 256 : Nat) : Int) := by rw [Int.tmod_eq_emod_of_nonneg (by omega)]; rfl
theorem tdiv256 (n : Nat) : (n : Int).tdiv 256 = ((n / 256 : Nat) : Int) := by rw [Int.tdiv_eq_ediv_of_nonneg (by omega)]; rfl
theorem u8_wrap (n : Nat) : IntKind.u8.wrap (n : Int) = ((UInt8.ofNat n).toNat : Int) := by
  unfold IntKind.wrap
  simp [IntKind.bits, IntKind.signed]
set_option maxRecDepth 20000 in
theorem c_r01put (nl c : Bool) (l : List UInt8) (hl : l.length ≤ 100000) (σ : St) : VCalls Tryz.prog 205 [.sl nl c 1 (bv l)] σ fun r σ' => r = .sl false false 1 (bv (putB l)) ∧ σ' = σ := by
  refine vcalls_intro (C := cfg Tryz.prog [] [] [18]) (cfg_ok mixed) Tryz.func205 rfl rfl rfl rfl rfl ?_
  have hol := onN_lt l (m := 65535) (by omega)
  have w1 : IntKind.i64.wrap (onN 65535 l : Int) = (onN 65535 l : Int) := wrap_i64n (by omega)
  have w2 : IntKind.i64.wrap ((65535 : Int) - (onN 65535 l : Int)) = (sumN l : Int) := by
    have e : (65535 : Int) - (onN 65535 l : Int) = (sumN l : Int) := by unfold sumN; omega
    rw [e]
    exact wrap_i64n (by unfold sumN; omega)
  have hsl : sumN l < 65536 := by unfold sumN; omega
  rw [putB_nat]
  simp (maxSteps := 1000000) -implicitDefEqProofs only [go_sem]
  refine vgo_call rfl rfl rfl rfl (c_r01on 65535 (by omega) nl c l (by unfold lim; omega) _) ?_
  simp (maxSteps := 1000000) -implicitDefEqProofs only [go_sem, w1, w2]
  generalize sumN l = Y at *
  have y1 := tmod256 Y
  have y2 := tdiv256 Y
  have y3 : IntKind.i64.wrap ((Y / 256 : Nat) : Int) = ((Y / 256 : Nat) : Int) := wrap_i64n (by omega)
  have y4 : IntKind.i64.wrap ((Y % 256 : Nat) : Int) = ((Y % 256 : Nat) : Int) := wrap_i64n (by omega)
  have y5 := u8_wrap (Y / 256)
  have y6 := u8_wrap (Y % 256)
  have y7 : UInt8.ofNat (Y % 256) = UInt8.ofNat Y := by
    apply UInt8.toNat_inj.1
    simp
  rw [y7] at y6
  rw [y1, y2, y3, y5, y6, bv_length, bv_app']
  exact ⟨by unfold lim; omega, by omega, by unfold lim; omega, rfl⟩
set_option maxRecDepth 20000 in
/-- A frame's check. -/
theorem c_r01good (nl c : Bool) (l : List UInt8) (hl : l.length ≤ 100000) (σ : St) : VCalls Tryz.prog 168 [.sl nl c 1 (bv (putB l))] σ fun r σ' => r = .bool true ∧ σ' = σ := by
  refine vcalls_intro (C := cfg Tryz.prog [] [] []) (cfg_ok mixed) Tryz.func168 rfl rfl rfl rfl rfl ?_
  have hpl : (putB l).length = l.length + 2 := by simp [putB]
  have hrow := fun nl c nl' c' σ => c_row nl c nl' c' (putB l) (putB l) (by unfold lim; omega) σ
  have hd : decide (putB l = putB l) = true := by simp
  have w2 : IntKind.i64.wrap (((putB l).length : Int) - 2) = (l.length : Int) := by
    rw [hpl]
    have e : (((l.length + 2 : Nat) : Int) - 2) = (l.length : Int) := by omega
    rw [e]
    exact wrap_i64n (by omega)
  have ht : (bv (putB l)).take l.length = bv l := by
    unfold putB
    rw [bv_app', List.take_append_of_le_length (by rw [bv_length]; exact Nat.le_refl _), List.take_of_length_le (by rw [bv_length]; exact Nat.le_refl _)]
  have hge : decide ((2 : Int) ≤ ((putB l).length : Int)) = true := by rw [decide_eq_true_eq]; omega
  have hput := fun c σ => c_r01put nl c l hl σ
  generalize putB l = F at *
  simp (maxSteps := 1000000) -implicitDefEqProofs only [go_sem, bv_length, w2, hge, ht]
  have hle : l.length ≤ F.length := by omega
  refine ⟨hle, ?_⟩
  refine vgo_call rfl rfl rfl rfl (hput (c && l.length == F.length) σ) ?_
  simp (maxSteps := 1000000) -implicitDefEqProofs only [go_sem]
  refine vgo_call rfl rfl rfl rfl (hrow _ _ _ _ _) ?_
  simp (maxSteps := 1000000) -implicitDefEqProofs only [go_sem, hd]
set_option maxRecDepth 20000 in
theorem c_r01cut (nl c : Bool) (l : List UInt8) (hl : l.length ≤ 100000) (σ : St) : VCalls Tryz.prog 121 [.sl nl c 1 (bv (putB l))] σ fun r σ' => r = .tup [.sl nl false 1 (bv l), .int .i64 0] ∧ σ' = σ := by
  refine vcalls_intro (C := cfg Tryz.prog [] [] []) (cfg_ok mixed) Tryz.func121 rfl rfl rfl rfl rfl ?_
  have hpl : (putB l).length = l.length + 2 := by simp [putB]
  have w2 : IntKind.i64.wrap (((putB l).length : Int) - 2) = (l.length : Int) := by
    rw [hpl]
    have e : (((l.length + 2 : Nat) : Int) - 2) = (l.length : Int) := by omega
    rw [e]
    exact wrap_i64n (by omega)
  have ht : (bv (putB l)).take l.length = bv l := by
    unfold putB
    rw [bv_app', List.take_append_of_le_length (by rw [bv_length]; exact Nat.le_refl _), List.take_of_length_le (by rw [bv_length]; exact Nat.le_refl _)]
  have hlt : decide (((putB l).length : Int) < 2) = false := by rw [decide_eq_false_iff_not]; omega
  have hne : (l.length == (putB l).length) = false := by rw [beq_eq_false_iff_ne]; omega
  simp (maxSteps := 1000000) -implicitDefEqProofs only [go_sem, bv_length, hlt]
  refine vgo_call rfl rfl rfl rfl (c_r01good nl c l hl _) ?_
  simp (maxSteps := 1000000) -implicitDefEqProofs only [go_sem, bv_length, w2, ht, hne, Bool.and_false]
  omega

end Go.VL

/- Contracts of this program's functions: the document's escapes. Conditions: none. -/
namespace Go.VL
open Go.Proofs

theorem odd_all : ∀ c : Fin 256, (c.val = 126 ∨ c.val = 125 ∨ c.val < 32) → (((UInt8.ofNat c.val) ^^^ 32).toNat ≠ 126 ∧ ibits .xor .u8 (((UInt8.ofNat c.val) ^^^ 32).toNat : Int) 32 = (c.val : Int)) := by decide +kernel
theorem odd_x {accm : Int} {c : UInt8} (h : oddC accm c = true) : (c ^^^ 32).toNat ≠ 126 ∧ ibits .xor .u8 ((c ^^^ 32).toNat : Int) 32 = (c.toNat : Int) := by
  have hc := c.toNat_lt
  have hq : c.toNat = 126 ∨ c.toNat = 125 ∨ c.toNat < 32 := by
    unfold oddC at h
    simp only [Bool.or_eq_true, Bool.and_eq_true, beq_iff_eq, decide_eq_true_eq] at h
    rcases h with h | h | h
    · left; omega
    · right; left; omega
    · right; right; omega
  have := odd_all ⟨c.toNat, hc⟩ hq
  have e : UInt8.ofNat c.toNat = c := by simp
  simp only [e] at this
  exact this
theorem even_x {accm : Int} {c : UInt8} (h : oddC accm c = false) : ((c.toNat : Int) == 126) = false ∧ ((c.toNat : Int) == 125) = false := by
  unfold oddC at h
  simp only [Bool.or_eq_false_iff] at h
  exact ⟨h.1, h.2.1⟩
theorem esc_split (accm : Int) {x : List UInt8} {j : Nat} (h : j < x.length) : escB accm x = escB accm (x.take j) ++ (escO accm x[j] ++ escB accm (x.drop (j + 1))) := by
  have e : x = x.take j ++ (x[j] :: x.drop (j + 1)) := by simp
  unfold escB
  conv => lhs; rw [e]
  rw [List.flatMap_append, List.flatMap_cons]
theorem at_len (P : List UInt8) (y : UInt8) (Q : List UInt8) : (bv (P ++ y :: Q)).getD P.length .undef = .int .u8 y.toNat := by
  rw [bv_app', List.getD_eq_getElem?_getD, List.getElem?_append_right (by rw [bv_length]; exact Nat.le_refl _), bv_length, Nat.sub_self]
  rfl
theorem at_len1 (P : List UInt8) (z y : UInt8) (Q : List UInt8) : (bv (P ++ z :: y :: Q)).getD (P.length + 1) .undef = .int .u8 y.toNat := by
  have := at_len (P ++ [z]) y Q
  rw [List.append_assoc, List.length_append] at this
  exact this
theorem esc_no (accm : Int) (x : List UInt8) : (126 : UInt8) ∉ escB accm x := by
  intro h
  obtain ⟨c, _, hc⟩ := List.mem_flatMap.1 h
  unfold escO at hc
  cases ho : oddC accm c
  · rw [ho] at hc
    have hc' := List.mem_singleton.1 hc
    have := (even_x ho).1
    rw [← hc'] at this
    cases this
  · rw [ho] at hc
    have hc' : (126 : UInt8) ∈ [125, c ^^^ 32] := hc
    simp only [List.mem_cons, List.not_mem_nil, or_false] at hc'
    rcases hc' with h1 | h1
    · cases h1
    · have := (odd_x ho).1
      rw [← h1] at this
      exact this rfl
set_option maxHeartbeats 4000000 in
set_option maxRecDepth 20000 in
theorem c_r07plain (nl c : Bool) (accm : Int) (x : List UInt8) (hx : x.length ≤ 100000) (σ : St) : VCalls Tryz.prog 120 [.sl nl c 1 (bv (escB accm x))] σ fun r σ' => r = .tup [.sl x.isEmpty false 1 (bv x), .int .i64 0] ∧ σ' = σ := by
  refine vcalls_intro (C := cfg Tryz.prog [] [] []) (cfg_ok mixed) Tryz.func120 rfl rfl rfl rfl rfl ?_
  have hEl := (esc_len accm x x.length (Nat.le_refl _)).1
  rw [List.take_length] at hEl
  simp (maxSteps := 1000000) -implicitDefEqProofs only [go_sem, bv_length]
  refine loop_adopt 4 1 σ.length rfl rfl ?_
  refine w_loopL (fun j => j ≤ x.length) (fun j => [(5, .int .i64 (escB accm (x.take j)).length), (4, .rsl σ.length j 0 j), (0, .sl nl c 1 (bv (escB accm x)))]) (fun j => σ ++ [.arr (j == 0) j 1 (bv (x.take j))]) (fun j => x.length - j) 0 (Nat.zero_le _) ?_ rfl ?_
  · simp (maxSteps := 1000000) -implicitDefEqProofs only [go_sem]
    repeat' apply And.intro
    all_goals rfl
  intro j hj L hnext hleave
  have hel := esc_len accm x j hj
  have hbl : (bv (x.take j)).length = j := by rw [bv_length, List.length_take]; omega
  rcases Nat.lt_or_ge j x.length with h | h
  · have hsp := esc_split accm h
    have het := esc_take accm h
    have htk : x.take (j + 1) = x.take j ++ [x[j]] := List.take_succ_eq_append_getElem h
    have hz : ((j + 1 : Nat) == 0) = false := rfl
    have next := hnext (j + 1)
    clear hnext
    simp only [het] at next
    simp only [htk] at next
    clear htk het
    generalize escB accm (x.take j) = P at *
    generalize escB accm (x.drop (j + 1)) = Q at *
    cases ho : oddC accm x[j]
    · have hO : escO accm x[j] = [x[j]] := by unfold escO; rw [ho]; rfl
      rw [hO] at hsp
      simp only [hO, hsp] at next ⊢
      obtain ⟨e1, e2⟩ := even_x ho
      have hlt : decide ((P.length : Int) < ((P ++ ([x[j]] ++ Q)).length : Int)) = true := by
        rw [decide_eq_true_eq]; simp only [List.length_append, List.length_cons]; omega
      have hlt' : P.length < (P ++ ([x[j]] ++ Q)).length := by
        simp only [List.length_append, List.length_cons]; omega
      have g0 : (bv (P ++ ([x[j]] ++ Q))).getD P.length .undef = .int .u8 x[j].toNat := at_len P x[j] Q
      have hw1 : IntKind.i64.wrap ((P.length : Int) + 1) = ((P.length + 1 : Nat) : Int) := wrap_ok (by omega) (by omega)
      have hnl : (P ++ [x[j]]).length = P.length + 1 := by simp
      generalize hE : P ++ ([x[j]] ++ Q) = E at *
      simp (maxSteps := 1000000) -implicitDefEqProofs only [go_sem, bv_length, hlt, hlt', g0, e1, e2, hbl]
      refine ⟨by unfold lim; omega, ?_⟩
      refine next _ _ h (by omega) ?_ ?_
      · rw [hnl]
        simp (maxSteps := 1000000) -implicitDefEqProofs only [go_sem, hw1]
      · rw [bv_app']
        simp (maxSteps := 1000000) -implicitDefEqProofs only [go_sem, hz]
        rfl
    · have hO : escO accm x[j] = [125, x[j] ^^^ 32] := by unfold escO; rw [ho]; rfl
      rw [hO] at hsp
      simp only [hO, hsp] at next ⊢
      obtain ⟨e1, e2⟩ := odd_x ho
      have hlt : decide ((P.length : Int) < ((P ++ ([125, x[j] ^^^ 32] ++ Q)).length : Int)) = true := by
        rw [decide_eq_true_eq]; simp only [List.length_append, List.length_cons]; omega
      have hlt' : P.length < (P ++ ([125, x[j] ^^^ 32] ++ Q)).length := by
        simp only [List.length_append, List.length_cons]; omega
      have hlt1 : P.length + 1 < (P ++ ([125, x[j] ^^^ 32] ++ Q)).length := by
        simp only [List.length_append, List.length_cons]; omega
      have g0 : (bv (P ++ ([125, x[j] ^^^ 32] ++ Q))).getD P.length .undef = .int .u8 125 := at_len P 125 ((x[j] ^^^ 32) :: Q)
      have g1 : (bv (P ++ ([125, x[j] ^^^ 32] ++ Q))).getD (P.length + 1) .undef = .int .u8 (x[j] ^^^ 32).toNat := at_len1 P 125 (x[j] ^^^ 32) Q
      have hw1 : IntKind.i64.wrap ((P.length : Int) + 1) = ((P.length + 1 : Nat) : Int) := wrap_ok (by omega) (by omega)
      have hw2 : IntKind.i64.wrap (((P.length + 1 : Nat) : Int) + 1) = ((P.length + 2 : Nat) : Int) := wrap_ok (by omega) (by omega)
      have q0 : ((125 : Int) == 125) = true := rfl
      have q1 : (((P.length + 1 : Nat) : Int) == ((P ++ ([125, x[j] ^^^ 32] ++ Q)).length : Int)) = false := by rw [beq_eq_false_iff_ne]; omega
      have q2 : (((x[j] ^^^ 32).toNat : Int) == 126) = false := by rw [beq_eq_false_iff_ne]; intro h; exact e1 (by omega)
      have hnl : (P ++ [125, x[j] ^^^ 32]).length = P.length + 2 := by simp
      generalize hE : P ++ ([125, x[j] ^^^ 32] ++ Q) = E at *
      generalize x[j] ^^^ 32 = Y at *
      simp (maxSteps := 1000000) -implicitDefEqProofs only [go_sem, bv_length, hlt, hlt', hlt1, g0, g1, hw1, hw2, q0, q1, q2, e2, hbl]
      refine ⟨by unfold lim; omega, ?_⟩
      refine next _ _ h (by omega) ?_ ?_
      · rw [hnl]
        simp (maxSteps := 1000000) -implicitDefEqProofs only [go_sem, hw2]
      · rw [bv_app']
        simp (maxSteps := 1000000) -implicitDefEqProofs only [go_sem, hz]
        rfl
  · have hn : ¬ ((escB accm (x.take j)).length < (escB accm x).length) := by rw [List.take_of_length_le h]; exact Nat.lt_irrefl _
    have hjl : j = x.length := by omega
    have hb : (j == 0) = x.isEmpty := by rw [hjl]; cases x <;> rfl
    have ht : (bv x).take j = bv x := List.take_of_length_le (by rw [bv_length]; omega)
    simp (maxSteps := 1000000) -implicitDefEqProofs only [go_sem, bv_length, hn]
    refine hleave _ _ _ (fun h => by cases h) ?_
    rw [List.take_of_length_le h, hb]
    simp (maxSteps := 1000000) -implicitDefEqProofs only [go_sem, ht]

end Go.VL

/- Contracts of this program's functions: the document's frames, as they are read. Conditions: none. -/
namespace Go.VL
open Go.Proofs

def fromI (n i : Nat) : Nat := if i = 0 then 0 else if i ≤ n + 1 then 1 else n + 2
set_option maxHeartbeats 4000000 in
set_option maxRecDepth 20000 in
theorem c_r07all (nl c : Bool) (accm : Int) (x : List UInt8) (h0 : x ≠ []) (hx : x.length ≤ 750) (σ : St) : VCalls Tryz.prog 61 [.sl nl c 1 (bv (lineS accm x))] σ fun r σ' => r = .sl false false 1 [.sl false false 1 (bv x)] ∧ σ' = σ := by
  refine vcalls_intro (C := cfg Tryz.prog [] [] [43]) (cfg_ok mixed) Tryz.func61 rfl rfl rfl rfl rfl ?_
  have hel := esc_len accm x x.length (Nat.le_refl _)
  rw [List.take_length] at hel
  have hpos : 0 < x.length := List.length_pos_iff.2 h0
  have hno := esc_no accm x
  have hp0 := fun nl c σ => c_r07plain nl c accm [] (Nat.zero_le _) σ
  have hp1 := fun nl c σ => c_r07plain nl c accm x (by omega) σ
  have hem : x.isEmpty = false := by cases x with | nil => exact absurd rfl h0 | cons a l => rfl
  rw [hem] at hp1
  have e0 : escB accm [] = [] := rfl
  rw [e0] at hp0
  unfold lineS
  generalize escB accm x = E at *
  have hL : (bv (126 :: (E ++ [126]))).length = E.length + 2 := by rw [bv_length]; simp
  simp (maxSteps := 1000000) -implicitDefEqProofs only [go_sem]
  refine w_loopL (fun i => i ≤ E.length + 2) (fun i => [(5, .int .i64 i), (4, .int .i64 (fromI E.length i : Nat)), (3, if i ≤ E.length + 1 then .sl true false 0 [] else .sl false false 1 [.sl false false 1 (bv x)]), (0, .sl nl c 1 (bv (126 :: (E ++ [126]))))]) (fun _ => σ) (fun i => E.length + 2 - i) 0 (Nat.zero_le _) ?_ rfl ?_
  · simp (maxSteps := 1000000) -implicitDefEqProofs only [go_sem]
    exact ⟨rfl, rfl⟩
  intro i hi L hnext hleave
  rcases Nat.lt_or_ge i (E.length + 2) with h | h
  · have hlt : i < (bv (126 :: (E ++ [126]))).length := by omega
    have hw1 : IntKind.i64.wrap ((i : Int) + 1) = ((i + 1 : Nat) : Int) := wrap_ok (by omega) (by omega)
    have next := hnext (i + 1)
    clear hnext
    have q126 : ((126 : Int) == 126) = true := rfl
    rcases Nat.eq_zero_or_pos i with h00 | hip
    · have hf : fromI E.length i = 0 := by unfold fromI; rw [if_pos h00]
      have hf1 : fromI E.length (i + 1) = 1 := by unfold fromI; rw [if_neg (by omega), if_pos (by omega)]
      have ho : i ≤ E.length + 1 := by omega
      have ho1 : i + 1 ≤ E.length + 1 := by omega
      have g0 : (bv (126 :: (E ++ [126]))).getD i .undef = .int .u8 126 := by rw [h00]; rfl
      have ht : (bv (126 :: (E ++ [126]))).take i = bv [] := by rw [h00]; rfl
      have hgt : ¬ (0 < i) := by omega
      simp only [hf1, if_pos ho1] at next
      simp only [hf, if_pos ho]
      generalize bv (126 :: (E ++ [126])) = BL at *
      simp (maxSteps := 1000000) -implicitDefEqProofs only [go_sem, hlt, g0, q126, bne, ht]
      refine ⟨by omega, ?_⟩
      refine vgo_call rfl rfl rfl rfl (hp0 _ _ _) ?_
      simp (maxSteps := 1000000) -implicitDefEqProofs only [go_sem, hgt]
      refine next _ _ (by omega) (by omega) ?_ rfl
      simp (maxSteps := 1000000) -implicitDefEqProofs only [go_sem, hw1]
      rw [h00]
    · have hf : fromI E.length i = 1 := by unfold fromI; rw [if_neg (by omega), if_pos (by omega)]
      rcases Nat.lt_or_ge i (E.length + 1) with hl | hl
      · have hf1 : fromI E.length (i + 1) = 1 := by unfold fromI; rw [if_neg (by omega), if_pos (by omega)]
        have ho : i ≤ E.length + 1 := by omega
        have ho1 : i + 1 ≤ E.length + 1 := by omega
        have hi1 : i - 1 < E.length := by omega
        have g0 : (bv (126 :: (E ++ [126]))).getD i .undef = .int .u8 E[i - 1].toNat := by
          obtain ⟨t, rfl⟩ : ∃ t, i = t + 1 := ⟨i - 1, by omega⟩
          show (bv (E ++ [126])).getD t .undef = _
          rw [bv_app', List.getD_eq_getElem?_getD, List.getElem?_append_left (by rw [bv_length]; exact hi1), ← List.getD_eq_getElem?_getD]
          exact bv_getD (show t < E.length by omega)
        have hne : ((E[i - 1].toNat : Int) == 126) = false := by
          rw [beq_eq_false_iff_ne]
          intro hq
          have : E[i - 1] = 126 := UInt8.toNat_inj.1 (by rw [show (126 : UInt8).toNat = 126 from rfl]; omega)
          exact hno (this ▸ List.getElem_mem hi1)
        simp only [hf1, if_pos ho1] at next
        simp only [hf, if_pos ho]
        generalize bv (126 :: (E ++ [126])) = BL at *
        generalize E[i - 1] = y at *
        simp (maxSteps := 1000000) -implicitDefEqProofs only [go_sem, hlt, g0, hne, bne]
        refine next _ _ (by omega) (by omega) ?_ rfl
        simp (maxSteps := 1000000) -implicitDefEqProofs only [go_sem, hw1]
      · have hi2 : i = E.length + 1 := by omega
        have hf1 : fromI E.length (i + 1) = E.length + 2 := by unfold fromI; rw [if_neg (by omega), if_neg (by omega)]
        have ho : i ≤ E.length + 1 := by omega
        have ho1 : ¬ (i + 1 ≤ E.length + 1) := by omega
        have g0 : (bv (126 :: (E ++ [126]))).getD i .undef = .int .u8 126 := by
          have h := at_len (126 :: E) 126 []
          rw [hi2]
          exact h
        have ht : ((bv (126 :: (E ++ [126]))).take i).drop 1 = bv E := by
          rw [hi2]
          show (bv (E ++ [126])).take E.length = _
          rw [bv_app', List.take_append_of_le_length (by rw [bv_length]; exact Nat.le_refl _), List.take_of_length_le (by rw [bv_length]; exact Nat.le_refl _)]
        have hgt : 1 < i := by omega
        have hw2 : IntKind.i64.wrap ((i : Int) - ((1 : Nat) : Int)) = (E.length : Int) := by
          have e : (i : Int) - ((1 : Nat) : Int) = (E.length : Int) := by omega
          rw [e]
          exact wrap_i64n (by omega)
        have hle : decide ((E.length : Int) ≤ 1508) = true := by rw [decide_eq_true_eq]; omega
        simp only [hf1, if_neg ho1] at next
        simp only [hf, if_pos ho]
        generalize bv (126 :: (E ++ [126])) = BL at *
        simp (maxSteps := 1000000) -implicitDefEqProofs only [go_sem, hlt, g0, q126, bne, ht]
        refine ⟨by omega, by omega, ?_⟩
        refine vgo_call rfl rfl rfl rfl (hp1 _ _ _) ?_
        simp (maxSteps := 1000000) -implicitDefEqProofs only [go_sem, hgt, hw2, hle]
        refine ⟨by unfold lim; omega, ?_⟩
        refine next _ _ (by omega) (by omega) ?_ rfl
        have e2 : E.length + 2 = i + 1 := by omega
        rw [e2]
        simp (maxSteps := 1000000) -implicitDefEqProofs only [go_sem, hw1]
  · have hi3 : i = E.length + 2 := by omega
    have hn : ¬ (i < (bv (126 :: (E ++ [126]))).length) := by omega
    have ho : ¬ (i ≤ E.length + 1) := by omega
    simp only [if_neg ho]
    generalize bv (126 :: (E ++ [126])) = BL at *
    simp (maxSteps := 1000000) -implicitDefEqProofs only [go_sem, hn]
    refine hleave _ _ _ (fun h => by cases h) ?_
    simp (maxSteps := 1000000) -implicitDefEqProofs only [go_sem]

theorem c_rproto33 (σ : St) : VCalls Tryz.prog 40 [.int .u16 33] σ fun r σ' => r = .bool true ∧ σ' = σ := by
  refine vcalls_intro (C := cfg Tryz.prog [] [] []) (cfg_ok mixed) Tryz.func40 rfl rfl rfl rfl rfl ?_
  have y1 : (Int.tmod 33 2 == 1) = true := by decide
  have y2 : Int.tdiv 33 256 = 0 := by decide
  have y3 : IntKind.u16.wrap 0 = 0 := by decide
  have y4 : (Int.tmod 0 2 == 0) = true := by decide
  have y5 : ((33 : Int) == 255) = false := by decide
  simp (maxSteps := 1000000) -implicitDefEqProofs only [go_sem, y1, y2, y3, y4, y5, bne]
set_option maxHeartbeats 4000000 in
set_option maxRecDepth 20000 in
theorem c_r08read (nl c short : Bool) (d : List UInt8) (hd : d.length ≤ 1500) (σ : St) : VCalls Tryz.prog 62 [.sl nl c 1 (bv (putB (headB short ++ d)))] σ fun r σ' => r = .tup [.agg [.int .u16 33, .sl nl false 1 (bv d)], .int .i64 0] ∧ σ' = σ := by
  refine vcalls_intro (C := cfg Tryz.prog [] [] []) (cfg_ok mixed) Tryz.func62 rfl rfl rfl rfl rfl ?_
  have hc := fun σ => c_r01cut nl c (headB short ++ d) (by unfold headB; cases short <;> simp <;> omega) σ
  generalize putB (headB short ++ d) = F at *
  have hdl : decide ((1500 : Int) < (d.length : Int)) = false := by rw [decide_eq_false_iff_not]; omega
  cases short
  · have hb : bv (headB false ++ d) = .int .u8 255 :: .int .u8 3 :: .int .u8 0 :: .int .u8 33 :: bv d := rfl
    obtain ⟨DL, hDL⟩ : ∃ DL, DL = bv (headB false ++ d) := ⟨_, rfl⟩
    have n1 : decide ((2 : Int) ≤ (DL.length : Int)) = true := by rw [hDL, hb, decide_eq_true_eq]; simp only [List.length_cons]; omega
    have n2 : 2 ≤ DL.length := by rw [hDL, hb]; simp only [List.length_cons]; omega
    have g0 : DL.getD 0 .undef = .int .u8 255 := by rw [hDL]; rfl
    have g1 : DL.getD 1 .undef = .int .u8 3 := by rw [hDL]; rfl
    obtain ⟨DM, hDM⟩ : ∃ DM, DM = DL.drop 2 := ⟨_, rfl⟩
    have hDM' : DM = .int .u8 0 :: .int .u8 33 :: bv d := by rw [hDM, hDL, hb]; rfl
    have n3 : ((DM.length : Int) == 0) = false := by rw [hDM', beq_eq_false_iff_ne]; simp only [List.length_cons]; omega
    have n4 : decide ((DM.length : Int) < 2) = false := by rw [hDM', decide_eq_false_iff_not]; simp only [List.length_cons]; omega
    have n5 : 2 ≤ DM.length := by rw [hDM']; simp only [List.length_cons]; omega
    have g2 : DM.getD 0 .undef = .int .u8 0 := by rw [hDM']; rfl
    have g3 : DM.getD 1 .undef = .int .u8 33 := by rw [hDM']; rfl
    have g4 : DM.drop 2 = bv d := by rw [hDM']; rfl
    have q0 : ((255 : Int) == 255) = true := rfl
    have q1 : ((3 : Int) == 3) = true := rfl
    have q2 : IntKind.u16.wrap 0 = 0 := by decide
    have q3 : (Int.tmod 0 2 == 0) = true := by decide
    have q4 : IntKind.u16.wrap (0 * 256) = 0 := by decide
    have q5 : IntKind.u16.wrap 33 = 33 := by decide
    have q6 : IntKind.u16.wrap (0 + 33) = 33 := by decide
    rw [← hDL] at hc
    simp (maxSteps := 1000000) -implicitDefEqProofs only [go_sem]
    refine vgo_call rfl rfl rfl rfl (hc _) ?_
    simp (maxSteps := 1000000) -implicitDefEqProofs only [go_sem, bne, List.take_length, n1, n2, g0, g1, q0, q1, ← hDM, n3, n4, n5, g2, g3, g4, q2, q3, q4, q5, q6]
    repeat (refine ⟨by omega, ?_⟩)
    refine vgo_call rfl rfl rfl rfl (c_rproto33 _) ?_
    simp (maxSteps := 1000000) -implicitDefEqProofs only [go_sem, bv_length, hdl]
  · have hb : bv (headB true ++ d) = .int .u8 33 :: bv d := rfl
    obtain ⟨DL, hDL⟩ : ∃ DL, DL = bv (headB true ++ d) := ⟨_, rfl⟩
    have n2 : 1 ≤ DL.length := by rw [hDL, hb]; simp only [List.length_cons]; omega
    have n3 : ((DL.length : Int) == 0) = false := by rw [beq_eq_false_iff_ne]; omega
    have g0 : DL.getD 0 .undef = .int .u8 33 := by rw [hDL]; rfl
    have g4 : DL.drop 1 = bv d := by rw [hDL]; rfl
    have q0 : ((33 : Int) == 255) = false := rfl
    have q3 : (Int.tmod 33 2 == 0) = false := by decide
    have q5 : IntKind.u16.wrap 33 = 33 := by decide
    rw [← hDL] at hc
    simp (maxSteps := 1000000) -implicitDefEqProofs only [go_sem]
    refine vgo_call rfl rfl rfl rfl (hc _) ?_
    cases n1 : decide ((2 : Int) ≤ (DL.length : Int))
    · simp (maxSteps := 1000000) -implicitDefEqProofs only [go_sem, bne, List.take_length, n1, g0, q0, n3, g4, q3, q5]
      repeat (refine ⟨by omega, ?_⟩)
      refine vgo_call rfl rfl rfl rfl (c_rproto33 _) ?_
      simp (maxSteps := 1000000) -implicitDefEqProofs only [go_sem, bv_length, hdl]
    · simp (maxSteps := 1000000) -implicitDefEqProofs only [go_sem, bne, List.take_length, n1, g0, q0, n3, g4, q3, q5]
      repeat (refine ⟨by omega, ?_⟩)
      refine vgo_call rfl rfl rfl rfl (c_rproto33 _) ?_
      simp (maxSteps := 1000000) -implicitDefEqProofs only [go_sem, bv_length, hdl]
set_option maxHeartbeats 4000000 in
set_option maxRecDepth 20000 in
/-- A packet of IP that is sent is read as it was. -/
theorem c_r08all (nl c short : Bool) (accm : Int) (d : List UInt8) (hd : d.length ≤ 740) (σ : St) : VCalls Tryz.prog 18 [.sl nl c 1 (bv (lineS accm (putB (headB short ++ d))))] σ fun r σ' => r = .sl false false 2 [.agg [.int .u16 33, .sl false false 1 (bv d)]] ∧ σ' = σ := by
  refine vcalls_intro (C := cfg Tryz.prog [] [] [29]) (cfg_ok mixed) Tryz.func18 rfl rfl rfl rfl rfl ?_
  have hpl : (putB (headB short ++ d)).length ≤ 750 := by
    have h : (putB (headB short ++ d)).length = (headB short ++ d).length + 2 := by unfold putB; rw [List.length_append]; rfl
    rw [h, List.length_append]
    cases short
    · show 4 + _ + 2 ≤ 750; omega
    · show 1 + _ + 2 ≤ 750; omega
  have hne : putB (headB short ++ d) ≠ [] := by simp [putB]
  have ha := fun nl c σ => c_r07all nl c accm (putB (headB short ++ d)) hne hpl σ
  have hr := fun nl c σ => c_r08read nl c short d (by omega) σ
  generalize putB (headB short ++ d) = F at *
  simp (maxSteps := 1000000) -implicitDefEqProofs only [go_sem]
  refine vgo_call rfl rfl rfl rfl (ha _ _ _) ?_
  simp (maxSteps := 1000000) -implicitDefEqProofs only [go_sem]
  refine w_loopL (fun i => i ≤ 1) (fun i => [(5, .int .i64 (i : Nat)), (4, .sl false false 1 [.sl false false 1 (bv F)]), (3, if i = 0 then .sl true false 0 [] else .sl false false 2 [.agg [.int .u16 33, .sl false false 1 (bv d)]])]) (fun _ => σ) (fun i => 1 - i) 0 (Nat.zero_le _) ?_ rfl ?_
  · simp (maxSteps := 1000000) -implicitDefEqProofs only [go_sem]
    rfl
  intro i hi L hnext hleave
  rcases Nat.lt_or_ge i 1 with h | h
  · obtain rfl : i = 0 := by omega
    have hw1 : IntKind.i64.wrap (((0 : Nat) : Int) + 1) = ((1 : Nat) : Int) := by decide
    have g0 : decide (((0 : Nat) : Int) < 1) = true := by decide
    have next := hnext 1
    simp (maxSteps := 1000000) -implicitDefEqProofs only [go_sem, if_pos rfl, g0]
    refine vgo_call rfl rfl rfl rfl (hr _ _ _) ?_
    simp (maxSteps := 1000000) -implicitDefEqProofs only [go_sem]
    refine ⟨by unfold lim; omega, ?_⟩
    refine next _ _ (by omega) (by omega) ?_ rfl
    simp (maxSteps := 1000000) -implicitDefEqProofs only [go_sem, hw1]
  · obtain rfl : i = 1 := by omega
    simp (maxSteps := 1000000) -implicitDefEqProofs only [go_sem]
    refine hleave _ _ _ (fun h => by cases h) ?_
    simp (maxSteps := 1000000) -implicitDefEqProofs only [go_sem]

end Go.VL

/- Contracts of this program's functions: frames as they are sent, wherever LCP is. Conditions: none. -/
namespace Go.VL
open Go.Proofs

/-- How a link's frames are sent. -/
def accmK (k : LinkV) : Int := bif k.l.a.st == 9 then (match k.l.peer.find? (knownT 2) with | some o => ((numU o.d).toNat : Int) | none => 4294967295) else 4294967295
def shortK (k : LinkV) : Bool := bif k.l.a.st == 9 then (k.l.peer.find? (knownT 7)).isSome && (k.l.peer.find? (knownT 8)).isSome else false
set_option maxHeartbeats 4000000 in
set_option maxRecDepth 20000 in
theorem c_lbytes (k : LinkV) (hps : k.l.ps = 2) (hlp : k.l.peer.length ≤ lim) (hsd : smallD k.l.peer) (nl c : Bool) (d : List UInt8) (hd : d.length ≤ 1500) (σ : St) : VCalls Tryz.prog 19 [lkv k, .agg [.int .u16 33, .sl nl c 1 (bv d)]] σ fun r σ' => r = .sl false false 1 (bv (lineS (accmK k) (putB (headB (shortK k) ++ d)))) ∧ σ' = σ := by
  cases h9 : k.l.a.st == 9
  · have e1 : accmK k = 4294967295 := by unfold accmK; rw [h9]; rfl
    have e2 : shortK k = false := by unfold shortK; rw [h9]; rfl
    rw [e1, e2]
    exact c_lbytes0 k h9 nl c d hd σ
  refine vcalls_intro (C := cfg Tryz.prog [] [] []) (cfg_ok mixed) Tryz.func19 rfl rfl rfl rfl rfl ?_
  have hle := fun σ => c_learn k.l.pn k.l.pc k.l.peer hlp hsd σ
  obtain ⟨x1, x2, x3, b7, b8, hlv, hx, hb⟩ : ∃ x1 x2 x3 b7 b8, learnV k.l.peer = .agg [.int .i64 x1, .int .u32 x2, .int .u32 x3, .bool b7, .bool b8] ∧ accmK k = x2 ∧ shortK k = (b7 && b8) := ⟨_, _, _, _, _, rfl, by unfold accmK; rw [h9]; rfl, by unfold shortK; rw [h9]; rfl⟩
  rw [hx, hb]
  rw [hlv] at hle
  simp (maxSteps := 1000000) -implicitDefEqProofs only [go_sem, lkv, lkC, h9, bne, hps]
  refine vgo_call rfl rfl rfl rfl (hle _) ?_
  simp (maxSteps := 1000000) -implicitDefEqProofs only [go_sem]
  refine w_walk2 [8, 9] [0, 1, 2, 3, 4, 5, 6, 7, 8, 9] [24, 25, 26, 27, 28, 29, 30, 31] [0, 1, 0, 4, 12, 28, 60, 124, 31, 511] rfl rfl rfl rfl ?_
  simp (maxSteps := 1000000) -implicitDefEqProofs only [go_sem]
  cases b7
  · simp (maxSteps := 1000000) -implicitDefEqProofs only [go_sem]
    refine vgo_call rfl rfl rfl rfl (c_fsend33 nl c d x2 false hd _) ?_
    simp (maxSteps := 1000000) -implicitDefEqProofs only [go_sem]
  · simp (maxSteps := 1000000) -implicitDefEqProofs only [go_sem]
    refine vgo_call rfl rfl rfl rfl (c_fsend33 nl c d x2 b8 hd _) ?_
    simp (maxSteps := 1000000) -implicitDefEqProofs only [go_sem]

end Go.VL

/- What LinkSays wants of links at work: octets, whether IP passes. Conditions: none. -/
namespace Go.VL
open Go.Proofs

/-! Octets -/
def sumU (a : UInt64) (n : Nat) : UInt64 := UInt64.ofNat (min (a.toNat + n) 18446744073709551615)
theorem sumU_nat (a : UInt64) (n : Nat) : (sumU a n).toNat = min (a.toNat + n) 18446744073709551615 := by
  unfold sumU
  simp
  omega
theorem wrap_u64 {n : Int} (h : 0 ≤ n) (h2 : n ≤ 18446744073709551615) : IntKind.u64.wrap n = n := by
  unfold IntKind.wrap
  simp [IntKind.bits, IntKind.signed]
  omega
set_option maxRecDepth 20000 in
theorem c_mcount1 (a : UInt64) (n : Nat) (hn : n ≤ 1000000) (σ : St) : VCalls Tryz.prog 119 [.int .u64 a.toNat, .int .i64 n] σ fun r σ' => r = .int .u64 (sumU a n).toNat ∧ σ' = σ := by
  refine vcalls_intro (C := cfg Tryz.prog [] [] []) (cfg_ok mixed) Tryz.func119 rfl rfl rfl rfl rfl ?_
  have ha := a.toNat_lt
  have w1 : (if (0 : Int) > (n : Int) then (0 : Int) else (n : Int)) = n := by rw [if_neg (by omega)]
  have w2 : IntKind.u64.wrap (n : Int) = n := wrap_u64 (by omega) (by omega)
  have w3 : IntKind.u64.wrap (18446744073709551615 - (a.toNat : Int)) = 18446744073709551615 - (a.toNat : Int) := wrap_u64 (by omega) (by omega)
  rw [sumU_nat]
  cases q : decide ((18446744073709551615 : Int) - (a.toNat : Int) < (n : Int))
  · simp only [decide_eq_false_iff_not] at q
    have w4 : IntKind.u64.wrap ((a.toNat : Int) + (n : Int)) = ((a.toNat + n : Nat) : Int) := by rw [wrap_u64 (by omega) (by omega)]; omega
    have q' : decide ((18446744073709551615 : Int) - (a.toNat : Int) < (n : Int)) = false := by rw [decide_eq_false_iff_not]; exact q
    have e : min (a.toNat + n) 18446744073709551615 = a.toNat + n := by omega
    rw [e]
    simp (maxSteps := 1000000) -implicitDefEqProofs only [go_sem, w1, w2, w3, w4, q']
  · have q' := of_decide_eq_true q
    have e : min (a.toNat + n) 18446744073709551615 = 18446744073709551615 := by omega
    rw [e]
    simp (maxSteps := 1000000) -implicitDefEqProofs only [go_sem, w1, w2, w3, q]
    rfl

def countM (m : MeterV) (i o : Nat) : MeterV := { m with inn := sumU m.inn i, out := sumU m.out o }
set_option maxRecDepth 20000 in
theorem c_mcount (m : MeterV) (i o : Nat) (hi : i ≤ 1000000) (ho : o ≤ 1000000) (σ : St) : VCalls Tryz.prog 60 [mev m, .int .i64 i, .int .i64 o] σ fun r σ' => r = mev (countM m i o) ∧ σ' = σ := by
  refine vcalls_intro (C := cfg Tryz.prog [] [3] []) (cfg_ok mixed) Tryz.func60 rfl rfl rfl rfl rfl ?_
  simp (maxSteps := 1000000) -implicitDefEqProofs only [go_sem, mev, meC]
  refine w_walk2 [11, 12] [0, 1, 2, 3, 4, 5, 6, 7, 8, 9, 10, 11, 12] [9, 10, 11, 12, 13, 14, 15, 16, 17, 18, 19] [0, 0, 2, 0, 15, 0, 0, 64, 0, 511, 1023, 0, 4095] rfl rfl rfl rfl ?_
  simp (maxSteps := 1000000) -implicitDefEqProofs only [go_sem]
  refine vdgo_call rfl rfl rfl rfl (c_mcount1 m.inn i hi _) ?_
  simp (maxSteps := 1000000) -implicitDefEqProofs only [go_sem]
  refine vdgo_call rfl rfl rfl rfl (c_mcount1 m.out o ho _) ?_
  simp (maxSteps := 1000000) -implicitDefEqProofs only [go_sem]
  refine w_walk2 [5, 7] [0, 1, 2, 3, 4, 5, 6, 7] [20, 21, 22, 23, 24, 25] [0, 1, 0, 4, 3, 19, 63, 127] rfl rfl rfl rfl ?_
  simp (maxSteps := 1000000) -implicitDefEqProofs only [go_sem]
  exact ⟨by decide, by decide, rfl⟩

def openB (k : LinkV) : Bool := (phaseP k == 3) && (k.n.a.st == 9)
set_option maxRecDepth 20000 in
theorem c_lopened (W : WkV) (σ : St) : VCalls Tryz.prog 59 [.ptr σ.length 0] (wS σ W) fun r σ' => r = .bool (openB W.k) ∧ σ' = wS σ W := by
  refine vcalls_keep (C := cfg Tryz.prog [] [] []) (cfg_ok mixed) Tryz.func59 rfl rfl rfl rfl rfl ?_
  have hp := fun σ => c_lphase W.k σ
  unfold lkv lkC at hp
  generalize hFS : wS σ W = FS
  unfold openB
  rw [← hFS]
  simp (maxSteps := 1000000) -implicitDefEqProofs only [go_sem, wS, wB, wkC]
  refine vgo_call rfl rfl rfl rfl (hp _) ?_
  simp (maxSteps := 1000000) -implicitDefEqProofs only [go_sem]
  cases q1 : phaseP W.k == 3
  · simp (maxSteps := 1000000) -implicitDefEqProofs only [go_sem, vendK]
  · simp (maxSteps := 1000000) -implicitDefEqProofs only [go_sem, vendK]

theorem done_begin {k : LinkV} (hg : GoodK k) : doneK (beginW k) = k := by
  show ({ k with phase := phaseP k } : LinkV) = k
  rw [← hg.phase]

end Go.VL

/- LinkSays' law. Conditions: none. -/
namespace Go.VL
open Go.Proofs

def sayF (nl c : Bool) (b : List UInt8) : FrV := ⟨33, nl, c, 1, b⟩
def sayW1 (k : LinkV) (f : FrV) : WkV := { beginW k with k := { k with m := countM k.m 0 f.d.length }, sent := [f] }
def sayW (k : LinkV) (f : FrV) : WkV := bif openB k && decide (f.d.length ≤ 1500) then sayW1 k f else beginW k
set_option maxHeartbeats 8000000 in
set_option maxRecDepth 20000 in
theorem c_lsay (k : LinkV) (nl c : Bool) (b : List UInt8) (hb : b.length ≤ 1000000) (σ : St) : VCalls Tryz.prog 17 [lkv k, .sl nl c 1 (bv b)] σ fun r σ' => r = .tup [lkv (doneK (sayW k (sayF nl c b))), outW (sayW k (sayF nl c b))] ∧ σ' = σ := by
  refine vcalls_intro (C := cfg Tryz.prog [] [] []) (cfg_ok mixed) Tryz.func17 rfl rfl rfl rfl rfl ?_
  have hm := fun σ => c_mcount k.m 0 b.length (by omega) hb σ
  unfold mev meC at hm
  simp (maxSteps := 1000000) -implicitDefEqProofs only [go_sem, lkv, lkC]
  refine vgo_call' rfl rfl rfl (c_begun k σ) ?_
  rintro r σ' ⟨rfl, rfl⟩
  refine ⟨rfl, ?_⟩
  simp (maxSteps := 1000000) -implicitDefEqProofs only [go_sem]
  refine vgo_call' rfl rfl rfl (c_lopened (beginW k) σ) ?_
  rintro r σ' ⟨rfl, rfl⟩
  refine ⟨rfl, ?_⟩
  have ho : openB (beginW k).k = openB k := rfl
  rw [ho]
  cases q1 : openB k
  · have hS : sayW k (sayF nl c b) = beginW k := by unfold sayW; rw [q1]; rfl
    rw [hS]
    generalize beginW k = W
    simp (maxSteps := 1000000) -implicitDefEqProofs only [go_sem]
    refine vgo_call' rfl rfl rfl (c_ldone W σ) ?_
    rintro r σ' ⟨rfl, rfl⟩
    refine ⟨rfl, ?_⟩
    simp (maxSteps := 1000000) -implicitDefEqProofs only [go_sem, lkC, outC, wS, wF, wT]
    rw [frs_take, zv_take]
    rfl
  · cases q2 : decide ((b.length : Int) ≤ 1500)
    · have hS : sayW k (sayF nl c b) = beginW k := by
        unfold sayW
        have q2' : decide ((sayF nl c b).d.length ≤ 1500) = false := by simp only [decide_eq_false_iff_not] at q2 ⊢; show ¬ (b.length ≤ 1500); omega
        rw [q2', Bool.and_false]
        rfl
      rw [hS]
      generalize beginW k = W
      simp (maxSteps := 1000000) -implicitDefEqProofs only [go_sem, bv_length, q2]
      refine vgo_call' rfl rfl rfl (c_ldone W σ) ?_
      rintro r σ' ⟨rfl, rfl⟩
      refine ⟨rfl, ?_⟩
      simp (maxSteps := 1000000) -implicitDefEqProofs only [go_sem, lkC, outC, wS, wF, wT]
      rw [frs_take, zv_take]
      rfl
    · have hS : sayW k (sayF nl c b) = sayW1 k (sayF nl c b) := by
        unfold sayW
        have q2' : decide ((sayF nl c b).d.length ≤ 1500) = true := by simp only [decide_eq_true_eq] at q2 ⊢; show b.length ≤ 1500; omega
        rw [q1, q2']
        rfl
      rw [hS]
      simp (maxSteps := 1000000) -implicitDefEqProofs only [go_sem, bv_length, q2, wS, wB, wF, wT, wkC, beginW]
      refine ⟨rfl, by show 0 + 1 ≤ lim; unfold lim; omega, ?_⟩
      refine vgo_call rfl rfl rfl rfl (hm _) ?_
      simp (maxSteps := 1000000) -implicitDefEqProofs only [go_sem]
      refine vgo_call' rfl rfl rfl (c_ldone (sayW1 k (sayF nl c b)) σ) ?_
      rintro r σ' ⟨rfl, rfl⟩
      refine ⟨rfl, ?_⟩
      generalize sayW1 k (sayF nl c b) = W
      simp (maxSteps := 1000000) -implicitDefEqProofs only [go_sem, lkC, outC, wS, wF, wT]
      rw [frs_take, zv_take]
      rfl

/-! Plain: what is said. -/
theorem say_yes {k : LinkV} (hg : GoodK k) (ho : openB k = true) (nl c : Bool) (b : List UInt8) (hl : b.length ≤ 1500) : doneK (sayW k (sayF nl c b)) = { k with m := countM k.m 0 b.length } ∧ outW (sayW k (sayF nl c b)) = .agg (outC (.sl false false 2 [.agg [.int .u16 33, .sl nl c 1 (bv b)]]) (.sl true false 1 []) zPk zOp ⟨true, false, 0, []⟩) := by
  have hl' : decide ((sayF nl c b).d.length ≤ 1500) = true := by rw [decide_eq_true_eq]; exact hl
  unfold sayW
  rw [ho, hl']
  refine ⟨?_, rfl⟩
  show ({ k with m := countM k.m 0 b.length, phase := phaseP k } : LinkV) = _
  rw [← hg.phase]
theorem say_no {k : LinkV} (hg : GoodK k) (ho : openB k = false) (f : FrV) : doneK (sayW k f) = k ∧ outW (sayW k f) = .agg (outC (.sl true false 2 []) (.sl true false 1 []) zPk zOp ⟨true, false, 0, []⟩) := by
  unfold sayW
  rw [ho]
  exact ⟨done_begin hg, rfl⟩
theorem count_inn (m : MeterV) (n : Nat) : (countM m 0 n).inn.toNat = m.inn.toNat := by
  show (sumU _ _).toNat = _
  rw [sumU_nat]
  have := m.inn.toNat_lt
  omega
theorem count_outn (m : MeterV) (n : Nat) : m.out.toNat ≤ (countM m 0 n).out.toNat := by
  show _ ≤ (sumU _ _).toNat
  rw [sumU_nat]
  have := m.out.toNat_lt
  omega

set_option maxHeartbeats 16000000 in
set_option maxRecDepth 20000 in
theorem c_linkSays (k : LinkV) (hz : k.line.sz = 1) (h1 : k.l.ps = 2) (h2 : k.n.ps = 2) (nl c : Bool) (b : List UInt8) (σ : St) :
    VCalls Tryz.prog 4 [lkv k, .sl nl c 1 (bv b)] σ fun r σ' => r = .bool true ∧ σ' = σ := by
  refine vcalls_intro (C := cfg Tryz.prog [] [] []) (cfg_ok mixed) Tryz.func4 rfl rfl rfl rfl rfl ?_
  simp (maxSteps := 1000000) -implicitDefEqProofs only [go_sem, lkv, lk_len, lk_take, lk_cell, lk_imm, set_lk]
  refine vgo_call rfl rfl rfl rfl (c_shown18 σ) ?_
  simp (maxSteps := 1000000) -implicitDefEqProofs only [go_sem, lkv, lk_len, lk_take, lk_cell, lk_imm, set_lk]
  refine vgo_call rfl rfl rfl rfl (c_r18small k h1 h2 σ) ?_
  cases hs : smallK k
  · simp (maxSteps := 1000000) -implicitDefEqProofs only [go_sem, lkv, lk_len, lk_take, lk_cell, lk_imm, set_lk]
  have hsN : smallN k.l = true ∧ smallN k.n = true := by
    unfold smallK at hs
    simp only [Bool.and_eq_true] at hs
    exact ⟨hs.1.1.1, hs.1.1.2⟩
  have hf1 : few k.l.ours = true := by have := hsN.1; unfold smallN at this; simp only [Bool.and_eq_true] at this; exact this.1
  have hf2 : few k.n.ours = true := by have := hsN.2; unfold smallN at this; simp only [Bool.and_eq_true] at this; exact this.1
  have hL := fun σ => c_rright14 k.l hf1 σ
  have hN := fun σ => c_rright14 k.n hf2 σ
  have hb : k.line.b.length ≤ lim := by
    unfold smallK at hs
    simp only [Bool.and_eq_true, decide_eq_true_eq] at hs
    unfold lim
    omega
  simp (maxSteps := 1000000) -implicitDefEqProofs only [go_sem, lkv, lk_len, lk_take, lk_cell, lk_imm, set_lk]
  refine vgo_call rfl rfl rfl rfl (c_r18right1 k hz hL hN σ) ?_
  cases hr : rightK k
  · simp (maxSteps := 1000000) -implicitDefEqProofs only [go_sem, lkv, lk_len, lk_take, lk_cell, lk_imm, set_lk]
  have hg := goodK_of hs hr
  have n1 : (((1 : Nat) : Int) == 1) = true := rfl
  have n0 : (((0 : Nat) : Int) == 0) = true := rfl
  have hsm := c_r18same k k ⟨.inl hz, .inl h1, .inl h2⟩ ⟨.inl hz, .inl h1, .inl h2⟩ hb (cmp_small hsN.1) (cmp_small hsN.2) σ
  rw [sameK_self] at hsm
  cases ql : decide ((700 : Int) < (b.length : Int))
  · have hl : b.length ≤ 700 := by simp only [decide_eq_false_iff_not] at ql; omega
    have hsy := c_lsay k nl c b (by omega) σ
    have ho' : openB k = ((k.phase == 3) && (k.n.a.st == 9)) := by unfold openB; rw [← hg.phase]
    simp (maxSteps := 1000000) -implicitDefEqProofs only [go_sem, bv_length, ql, lk_len, lk_take, lk_cell, lk_imm, set_lk]
    cases ho : openB k
    · obtain ⟨e1, e2⟩ := say_no hg ho (sayF nl c b)
      rw [e1, e2] at hsy
      unfold outC at hsy
      rw [ho] at ho'
      refine vgo_call rfl rfl rfl rfl hsy ?_
      simp (maxSteps := 1000000) -implicitDefEqProofs only [go_sem, lkv, lk_len, lk_take, lk_cell, lk_imm, set_lk]
      unfold lkv at hsm
      unfold lkC at hsm ⊢
      cases q1 : k.phase == 3
      · simp (maxSteps := 1000000) -implicitDefEqProofs only [go_sem, q1, n0]
        refine vgo_call rfl rfl rfl rfl hsm ?_
        simp (maxSteps := 1000000) -implicitDefEqProofs only [go_sem]
      · rw [q1, Bool.true_and] at ho'
        have q2 : (k.n.a.st == 9) = false := ho'.symm
        simp (maxSteps := 1000000) -implicitDefEqProofs only [go_sem, q1, q2, n0]
        refine vgo_call rfl rfl rfl rfl hsm ?_
        simp (maxSteps := 1000000) -implicitDefEqProofs only [go_sem]
    · obtain ⟨e1, e2⟩ := say_yes hg ho nl c b (by omega)
      rw [e1, e2] at hsy
      unfold outC at hsy
      rw [ho] at ho'
      have hq := ho'.symm
      simp only [Bool.and_eq_true] at hq
      obtain ⟨q1, q2⟩ := hq
      have hin := count_inn k.m b.length
      have hout := count_outn k.m b.length
      have hby := c_lbytes { k with m := countM k.m 0 b.length } h1 (cmp_small hsN.1).p.1 (cmp_small hsN.1).p.2 nl c b (by omega) σ
      have hal := fun accm short σ => c_r08all false false short accm b (by omega) σ
      have hrow := fun nl' c' σ => c_row nl' c' nl c b b (by unfold lim; omega) σ
      have hd : decide (b = b) = true := by simp
      generalize countM k.m 0 b.length = M1 at *
      refine vgo_call rfl rfl rfl rfl hsy ?_
      simp (maxSteps := 1000000) -implicitDefEqProofs only [go_sem, lkv, lk_len, lk_take, lk_cell, lk_imm, set_lk]
      unfold lkv at hby
      unfold lkC at hby ⊢
      have g1 : decide (k.m.out.toNat ≤ M1.out.toNat) = true := by rw [decide_eq_true_eq]; exact hout
      have g2 : ((M1.inn.toNat : Int) == (k.m.inn.toNat : Int)) = true := by rw [hin]; simp
      simp (maxSteps := 1000000) -implicitDefEqProofs only [go_sem, q1, q2, n1, bne]
      refine w_walk2 [7] [0, 1, 2, 3, 4, 5, 6, 7] [59, 60, 61, 62, 63, 64, 65] [0, 0, 2, 6, 14, 31, 63, 127] rfl rfl rfl rfl ?_
      simp (maxSteps := 1000000) -implicitDefEqProofs only [go_sem]
      repeat (refine ⟨by omega, ?_⟩)
      refine vdgo_call rfl rfl rfl rfl hby ?_
      simp (maxSteps := 1000000) -implicitDefEqProofs only [go_sem]
      refine vdgo_call rfl rfl rfl rfl (hal _ _ _) ?_
      simp (maxSteps := 1000000) -implicitDefEqProofs only [go_sem, n1]
      repeat (refine ⟨by omega, ?_⟩)
      refine vgo_call rfl rfl rfl rfl (hrow _ _ _) ?_
      simp (maxSteps := 1000000) -implicitDefEqProofs only [go_sem, hd, g1, g2]
  · simp (maxSteps := 1000000) -implicitDefEqProofs only [go_sem, bv_length, ql, lk_len, lk_take, lk_cell, lk_imm, set_lk]

end Go.VL

/- LinkSays: at every link and every packet the law answers true, and leaves its arguments as they were. Conditions: none. -/
namespace Go.Proofs.YtonjofnphkghcaaGreatDoor
open Go.VL Go.ChangeShapes Go.WideShapes Go.RowKit

theorem linkSays_calls (vs : List V) (h : argsV [shLink, shBytes] vs) : VCalls Tryz.prog 4 vs [] fun r _ => r = .bool true := by
  obtain ⟨c1, r1, rfl, h1, c2, r2, rfl, h2, rfl⟩ := h
  obtain ⟨k, rfl, hk⟩ := link_of h1
  obtain ⟨nl, b, rfl, _⟩ := bytes_of' h2
  exact (c_linkSays k hk.z hk.l hk.n nl false b []).mono fun _ _ h => h.1

set_option maxRecDepth 100000 in
theorem linkSays_lifted (os : Os) (started : os.Started) (H : Type) (enc : TypeId × Value → H) :
    ReturnsInHanded {} Tryz.checked os 4 .any (fun w args => (Rows.linkSaysSpec.pre enc Tryz.prog Tryz.f4 Rows.linkSaysRow.domain false w args ∧ laidMetH Tryz.prog laidL w) ∧ sizedMet enc Tryz.prog Tryz.f4 (OpenSpec.ofChange Rows.linkSaysSpec) false w args)
      (Rows.linkSaysSpec.post enc Tryz.prog Tryz.f4 false true false false) := by
  refine returnsInHanded_of_change_and (C := Tryz.checked) (X := fun w _ => laidMetH Tryz.prog laidL w) (fun _ _ _ hh h => h.of_heap hh) own started (by kernel_rfl) Tryz.func4
    (ChangeSpec.witness_shaped (enc := enc) (C := Tryz.checked) (os := os) (X := fun w _ => laidMetH Tryz.prog laidL w) false (World.laidAll Tryz.prog os laidL) #[.agg #[.int .i64 0, .slice none 0 0, .bool false, .int .i64 0, .int .i64 0, .int .i64 0, .int .u8 0, .bool false, .int .u32 0, .int .u32 0, .int .u32 0, .int .u32 0, .slice none 0 0, .int .i64 0, .slice none 0 0, .int .i64 0, .int .i64 0, .int .i64 0, .int .u8 0, .bool false, .int .u32 0, .int .u32 0, .int .u32 0, .int .u32 0, .slice none 0 0, .int .i64 0, .slice none 0 0, .int .i64 0, .int .i64 0, .int .i64 0, .int .u8 0, .int .u8 0, .int .u8 0, .int .u8 0, .int .u8 0, .int .u8 0, .int .u8 0, .int .u8 0, .int .u8 0, .int .u8 0, .int .u8 0, .int .u8 0, .int .u8 0, .int .u8 0, .int .u8 0, .int .u8 0, .int .u8 0, .string ⟨#[]⟩, .int .u8 0, .int .u8 0, .int .u8 0, .int .u8 0, .int .u8 0, .int .u8 0, .int .u8 0, .int .u8 0, .int .u8 0, .int .u8 0, .int .u8 0, .int .u8 0, .int .u8 0, .int .u8 0, .int .u8 0, .int .u8 0, .int .u64 0, .int .u64 0, .int .i64 0, .int .i64 0, .int .u32 0], .slice none 0 0] 8 (World.laidAll_os _ _ _)
      (World.shaped_of_ZipB (by kernel_rfl) (by kernel_rfl)) (by kernel_rfl) (by kernel_rfl) (by kernel_rfl)
      (by rw [MakeChecks.laidMetH_plain _ _ _ (by kernel_rfl)]; exact laidMet_laidAll _ (by kernel_rfl) (by kernel_rfl))) ?_
  intro W base args ds gs before hval0 hW hcnd hsz0 hL _
  have hW' := hW
  obtain ⟨p, q, hA0, hV, rfl, hfz, hnd⟩ := hW
  obtain ⟨rfl, rfl⟩ := trodVars_none hV
  have hval : ∀ (j : Nat) t v, (Tryz.f4.params.toList)[j]? = some t → args.toList[j]? = some v → Value.okWide Tryz.prog W .any base t v := fun j t v h1 h2 => hval0 j t v (by simpa using h1) (by simpa using h2)
  refine (law_calls_g (ss := [shLink, shBytes]) (by kernel_rfl) linkSays_calls (glo_of hL) hval hA0 hsz0).mono fun e W' ⟨he, bel⟩ => ?_
  subst he
  have hb := again_of' laidOut bel (by kernel_rfl) hA0
  obtain ⟨v0, vs0, d0, ds0, p0, q0, e0a, rfl, e0b, h0, r0⟩ := trodAll_cons (show DataW.TrodAll enc Tryz.prog W 0 (fun _ => true) true [40, 22] args.toList ds p from hA0)
  obtain ⟨v1, vs1, d1, ds1, p1, q1, e1a, rfl, e1b, h1, r1⟩ := trodAll_cons r0
  obtain ⟨_, rfl, _⟩ := trodAll_nil r1
  exact ⟨_, rfl, _, _, _, [], _, [], hW', trodAll_mk1 (shut_bool Tryz.underlying4 _), hb, rfl, bel.frame _, fun h => by cases h⟩

theorem linkSays_holds : Rows.LinkSaysSaid :=
  OpenClaim.holds_of_wide 4 Tryz.f4 rfl rfl rfl rfl rfl rfl rfl ⟨rfl, rfl, rfl, rfl, rfl⟩ rfl rfl rfl rfl rfl (by kernel_rfl) Tryz.func4 (by kernel_rfl)
    (of_decide_eq_true (by kernel_rfl)) (by unfold Func.isWrapper; first | (rw [if_pos (by decide +kernel)]; kernel_rfl) | (rw [if_neg (by decide +kernel)]; exact ⟨rfl, rfl⟩))
    (fun os started H enc _ => linkSays_lifted os started H enc)
theorem linkSays_card : Rows.LinkSaysCardSaid :=
  Claim7.holds_tied_plain_at .later [] [.listed, .data] true (true, "c0a8c998641c89cad588d90fec08d04a5e256d923978a8ee92bd971b1ad12cd0") false
    linkSays_holds (fun _ h => by cases h) (by kernel_rfl) (fun _ h => by cases h) linkSays_row_tie rfl ⟨rfl, rfl⟩ (by kernel_rfl) rfl
    (fun f fn hf hfn => by
      obtain rfl : f = 4 := Option.some.inj ((show Tryz.prog.funcNamed "portreeve/portreevelaw18.LinkSays" = some 4 by kernel_rfl).symm.trans hf) |>.symm
      obtain rfl : fn = Tryz.f4 := (Option.some.inj (Tryz.func4.symm.trans hfn)).symm
      exact ⟨by kernel_rfl, fun j t ht => by
        have ht : (#[40, 22] : Array TypeId)[j]? = some t := ht
        have hm : t ∈ [40, 22] := by simpa using Array.mem_of_getElem? ht
        have hall : ([40, 22].all fun u => !Tryz.prog.wantsStandIn u) = true := by kernel_rfl
        exact (show Tryz.prog.wantsStandIn t = false by simpa using List.all_eq_true.1 hall t hm)⟩)
    (by kernel_rfl)
#print axioms linkSays_holds
#print axioms linkSays_card

end Go.Proofs.YtonjofnphkghcaaGreatDoor
