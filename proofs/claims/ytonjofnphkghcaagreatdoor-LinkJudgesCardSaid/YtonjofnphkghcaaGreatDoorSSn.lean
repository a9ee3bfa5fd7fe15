/- Contracts of this program's functions over values, joined texts. Conditions: none. -/
import Derived.Test.YtonjofnphkghcaaGreatDoorSSm
set_option linter.unusedVariables false
set_option linter.unusedSimpArgs false
/- Contracts of this program's functions: rows of bytes, check sequences, what is escaped. Conditions: none. -/
namespace Go.VL
open Go.Proofs

theorem c_indexB (nl c : Bool) (l : List UInt8) (b : UInt8) (hl : l.length ≤ lim) (σ : St) : VCalls Tryz.prog 204 [.sl nl c 1 (bv l), .int .u8 b.toNat] σ fun r σ' => (∃ i : Int, r = .int .i64 i ∧ decide (0 ≤ i) = decide (b ∈ l)) ∧ σ' = σ := by
  refine vcalls_intro (C := cfg Tryz.prog [] [] []) (cfg_ok mixed) Tryz.func204 rfl rfl rfl rfl rfl ?_
  unfold lim at hl
  simp -implicitDefEqProofs only [go_sem, bv_length]
  refine w_loopL (fun i => i ≤ l.length ∧ b ∉ l.take i) (fun i => [(8, .int .i64 i), (7, .int .i64 l.length), (1, .int .u8 b.toNat), (0, .sl nl c 1 (bv l))]) (fun _ => σ) (fun i => l.length - i) 0 ⟨Nat.zero_le _, by simp⟩ ?_ rfl ?_
  · simp -implicitDefEqProofs only [go_sem]
    rfl
  rintro i ⟨hi, hno⟩ L hnext hleave
  rcases Nat.lt_or_ge i l.length with h | h
  · have hw1 : IntKind.i64.wrap ((i : Int) + 1) = ((i + 1 : Nat) : Int) := wrap_ok (by omega) (by omega)
    have e6 : ((b.toNat : Int) == (l[i].toNat : Int)) = (b == l[i]) := toNat_beq _ _
    simp -implicitDefEqProofs only [go_sem, bv_length, bv_getD h, h, e6]
    cases q : b == l[i]
    · have hne : ¬ b = l[i] := by simpa using q
      simp -implicitDefEqProofs only [go_sem, q]
      refine hnext (i + 1) _ _ ⟨h, ?_⟩ (by show l.length - (i + 1) < l.length - i; omega) ?_ rfl
      · rw [List.take_succ_eq_append_getElem h, List.mem_append]
        rintro (hm | hm)
        · exact hno hm
        · exact hne (List.mem_singleton.1 hm)
      · simp -implicitDefEqProofs only [go_sem, hw1]
    · have he : b = l[i] := by simpa using q
      have hm : decide (b ∈ l) = true := by rw [decide_eq_true_iff, he]; exact List.getElem_mem h
      simp -implicitDefEqProofs only [go_sem, q]
      refine hleave _ _ _ (fun h => by cases h) ?_
      simp -implicitDefEqProofs only [go_sem, hm]
      exact ⟨_, rfl, by simp⟩
  · have hn : ¬ (i < l.length) := by omega
    rw [List.take_of_length_le h] at hno
    have hm : decide (b ∈ l) = false := by rw [decide_eq_false_iff_not]; exact hno
    simp -implicitDefEqProofs only [go_sem, bv_length, hn]
    refine hleave _ _ _ (fun h => by cases h) ?_
    simp -implicitDefEqProofs only [go_sem, hm]
    exact ⟨_, rfl, rfl⟩
theorem c_containsB (nl c : Bool) (l : List UInt8) (b : UInt8) (hl : l.length ≤ lim) (σ : St) : VCalls Tryz.prog 164 [.sl nl c 1 (bv l), .int .u8 b.toNat] σ fun r σ' => r = .bool (decide (b ∈ l)) ∧ σ' = σ := by
  refine vcalls_intro (C := cfg Tryz.prog [] [] []) (cfg_ok mixed) Tryz.func164 rfl rfl rfl rfl rfl ?_
  simp -implicitDefEqProofs only [go_sem]
  refine vgo_call' rfl rfl rfl (c_indexB nl c l b hl σ) ?_
  rintro r σ' ⟨⟨i, rfl, hi⟩, rfl⟩
  refine ⟨rfl, ?_⟩
  simp -implicitDefEqProofs only [go_sem, hi]

theorem c_grow1 (n : Nat) (h0 : 0 < n) (h : n ≤ 1000000) (σ : St) : VCalls Tryz.prog 209 [.sl true false 1 [], .int .i64 n] σ fun r σ' => r = .rsl σ.length 0 0 0 ∧ σ' = σ ++ [.arr false 0 1 (List.replicate n (.int .u8 0))] := by
  refine vcalls_keep (C := cfg Tryz.prog [] [] []) (cfg_ok mixed) Tryz.func209 rfl rfl rfl rfl rfl ?_
  have h1 : decide ((n : Int) < 0) = false := by rw [decide_eq_false_iff_not]; omega
  have h2 : IntKind.i64.wrap ((0 : Int) - ((0 : Nat) : Int)) = 0 := by decide
  have h3 : IntKind.i64.wrap ((n : Int) - 0) = (n : Int) := wrap_ok (by omega) (by omega)
  have h4 : decide ((0 : Int) < (n : Int)) = true := by rw [decide_eq_true_iff]; omega
  have h5 : IntKind.i64.wrap (n : Int) = (n : Int) := wrap_ok (by omega) (by omega)
  have h6 : (List.replicate n (V.int .u8 0)).isEmpty = false := by cases n with
    | zero => omega
    | succ n => rfl
  simp -implicitDefEqProofs only [go_sem, h1, h2, h3, h4, h5, Int.sub_self, Int.sub_zero, List.length_replicate, h6]
  exact ⟨by simp, by unfold lim; omega, by unfold lim; omega⟩
theorem c_grow (n : Nat) (h0 : 0 < n) (h : n ≤ 1000000) (σ : St) : VCalls Tryz.prog 209 [.sl true false 0 [], .int .i64 n] σ fun r σ' => r = .rsl σ.length 0 0 0 ∧ σ' = σ ++ [.arr false 0 1 (List.replicate n (.int .u8 0))] :=
  (c_grow1 n h0 h σ).ne ⟨.nil _ _ _ _, .refl _, trivial⟩

/-- Rows, one behind the other. -/
abbrev RowB := Bool × Bool × List UInt8
def rwV (r : RowB) : V := .sl r.1 r.2.1 1 (bv r.2.2)
def rwsV (l : List RowB) : List V := l.map rwV
def catB (l : List RowB) : List UInt8 := l.flatMap (·.2.2)
theorem rws_length (l : List RowB) : (rwsV l).length = l.length := by simp [rwsV]
theorem rws_getD {l : List RowB} {i : Nat} (h : i < l.length) : (rwsV l).getD i .undef = rwV l[i] := by simp [rwsV, h]
theorem cat_take {l : List RowB} {i : Nat} (h : i < l.length) : catB (l.take (i + 1)) = catB (l.take i) ++ l[i].2.2 := by
  unfold catB
  rw [List.take_succ_eq_append_getElem h, List.flatMap_append]
  simp
theorem cat_le (l : List RowB) (i : Nat) : (catB (l.take i)).length ≤ (catB l).length := by
  have : catB l = catB (l.take i) ++ catB (l.drop i) := by
    unfold catB
    rw [← List.flatMap_append, List.take_append_drop]
  rw [this, List.length_append]
  omega
set_option maxHeartbeats 4000000 in
set_option maxRecDepth 20000 in
theorem c_concat (nl c : Bool) (l : List RowB) (hl : l.length ≤ 1000) (h0 : 0 < (catB l).length) (h : (catB l).length ≤ 1000000) (σ : St) : VCalls Tryz.prog 175 [.sl nl c 1 (rwsV l)] σ fun r σ' => r = .sl false false 1 (bv (catB l)) ∧ σ' = σ := by
  refine vcalls_intro (C := cfg Tryz.prog [33] [] []) (cfg_ok mixed) Tryz.func175 rfl rfl rfl rfl rfl ?_
  simp (maxSteps := 1000000) -implicitDefEqProofs only [go_sem, rws_length]
  refine w_loopL (fun i => i ≤ l.length) (fun i => [(11, .int .i64 i), (10, .int .i64 l.length), (9, .sl nl c 1 (rwsV l)), (3, .int .i64 (catB (l.take i)).length), (0, .sl nl c 1 (rwsV l))]) (fun _ => σ) (fun i => l.length - i) 0 (Nat.zero_le _) ?_ rfl ?_
  · simp -implicitDefEqProofs only [go_sem]
    exact ⟨rfl, rfl⟩
  · intro i hi L hnext hleave
    rcases Nat.lt_or_ge i l.length with hlt | hlt
    · have hw1 : IntKind.i64.wrap ((i : Int) + 1) = ((i + 1 : Nat) : Int) := wrap_ok (by omega) (by omega)
      have hct := cat_take hlt
      have hcl := cat_le l (i + 1)
      rw [hct, List.length_append] at hcl
      have hw2 : IntKind.i64.wrap (((catB (l.take i)).length : Int) + (l[i].2.2.length : Int)) = (((catB (l.take (i + 1))).length : Nat) : Int) := by
        rw [hct, List.length_append]
        rw [show (((catB (l.take i)).length : Int) + (l[i].2.2.length : Int)) = (((catB (l.take i)).length + l[i].2.2.length : Nat) : Int) by omega]
        exact wrap_ok (by omega) (by omega)
      have hw3 : decide ((((catB (l.take (i + 1))).length : Nat) : Int) < 0) = false := by rw [decide_eq_false_iff_not]; omega
      simp (maxSteps := 1000000) -implicitDefEqProofs only [go_sem, rws_length, rws_getD hlt, hlt, rwV, bv_length, hw2, hw3]
      refine hnext (i + 1) _ _ hlt (by show l.length - (i + 1) < l.length - i; omega) ?_ rfl
      simp (maxSteps := 1000000) -implicitDefEqProofs only [go_sem, hw1]
    · have hn : ¬ (i < l.length) := by omega
      simp (maxSteps := 1000000) -implicitDefEqProofs only [go_sem, hn]
      refine hleave _ _ _ (fun h => by cases h) ?_
      rw [List.take_of_length_le hlt]
      simp (maxSteps := 1000000) -implicitDefEqProofs only [go_sem]
      refine vgo_call' rfl rfl rfl (c_grow (catB l).length h0 h σ) ?_
      rintro r σ' ⟨rfl, rfl⟩
      refine ⟨rfl, ?_⟩
      simp (maxSteps := 1000000) -implicitDefEqProofs only [go_sem, rws_length]
      refine w_loopL (fun i => i ≤ l.length) (fun i => [(27, .int .i64 i), (26, .int .i64 l.length), (25, .sl nl c 1 (rwsV l)), (6, .rsl σ.length 0 0 (catB (l.take i)).length)]) (fun i => σ ++ [.arr false 0 1 (bv (catB (l.take i)) ++ List.replicate ((catB l).length - (catB (l.take i)).length) (.int .u8 0))]) (fun i => l.length - i) 0 (Nat.zero_le _) ?_ ?_ ?_
      · simp -implicitDefEqProofs only [go_sem]
        exact ⟨rfl, rfl⟩
      · rfl
      intro j hj L2 hnext2 hleave2
      rcases Nat.lt_or_ge j l.length with hl2 | hl2
      · have hw1 : IntKind.i64.wrap ((j : Int) + 1) = ((j + 1 : Nat) : Int) := wrap_ok (by omega) (by omega)
        have hct := cat_take hl2
        have hcl := cat_le l (j + 1)
        have hc0 := cat_le l j
        rw [hct, List.length_append] at hcl
        have hlen : (bv (catB (l.take j)) ++ List.replicate ((catB l).length - (catB (l.take j)).length) (V.int .u8 0)).length = (catB l).length := by
          rw [List.length_append, bv_length, List.length_replicate]; omega
        have htk : (bv (catB (l.take j)) ++ List.replicate ((catB l).length - (catB (l.take j)).length) (V.int .u8 0)).take (catB (l.take j)).length = bv (catB (l.take j)) := by
          rw [List.take_append_of_le_length (by rw [bv_length]; exact Nat.le_refl _), List.take_of_length_le (by rw [bv_length]; exact Nat.le_refl _)]
        have hdr : (bv (catB (l.take j)) ++ List.replicate ((catB l).length - (catB (l.take j)).length) (V.int .u8 0)).drop ((catB (l.take j)).length + l[j].2.2.length) = List.replicate ((catB l).length - (catB (l.take (j + 1))).length) (V.int .u8 0) := by
          rw [List.drop_append, bv_length, List.drop_of_length_le (by rw [bv_length]; omega), List.nil_append, List.drop_replicate]
          congr 1
          rw [hct, List.length_append]
          omega
        simp (maxSteps := 1000000) -implicitDefEqProofs only [go_sem, rws_length, rws_getD hl2, hl2, rwV, bv_length, hlen]
        refine ⟨by omega, by omega, ?_⟩
        refine hnext2 (j + 1) _ _ hl2 (by show l.length - (j + 1) < l.length - j; omega) ?_ ?_
        · simp (maxSteps := 1000000) -implicitDefEqProofs only [go_sem, hw1, hct, List.length_append]
        · rw [htk, hdr, hct]
          have : bv (catB (l.take j)) ++ bv l[j].2.2 = bv (catB (l.take j) ++ l[j].2.2) := by unfold bv; rw [List.map_append]
          rw [this]
      · have hn : ¬ (j < l.length) := by omega
        simp (maxSteps := 1000000) -implicitDefEqProofs only [go_sem, hn]
        refine hleave2 _ _ _ (fun h => by cases h) ?_
        rw [List.take_of_length_le hl2]
        have ht : (bv (catB l)).take (catB l).length = bv (catB l) := List.take_of_length_le (Nat.le_of_eq (bv_length _))
        simp (maxSteps := 1000000) -implicitDefEqProofs only [go_sem, Nat.sub_self, List.replicate_zero, ht]

/-! Check sequences. -/
def stepF (m : Int) : Int := ibits .xor .u16 (m.fdiv (2 ^ 1)) (ibits .and .u16 33800 (IntKind.u16.wrap (0 - ibits .and .u16 m 1)))
def iterF : Nat → Int → Int
  | 0, m => m
  | n + 1, m => stepF (iterF n m)
def stepZ (m : Int) (b : UInt8) : Int := iterF 8 (ibits .xor .u16 m (IntKind.u16.wrap b.toNat))
def onZ (m : Int) (l : List UInt8) : Int := l.foldl stepZ m
theorem c_step (m : Int) (b : UInt8) (σ : St) : VCalls Tryz.prog 239 [.int .u16 m, .int .u8 b.toNat] σ fun r σ' => r = .int .u16 (stepZ m b) ∧ σ' = σ := by
  refine vcalls_intro (C := cfg Tryz.prog [] [] []) (cfg_ok mixed) Tryz.func239 rfl rfl rfl rfl rfl ?_
  simp (maxSteps := 1000000) -implicitDefEqProofs only [go_sem]
  refine w_loopL (fun i => i ≤ 8) (fun i => [(9, .int .i64 (i : Nat)), (0, .int .u16 (iterF i (ibits .xor .u16 m (IntKind.u16.wrap b.toNat))))]) (fun _ => σ) (fun i => 8 - i) 0 (Nat.zero_le _) ?_ rfl ?_
  · simp -implicitDefEqProofs only [go_sem]
    exact ⟨rfl, rfl⟩
  intro i hi L hnext hleave
  rcases Nat.lt_or_ge i 8 with h | h
  · have hw1 : IntKind.i64.wrap ((i : Int) + 1) = ((i + 1 : Nat) : Int) := wrap_ok (by omega) (by omega)
    have hd : decide ((i : Int) < 8) = true := by rw [decide_eq_true_iff]; omega
    simp (maxSteps := 1000000) -implicitDefEqProofs only [go_sem, hd]
    refine hnext (i + 1) _ _ (by show i + 1 ≤ 8; omega) (by show 8 - (i + 1) < 8 - i; omega) ?_ rfl
    simp (maxSteps := 1000000) -implicitDefEqProofs only [go_sem, hw1]
    rfl
  · have hd : decide ((i : Int) < 8) = false := by rw [decide_eq_false_iff_not]; omega
    have h8 : i = 8 := by omega
    simp (maxSteps := 1000000) -implicitDefEqProofs only [go_sem, hd]
    refine hleave _ _ _ (fun h => by cases h) ?_
    simp (maxSteps := 1000000) -implicitDefEqProofs only [go_sem]
    rw [h8]
    rfl
theorem c_on (m : Int) (nl c : Bool) (l : List UInt8) (hl : l.length ≤ lim) (σ : St) : VCalls Tryz.prog 207 [.int .u16 m, .sl nl c 1 (bv l)] σ fun r σ' => r = .int .u16 (onZ m l) ∧ σ' = σ := by
  refine vcalls_intro (C := cfg Tryz.prog [] [] []) (cfg_ok mixed) Tryz.func207 rfl rfl rfl rfl rfl ?_
  unfold lim at hl
  simp (maxSteps := 1000000) -implicitDefEqProofs only [go_sem, bv_length]
  refine w_loopL (fun i => i ≤ l.length) (fun i => [(9, .int .i64 i), (8, .int .i64 l.length), (7, .sl nl c 1 (bv l)), (0, .int .u16 (onZ m (l.take i)))]) (fun _ => σ) (fun i => l.length - i) 0 (Nat.zero_le _) ?_ rfl ?_
  · simp -implicitDefEqProofs only [go_sem]
    exact ⟨rfl, rfl⟩
  intro i hi L hnext hleave
  rcases Nat.lt_or_ge i l.length with h | h
  · have hw1 : IntKind.i64.wrap ((i : Int) + 1) = ((i + 1 : Nat) : Int) := wrap_ok (by omega) (by omega)
    have ho : onZ m (l.take (i + 1)) = stepZ (onZ m (l.take i)) l[i] := by
      unfold onZ
      rw [List.take_succ_eq_append_getElem h, List.foldl_append]
      rfl
    simp (maxSteps := 1000000) -implicitDefEqProofs only [go_sem, bv_length, bv_getD h, h]
    refine vgo_call rfl rfl rfl rfl (c_step _ _ _) ?_
    simp (maxSteps := 1000000) -implicitDefEqProofs only [go_sem]
    refine hnext (i + 1) _ _ h (by show l.length - (i + 1) < l.length - i; omega) ?_ rfl
    rw [ho]
    simp (maxSteps := 1000000) -implicitDefEqProofs only [go_sem, hw1]
  · have hn : ¬ (i < l.length) := by omega
    simp (maxSteps := 1000000) -implicitDefEqProofs only [go_sem, hn]
    refine hleave _ _ _ (fun h => by cases h) ?_
    rw [List.take_of_length_le h]
    simp (maxSteps := 1000000) -implicitDefEqProofs only [go_sem]
theorem c_cloneB (c : Bool) (l : List UInt8) (hl : l.length ≤ lim) (σ : St) : VCalls Tryz.prog 208 [.sl false c 1 (bv l)] σ fun r σ' => r = .rsl σ.length 0 0 l.length ∧ σ' = σ ++ [.arr false 0 1 (bv l)] := by
  refine vcalls_keep (C := cfg Tryz.prog [] [] []) (cfg_ok mixed) Tryz.func208 rfl rfl rfl rfl rfl ?_
  simp (maxSteps := 1000000) -implicitDefEqProofs only [go_sem, bv_length, Nat.zero_add]
  exact hl

end Go.VL

/- Contracts of this program's functions: frames as they are sent. Conditions: none. -/
namespace Go.VL
open Go.Proofs

/-- Bytes, with their check sequence behind them. -/
def sumZ (l : List UInt8) : Int := ibits .xor .u16 (bif IntKind.u16.signed then -1 else IntKind.u16.max) (onZ 65535 l)
def u8Z (n : Int) : UInt8 := UInt8.ofNat (IntKind.u8.wrap n).toNat
theorem u8Z_nat (n : Int) : ((u8Z n).toNat : Int) = IntKind.u8.wrap n := by
  unfold u8Z
  have h : 0 ≤ IntKind.u8.wrap n ∧ IntKind.u8.wrap n < 256 := by
    unfold IntKind.wrap
    simp [IntKind.bits, IntKind.signed]
    omega
  simp
  omega
def putB (l : List UInt8) : List UInt8 := l ++ [u8Z (sumZ l), u8Z ((sumZ l).fdiv (2 ^ 8))]
set_option maxRecDepth 20000 in
theorem c_fput (c : Bool) (l : List UInt8) (hl : l.length ≤ 1000000) (σ : St) : VCalls Tryz.prog 174 [.sl false c 1 (bv l)] σ fun r σ' => r = .sl false false 1 (bv (putB l)) ∧ σ' = σ := by
  refine vcalls_intro (C := cfg Tryz.prog [] [] [15]) (cfg_ok mixed) Tryz.func174 rfl rfl rfl rfl rfl ?_
  have hl' : l.length ≤ lim := by unfold lim; omega
  have hp : bv (putB l) = bv l ++ [.int .u8 (IntKind.u8.wrap (sumZ l)), .int .u8 (IntKind.u8.wrap ((sumZ l).fdiv (2 ^ 8)))] := by
    unfold putB bv
    rw [List.map_append]
    simp only [List.map_cons, List.map_nil, u8Z_nat]
  simp (maxSteps := 1000000) -implicitDefEqProofs only [go_sem]
  refine vgo_call rfl rfl rfl rfl (c_on 65535 false c l hl' σ) ?_
  simp (maxSteps := 1000000) -implicitDefEqProofs only [go_sem]
  refine vgo_call' rfl rfl rfl (c_cloneB c l hl' σ) ?_
  rintro r σ' ⟨rfl, rfl⟩
  refine ⟨rfl, ?_⟩
  simp (maxSteps := 1000000) -implicitDefEqProofs only [go_sem, bv_length]
  rw [hp]
  exact ⟨by unfold lim; omega, rfl⟩

/-! What is escaped. -/
def oddC (accm : Int) (c : UInt8) : Bool := ((c.toNat : Int) == 126) || (((c.toNat : Int) == 125) || (decide ((c.toNat : Int) < 32) && (ibits .and .u32 (accm.fdiv (2 ^ c.toNat)) 1 == 1)))
set_option maxRecDepth 20000 in
theorem c_esc1 (accm : Int) (c : UInt8) (σ : St) : VCalls Tryz.prog 210 [.int .u8 c.toNat, .ip [.int .u32 accm]] σ fun r σ' => r = .bool (oddC accm c) ∧ σ' = σ := by
  refine vcalls_intro (C := cfg Tryz.prog [] [] []) (cfg_ok mixed) Tryz.func210 rfl rfl rfl rfl rfl ?_
  unfold oddC
  simp (maxSteps := 1000000) -implicitDefEqProofs only [go_sem]
  cases q1 : ((c.toNat : Int) == 126)
  case true => simp (maxSteps := 1000000) -implicitDefEqProofs only [go_sem, q1, Bool.true_or]
  cases q2 : ((c.toNat : Int) == 125)
  case true => simp (maxSteps := 1000000) -implicitDefEqProofs only [go_sem, q1, q2, Bool.true_or, Bool.false_or]
  cases q3 : decide ((c.toNat : Int) < 32)
  case false => simp (maxSteps := 1000000) -implicitDefEqProofs only [go_sem, q1, q2, q3, Bool.false_or, Bool.false_and]
  simp (maxSteps := 1000000) -implicitDefEqProofs only [go_sem, q1, q2, q3, Bool.false_or, Bool.true_and]
  have h32 : c.toNat ≤ 32 := by have := of_decide_eq_true q3; omega
  rw [if_pos h32]
def escO (accm : Int) (c : UInt8) : List UInt8 := bif oddC accm c then [125, c ^^^ 32] else [c]
def escB (accm : Int) (l : List UInt8) : List UInt8 := l.flatMap (escO accm)
theorem xor_all : ∀ c : Fin 256, ibits .xor .u8 (c.val : Int) 32 = (((UInt8.ofNat c.val) ^^^ 32).toNat : Int) := by decide +kernel
theorem xor_32 (c : UInt8) : ibits .xor .u8 (c.toNat : Int) 32 = ((c ^^^ 32).toNat : Int) := by
  have := xor_all ⟨c.toNat, c.toNat_lt⟩
  have e : UInt8.ofNat c.toNat = c := by simp
  simpa only [e] using this
theorem esc_take (accm : Int) {l : List UInt8} {i : Nat} (h : i < l.length) : escB accm (l.take (i + 1)) = escB accm (l.take i) ++ escO accm l[i] := by
  unfold escB
  rw [List.take_succ_eq_append_getElem h, List.flatMap_append]
  simp
theorem escO_len (accm : Int) (c : UInt8) : (escO accm c).length ≤ 2 ∧ 1 ≤ (escO accm c).length := by
  unfold escO
  cases oddC accm c <;> simp
theorem esc_len (accm : Int) (l : List UInt8) : ∀ i, i ≤ l.length → (escB accm (l.take i)).length ≤ 2 * i ∧ i ≤ (escB accm (l.take i)).length
  | 0, _ => by simp [escB]
  | i + 1, h => by
    rw [esc_take accm h, List.length_append]
    have h1 := esc_len accm l i (by omega)
    have h2 := escO_len accm l[i]
    omega
set_option maxHeartbeats 4000000 in
set_option maxRecDepth 20000 in
theorem c_escape (nl c : Bool) (l : List UInt8) (accm : Int) (hl : l.length ≤ 1000000) (σ : St) : VCalls Tryz.prog 176 [.sl nl c 1 (bv l), .int .u32 accm] σ fun r σ' => r = .sl l.isEmpty false 1 (bv (escB accm l)) ∧ σ' = σ := by
  refine vcalls_intro (C := cfg Tryz.prog [] [] []) (cfg_ok mixed) Tryz.func176 rfl rfl rfl rfl rfl ?_
  simp (maxSteps := 1000000) -implicitDefEqProofs only [go_sem, bv_length]
  refine loop_adopt 6 1 σ.length rfl rfl ?_
  refine w_loopL (fun i => i ≤ l.length) (fun i => [(12, .int .i64 i), (11, .int .i64 l.length), (10, .sl nl c 1 (bv l)), (6, .rsl σ.length i 0 (escB accm (l.take i)).length), (5, .fn (.func 210) [] [.ip [.int .u32 accm]])]) (fun i => σ ++ [.arr (i == 0) i 1 (bv (escB accm (l.take i)))]) (fun i => l.length - i) 0 (Nat.zero_le _) ?_ rfl ?_
  · simp (maxSteps := 1000000) -implicitDefEqProofs only [go_sem]
    repeat' apply And.intro
    all_goals rfl
  intro i hi L hnext hleave
  have hel := esc_len accm l i hi
  have hbl : (bv (escB accm (l.take i))).length = (escB accm (l.take i)).length := bv_length _
  rcases Nat.lt_or_ge i l.length with h | h
  · have hw1 : IntKind.i64.wrap ((i : Int) + 1) = ((i + 1 : Nat) : Int) := wrap_ok (by omega) (by omega)
    have het := esc_take accm h
    have hx := xor_32 l[i]
    have hz : ((i + 1 : Nat) == 0) = false := rfl
    simp (maxSteps := 1000000) -implicitDefEqProofs only [go_sem, bv_length, bv_getD h, h]
    refine vgo_call rfl rfl rfl rfl (c_esc1 accm l[i] _) ?_
    cases ho : oddC accm l[i]
    · have hO : escO accm l[i] = [l[i]] := by unfold escO; rw [ho]; rfl
      rw [hO] at het
      simp (maxSteps := 1000000) -implicitDefEqProofs only [go_sem, hbl]
      refine ⟨by unfold lim; omega, ?_⟩
      refine hnext (i + 1) _ _ h (by show l.length - (i + 1) < l.length - i; omega) ?_ ?_
      · rw [het]
        simp (maxSteps := 1000000) -implicitDefEqProofs only [go_sem, hw1, List.length_append, List.length_cons, List.length_nil]
      · rw [het]
        unfold bv
        rw [List.map_append]
        simp (maxSteps := 1000000) -implicitDefEqProofs only [go_sem, hz]
    · have hO : escO accm l[i] = [125, l[i] ^^^ 32] := by unfold escO; rw [ho]; rfl
      rw [hO] at het
      simp (maxSteps := 1000000) -implicitDefEqProofs only [go_sem, hbl, hx]
      refine ⟨by unfold lim; omega, ?_⟩
      refine hnext (i + 1) _ _ h (by show l.length - (i + 1) < l.length - i; omega) ?_ ?_
      · rw [het]
        simp (maxSteps := 1000000) -implicitDefEqProofs only [go_sem, hw1, List.length_append, List.length_cons, List.length_nil]
      · rw [het]
        unfold bv
        rw [List.map_append]
        simp (maxSteps := 1000000) -implicitDefEqProofs only [go_sem, hz]
        rfl
  · have hn : ¬ (i < l.length) := by omega
    have hil : i = l.length := by omega
    have hb : (i == 0) = l.isEmpty := by rw [hil]; cases l <;> rfl
    have ht : (bv (escB accm l)).take (escB accm l).length = bv (escB accm l) := List.take_of_length_le (Nat.le_of_eq (bv_length _))
    simp (maxSteps := 1000000) -implicitDefEqProofs only [go_sem, hn]
    refine hleave _ _ _ (fun h => by cases h) ?_
    rw [List.take_of_length_le h, hb]
    simp (maxSteps := 1000000) -implicitDefEqProofs only [go_sem, ht]
def lineS (accm : Int) (l : List UInt8) : List UInt8 := 126 :: (escB accm l ++ [126])
set_option maxRecDepth 20000 in
theorem c_ssend (nl c : Bool) (l : List UInt8) (accm : Int) (hl : l.length ≤ 1000000) (h0 : l ≠ []) (σ : St) : VCalls Tryz.prog 124 [.sl nl c 1 (bv l), .int .u32 accm] σ fun r σ' => r = .sl false false 1 (bv (lineS accm l)) ∧ σ' = σ := by
  refine vcalls_intro (C := cfg Tryz.prog [] [] [11]) (cfg_ok mixed) Tryz.func124 rfl rfl rfl rfl rfl ?_
  have hel := esc_len accm l l.length (Nat.le_refl _)
  rw [List.take_length] at hel
  have hpos : 0 < l.length := List.length_pos_iff.2 h0
  have hne : bv (escB accm l) ≠ [] := by
    intro h
    have := congrArg List.length h
    rw [bv_length] at this
    simp only [List.length_nil] at this
    omega
  simp (maxSteps := 1000000) -implicitDefEqProofs only [go_sem]
  refine vgo_call rfl rfl rfl rfl (c_escape nl c l accm hl σ) ?_
  simp (maxSteps := 1000000) -implicitDefEqProofs only [go_sem, bv_length]
  refine ⟨by unfold lim; omega, .inr hne, by omega, by unfold lim; omega, ?_⟩
  unfold lineS bv
  rw [List.map_cons, List.map_append]
  rfl

end Go.VL

/- Contracts of this program's functions: which links are right, the same, and a new one, as the program tells it. Conditions: none. -/
namespace Go.VL
open Go.Proofs

def newK : LinkV := ⟨0, ⟨[], true, false, 0, false⟩, newN (plugR 0 0), freshN, zAu 0, zMe, -1, 0⟩
set_option maxRecDepth 20000 in
theorem c_lnew (σ : St) : VCalls Tryz.prog 44 [] σ fun r σ' => r = lkv newK ∧ σ' = σ := by
  refine vcalls_intro (C := cfg Tryz.prog [] [] []) (cfg_ok mixed) Tryz.func44 rfl rfl rfl rfl rfl ?_
  have hn := c_new (plugR 0 0) σ
  unfold rv rvC plugR at hn
  have hf := c_fresh σ
  simp (maxSteps := 1000000) -implicitDefEqProofs only [go_sem]
  refine vgo_call rfl rfl rfl rfl hn ?_
  simp (maxSteps := 1000000) -implicitDefEqProofs only [go_sem]
  refine vgo_call rfl rfl rfl rfl hf ?_
  generalize hA : newN ⟨false, 0, 0, 0, 0⟩ = A
  generalize hB : freshN = B
  simp (maxSteps := 1000000) -implicitDefEqProofs only [go_sem, ngv, ngC]
  rw [← hA, ← hB]
  rfl

set_option maxRecDepth 20000 in
theorem c_isline1 (l : LineV) (hz : l.sz = 1) (hb : l.b.length ≤ lim) (σ : St) : VCalls Tryz.prog 112 [lnv l] σ fun r σ' => r = .bool (lineB l) ∧ σ' = σ := by
  refine vcalls_intro (C := cfg Tryz.prog [] [] []) (cfg_ok mixed) Tryz.func112 rfl rfl rfl rfl rfl ?_
  have e1 : decide ((l.b.length : Int) ≤ 1508) = decide (l.b.length ≤ 1508) := by rw [Bool.eq_iff_iff]; simp; omega
  have e2 : ((l.b.length : Int) == 0) = l.b.isEmpty := by cases l.b <;> rfl
  have hc := c_containsB l.nl l.c l.b 126 hb
  unfold lineB
  simp (maxSteps := 1000000) -implicitDefEqProofs only [go_sem, lnv, lnC, bv_length, hz]
  cases q1 : decide (l.b.length ≤ 1508)
  · rw [q1] at e1
    simp (maxSteps := 1000000) -implicitDefEqProofs only [go_sem, e1]
  · rw [q1] at e1
    cases q2 : l.long
    · simp (maxSteps := 1000000) -implicitDefEqProofs only [go_sem, e1]
      refine vgo_call rfl rfl rfl rfl (hc _) ?_
      simp (maxSteps := 1000000) -implicitDefEqProofs only [go_sem]
    · cases q3 : l.b.isEmpty
      · rw [q3] at e2
        simp (maxSteps := 1000000) -implicitDefEqProofs only [go_sem, e1, bv_length, e2]
      · rw [q3] at e2
        simp (maxSteps := 1000000) -implicitDefEqProofs only [go_sem, e1, bv_length, e2]
        refine vgo_call rfl rfl rfl rfl (hc _) ?_
        simp (maxSteps := 1000000) -implicitDefEqProofs only [go_sem]

set_option maxRecDepth 20000 in
theorem c_mright (m : MeterV) (σ : St) : VCalls Tryz.prog 114 [mev m] σ fun r σ' => r = .bool (meterB m) ∧ σ' = σ := by
  refine vcalls_intro (C := cfg Tryz.prog [] [] []) (cfg_ok mixed) Tryz.func114 rfl rfl rfl rfl rfl ?_
  unfold meterB
  simp (maxSteps := 1000000) -implicitDefEqProofs only [go_sem, mev, meC]
  cases q1 : decide (0 ≤ m.left) <;> simp (maxSteps := 1000000) -implicitDefEqProofs only [go_sem]

set_option maxHeartbeats 1000000 in
set_option maxRecDepth 20000 in
theorem c_cright (a : AuthV) (h : authB a = true) (σ : St) : VCalls Tryz.prog 113 [auhv a] σ fun r σ' => r = .bool true ∧ σ' = σ := by
  refine vcalls_intro (C := cfg Tryz.prog [] [] []) (cfg_ok mixed) Tryz.func113 rfl rfl rfl rfl rfl ?_
  unfold authB at h
  simp only [Bool.and_eq_true, decide_eq_true_eq] at h
  obtain ⟨⟨h1, h2⟩, h3⟩ := h
  have a3 : decide (a.tries < 0) = false := by rw [decide_eq_false_iff_not]; omega
  have a4 : decide (4 < a.tries) = false := by rw [decide_eq_false_iff_not]; omega
  cases q : a.st == 1
  · rw [q] at h3
    simp only [cond_false, Bool.and_eq_true, Bool.or_eq_true, beq_iff_eq] at h3
    obtain ⟨h4, h5⟩ := h3
    have a1 : decide (a.st < 0) = false := by rw [decide_eq_false_iff_not]; omega
    have a2 : decide (3 < a.st) = false := by rw [decide_eq_false_iff_not]; omega
    simp (maxSteps := 1000000) -implicitDefEqProofs only [go_sem, auhv, auhC, a1, a2, a3, a4, q, h5]
  · rw [q] at h3
    simp only [cond_true, Bool.and_eq_true, decide_eq_true_eq] at h3
    obtain ⟨⟨h4, h5⟩, h6⟩ := h3
    have hs : a.st = 1 := by simpa using q
    have b1 : decide (1 ≤ a.left) = true := by rw [decide_eq_true_eq]; omega
    have b2 : decide (a.left ≤ 4) = true := by rw [decide_eq_true_eq]; omega
    have b3 : decide (0 < a.tries) = true := by rw [decide_eq_true_eq]; omega
    simp (maxSteps := 1000000) -implicitDefEqProofs only [go_sem, auhv, auhC, a3, a4, hs, b1, b2, b3]

set_option maxRecDepth 20000 in
theorem c_stsame (a b : LineV) (h1 : a.sz = 1) (h2 : b.sz = 1) (σ : St) : VCalls Tryz.prog 115 [lnv a, lnv b] σ fun r σ' => r = .bool (sameLn a b) ∧ σ' = σ := by
  refine vcalls_intro (C := cfg Tryz.prog [] [] []) (cfg_ok mixed) Tryz.func115 rfl rfl rfl rfl rfl ?_
  unfold sameLn
  simp (maxSteps := 1000000) -implicitDefEqProofs only [go_sem, lnv, lnC, h1, h2]
  refine vgo_call rfl rfl rfl rfl (c_bytesEqual a.nl a.c b.nl b.c a.b b.b σ) ?_
  simp (maxSteps := 1000000) -implicitDefEqProofs only [go_sem]
  cases decide (a.b = b.b) <;> simp (maxSteps := 1000000) -implicitDefEqProofs only [go_sem]

set_option maxHeartbeats 4000000 in
set_option maxRecDepth 20000 in
theorem c_lright1 (k : LinkV) (hz : k.line.sz = 1) (hb : k.line.b.length ≤ lim) (hg : GoodK k) (σ : St) : VCalls Tryz.prog 46 [lkv k] σ fun r σ' => r = .bool true ∧ σ' = σ := by
  refine vcalls_intro (C := cfg Tryz.prog [] [] []) (cfg_ok mixed) Tryz.func46 rfl rfl rfl rfl rfl ?_
  have h1 := c_isline1 k.line hz hb σ
  have h2 := c_nright k.l hg.l.e σ
  have h3 := c_nright k.n hg.n.e σ
  have h4 := c_cright k.a hg.au σ
  have h5 := c_mright k.m σ
  have h6 := c_lphase k σ
  rw [hg.line] at h1
  rw [hg.l.right] at h2
  rw [hg.n.right] at h3
  rw [hg.me] at h5
  have a6 := hg.lip
  have a7 := hg.nip
  unfold lnv lnC at h1
  unfold auhv auhC at h4
  unfold mev meC at h5
  unfold lkv lkC at h6
  unfold ngv ngC at h2 h3
  have e8 : decide (-1 ≤ k.sess) = true := by rw [decide_eq_true_eq]; exact hg.low
  have e9 : (k.phase == phaseP k) = true := by rw [hg.phase]; simp
  simp (maxSteps := 1000000) -implicitDefEqProofs only [go_sem, lkv, lkC]
  refine vgo_call rfl rfl rfl rfl h1 ?_
  simp (maxSteps := 1000000) -implicitDefEqProofs only [go_sem]
  refine vgo_call rfl rfl rfl rfl h2 ?_
  simp (maxSteps := 1000000) -implicitDefEqProofs only [go_sem]
  refine vgo_call rfl rfl rfl rfl h3 ?_
  simp (maxSteps := 1000000) -implicitDefEqProofs only [go_sem]
  refine vgo_call rfl rfl rfl rfl h4 ?_
  simp (maxSteps := 1000000) -implicitDefEqProofs only [go_sem]
  refine vgo_call rfl rfl rfl rfl h5 ?_
  simp (maxSteps := 1000000) -implicitDefEqProofs only [go_sem]
  refine w_walk3 [] [0, 1, 2, 3, 4, 5, 6, 7, 8, 9, 10, 11, 12, 13, 14, 15, 16, 17, 18, 19, 20, 21, 22, 23, 24, 25, 26, 27, 28, 29, 30, 31, 32, 33, 34, 35, 36, 37, 38, 39, 40, 41, 42] [27, 28, 29, 30, 31, 32, 33, 34, 35, 36, 37, 38, 39, 40, 41, 42, 43, 44, 45, 46, 47, 48, 49, 50, 51, 52, 53, 54, 55, 56, 57, 58, 59, 60, 61, 62, 63, 64, 65, 66, 67, 68, 2] [0, 1, 3, 7, 15, 31, 63, 127, 255, 511, 1023, 2047, 4095, 8191, 16383, 32767, 65535, 131071, 262143, 524287, 1048575, 2097151, 1048575, 5242879, 16777215, 33554431, 67108863, 134217727, 268435455, 536870911, 1073741823, 2147483647, 4294967295, 8589934591, 17179869183, 34359738367, 68719476735, 137438953471, 274877906943, 549755813887, 1099511627775, 2199023255551, 4398046511103] [2] rfl rfl rfl rfl rfl ?_
  simp (maxSteps := 1000000) -implicitDefEqProofs only [go_sem, a6, a7, e8]
  rw [a6, a7] at h6
  refine vdgo_call rfl rfl rfl rfl h6 ?_
  rcases hg.sess with hs | ⟨hs1, hs2⟩
  · have b1 : decide (k.sess < 0) = true := by rw [decide_eq_true_eq]; omega
    simp (maxSteps := 1000000) -implicitDefEqProofs only [go_sem, e9, b1]
  · have c2 : (k.phase == 3) = true := by rw [hs1]; rfl
    have c3 : (k.a.st == 2) = true := by rw [hs2]; rfl
    cases b1 : decide (k.sess < 0)
    · simp (maxSteps := 1000000) -implicitDefEqProofs only [go_sem, e9, b1, c2, c3]
    · simp (maxSteps := 1000000) -implicitDefEqProofs only [go_sem, e9, b1]

set_option maxHeartbeats 4000000 in
set_option maxRecDepth 20000 in
theorem c_lsame1 (a b : LinkV) (z1 : a.line.sz = 1) (z2 : b.line.sz = 1) (l1 : a.l.ps = 2) (l2 : b.l.ps = 2) (n1 : a.n.ps = 2) (n2 : b.n.ps = 2) (hL : CmpN a.l) (hN : CmpN a.n) (hk : sameK a b = true) (σ : St) : VCalls Tryz.prog 47 [lkv a, lkv b] σ fun r σ' => r = .bool true ∧ σ' = σ := by
  refine vcalls_intro (C := cfgE Tryz.prog 35 auKs [] [] []) (cfgE_ok mixed auKs_ok fun n e h => by rw [ty35] at h; cases h) Tryz.func47 rfl rfl rfl rfl rfl ?_
  have h1 := c_stsame a.line b.line z1 z2 σ
  have h2 := c_nsame a.l b.l l1 l2 hL.o.1 hL.p.1 σ
  have h3 := c_nsame a.n b.n n1 n2 hN.o.1 hN.p.1 σ
  unfold sameK at hk
  simp only [Bool.and_eq_true] at hk
  obtain ⟨⟨⟨⟨⟨⟨⟨k1, k2⟩, k3⟩, q4⟩, hA⟩, hB⟩, q7⟩, q8⟩ := hk
  rw [k1] at h1
  rw [k2] at h2
  rw [k3] at h3
  unfold lnv lnC at h1
  unfold ngv ngC at h2 h3
  have e8 : ((a.addr.toNat : Int) == (b.addr.toNat : Int)) = true := by
    have : a.addr = b.addr := by simpa using q8
    rw [this]
    simp
  simp (maxSteps := 1000000) -implicitDefEqProofs only [go_sem, cfgE_T, cfgE_P, cfgE_esc, cfgE_wrt, cfgE_frz, tyE_if, auKs, eqAuh, auhC] at hA
  simp (maxSteps := 1000000) -implicitDefEqProofs only [go_sem, cfgE_T, cfgE_P, cfgE_esc, cfgE_wrt, cfgE_frz, tyE_if, auKs, eqMe, meC] at hB
  simp (maxSteps := 1000000) -implicitDefEqProofs only [go_sem, cfgE_T, cfgE_P, cfgE_esc, cfgE_wrt, cfgE_frz, tyE_if, auKs, lkv, lkC, q4, mk, hA, hB, q7, e8]
  refine vgo_call rfl rfl rfl rfl h1 ?_
  simp (maxSteps := 1000000) -implicitDefEqProofs only [go_sem, cfgE_T, cfgE_P, cfgE_esc, cfgE_wrt, cfgE_frz, tyE_if, auKs]
  refine vgo_call rfl rfl rfl rfl h2 ?_
  simp (maxSteps := 1000000) -implicitDefEqProofs only [go_sem, cfgE_T, cfgE_P, cfgE_esc, cfgE_wrt, cfgE_frz, tyE_if, auKs]
  refine vgo_call rfl rfl rfl rfl h3 ?_
  simp (maxSteps := 1000000) -implicitDefEqProofs only [go_sem, cfgE_T, cfgE_P, cfgE_esc, cfgE_wrt, cfgE_frz, tyE_if, auKs]

end Go.VL

/- Contracts of this program's functions: frames of IP as bytes. Conditions: none. -/
namespace Go.VL
open Go.Proofs

theorem c_fproto33 (σ : St) : VCalls Tryz.prog 172 [.int .u16 33] σ fun r σ' => r = .bool true ∧ σ' = σ := by
  refine vcalls_intro (C := cfg Tryz.prog [] [] []) (cfg_ok mixed) Tryz.func172 rfl rfl rfl rfl rfl ?_
  have h1 : (ibits .and .u16 33 1 == 1) = true := by decide +kernel
  have h2 : (ibits .and .u16 ((33 : Int).fdiv (2 ^ 8)) 1 == 0) = true := by decide +kernel
  simp (maxSteps := 1000000) -implicitDefEqProofs only [go_sem, h1, h2, bne]
theorem c_ahead (σ : St) : VCalls Tryz.prog 173 [] σ fun r σ' => r = .sl false true 1 [.int .u8 255, .int .u8 3] ∧ σ' = σ := by
  refine vcalls_intro (C := cfg Tryz.prog [] [] []) (cfg_ok mixed) Tryz.func173 rfl rfl rfl rfl rfl ?_
  simp (maxSteps := 1000000) -implicitDefEqProofs only [go_sem]
theorem vqg_ahead (fr : Fr) (σ : St) : vqg (cfg Tryz.prog [] [] []) fr σ none (.call { callee := .value (.func 173), args := #[], argTypes := #[] }) (fun v => v = .sl false true 1 [.int .u8 255, .int .u8 3]) = True :=
  eq_true ⟨rfl, pcall_of (c_ahead σ) rfl⟩
def headB (short : Bool) : List UInt8 := bif short then [33] else [255, 3, 0, 33]
def keyV (a b : Bool) : V := .agg [.bool a, .bool b]
def aheadV (a b : Bool) : V := bif a then (bif b then .sl false true 1 [.int .u8 33] else .sl false true 1 [.int .u8 0, .int .u8 33]) else .sl false false 1 [.int .u8 255, .int .u8 3, .int .u8 0, .int .u8 33]
/-- What is laid ahead, by what is left out. -/
structure MapP (l : List (V × V)) : Prop where
  ff : vget l (keyV false false) = some (aheadV false false)
  ft : vget l (keyV false true) = some (aheadV false true)
  tf : vget l (keyV true false) = some (aheadV true false)
  tt : vget l (keyV true true) = some (aheadV true true)
  k : ∀ a b, (l.all fun kv => sameKind (keyV a b) kv.1) = true
set_option maxHeartbeats 8000000 in
set_option maxRecDepth 20000 in
theorem c_fbytes_false (nl c : Bool) (d : List UInt8) (hd : d.length ≤ 1500) (σ : St) : VCalls Tryz.prog 123 [.agg [.int .u16 33, .sl nl c 1 (bv d)], .bool false] σ fun r σ' => r = .tup [.sl false false 1 (bv (putB (headB false ++ d))), .int .i64 0] ∧ σ' = σ := by
  refine vcalls_intro (C := cfg Tryz.prog [] [] []) (cfg_ok mixed) Tryz.func123 rfl rfl rfl rfl rfl ?_
  have h1 : decide ((1500 : Int) < (d.length : Int)) = false := by rw [decide_eq_false_iff_not]; omega
  have h2 : IntKind.u8.wrap ((33 : Int).fdiv (2 ^ 8)) = 0 := by decide +kernel
  have h3 : IntKind.u8.wrap 33 = 33 := by decide +kernel
  have hl4 : ((4 : Nat) ≤ lim) = True := eq_true (by unfold lim; decide)
  have hkk : ∀ (a b : Bool), mk [PK.bool, PK.bool] [V.bool a, V.bool b] = true := fun _ _ => rfl
  have hhl : (headB false).length ≤ 4 := by decide
  simp (maxSteps := 1000000) -implicitDefEqProofs only [go_sem]
  refine vgo_call rfl rfl rfl rfl (c_fproto33 _) ?_
  simp (maxSteps := 1000000) -implicitDefEqProofs only [go_sem, bv_length, h1, Bool.not_true]
  refine w_walk2 [] [0, 1, 2, 3, 4, 5, 6, 7, 8] [19, 20, 21, 22, 23, 24, 25, 6, 7] [0, 1, 3, 7, 0, 16, 48, 15, 255] rfl rfl rfl rfl ?_
  simp (maxSteps := 1000000) -implicitDefEqProofs only [go_sem, h2, h3, bne]
  · skip
    refine w_walkP (α := List (V × V)) MapP (fun l => [(1, .bool false), (2, .ip [.int .u16 33, .sl nl c 1 (bv d)]), (6, .int .u8 0), (8, .mp σ.length)]) (fun l => σ ++ [.map l]) [7, 14, 19, 23] [0, 7, 14, 19, 23] [33, 34, 35, 36, 37, 38, 39, 40, 41, 42, 43, 44, 45, 46, 47, 48, 49, 50, 51, 52, 8] [] [([7, 14, 19, 23], [1, 2, 3, 4, 5, 6, 8, 9, 10, 11, 12, 13, 15, 16, 17, 18, 20, 21, 22, 0, 7, 14, 19, 23, 24, 25], [0, 0, 0, 0, 0, 24, 60, 127, 0, 124, 0, 0, 3072, 7804, 16383, 0, 0, 0, 196608, 524287, 0, 0, 2097152, 8388607, 16777215, 33554431]), ([7, 14, 23, 19], [1, 2, 3, 4, 5, 6, 8, 9, 10, 11, 12, 13, 15, 16, 17, 18, 20, 21, 22, 0, 7, 14, 23, 19, 24, 25], [0, 0, 0, 0, 0, 24, 60, 127, 0, 124, 0, 0, 3072, 7804, 16383, 0, 0, 0, 196608, 16252927, 0, 0, 2097152, 7372799, 16777215, 33554431]), ([7, 19, 14, 23], [1, 2, 3, 4, 5, 6, 8, 9, 10, 11, 12, 13, 15, 16, 17, 18, 20, 21, 22, 0, 7, 19, 14, 23, 24, 25], [0, 0, 0, 0, 0, 24, 60, 127, 0, 124, 0, 0, 3072, 7804, 1032191, 0, 0, 0, 196608, 491775, 0, 0, 2097152, 8388607, 16777215, 33554431]), ([7, 19, 23, 14], [1, 2, 3, 4, 5, 6, 8, 9, 10, 11, 12, 13, 15, 16, 17, 18, 20, 21, 22, 0, 7, 19, 23, 14, 24, 25], [0, 0, 0, 0, 0, 24, 60, 127, 0, 124, 0, 0, 3072, 7804, 16760831, 0, 0, 0, 196608, 491775, 0, 0, 2097152, 8356095, 16777215, 33554431]), ([7, 23, 14, 19], [1, 2, 3, 4, 5, 6, 8, 9, 10, 11, 12, 13, 15, 16, 17, 18, 20, 21, 22, 0, 7, 23, 14, 19, 24, 25], [0, 0, 0, 0, 0, 24, 60, 127, 0, 124, 0, 0, 3072, 7804, 15745023, 0, 0, 0, 196608, 16252927, 0, 0, 2097152, 7340287, 16777215, 33554431]), ([7, 23, 19, 14], [1, 2, 3, 4, 5, 6, 8, 9, 10, 11, 12, 13, 15, 16, 17, 18, 20, 21, 22, 0, 7, 23, 19, 14, 24, 25], [0, 0, 0, 0, 0, 24, 60, 127, 0, 124, 0, 0, 3072, 7804, 16760831, 0, 0, 0, 196608, 16220415, 0, 0, 2097152, 7340287, 16777215, 33554431]), ([14, 7, 19, 23], [1, 2, 3, 4, 5, 6, 8, 9, 10, 11, 12, 13, 15, 16, 17, 18, 20, 21, 22, 0, 14, 7, 19, 23, 24, 25], [0, 0, 0, 0, 0, 24, 60, 32639, 0, 124, 0, 0, 3072, 7804, 16253, 0, 0, 0, 196608, 524287, 0, 0, 2097152, 8388607, 16777215, 33554431]), ([14, 7, 23, 19], [1, 2, 3, 4, 5, 6, 8, 9, 10, 11, 12, 13, 15, 16, 17, 18, 20, 21, 22, 0, 14, 7, 23, 19, 24, 25], [0, 0, 0, 0, 0, 24, 60, 32639, 0, 124, 0, 0, 3072, 7804, 16253, 0, 0, 0, 196608, 16252927, 0, 0, 2097152, 7372799, 16777215, 33554431]), ([14, 19, 7, 23], [1, 2, 3, 4, 5, 6, 8, 9, 10, 11, 12, 13, 15, 16, 17, 18, 20, 21, 22, 0, 14, 19, 7, 23, 24, 25], [0, 0, 0, 0, 0, 24, 60, 1048447, 0, 124, 0, 0, 3072, 7804, 16253, 0, 0, 0, 196608, 524157, 0, 0, 2097152, 8388607, 16777215, 33554431]), ([14, 19, 23, 7], [1, 2, 3, 4, 5, 6, 8, 9, 10, 11, 12, 13, 15, 16, 17, 18, 20, 21, 22, 0, 14, 19, 23, 7, 24, 25], [0, 0, 0, 0, 0, 24, 60, 16777087, 0, 124, 0, 0, 3072, 7804, 16253, 0, 0, 0, 196608, 524157, 0, 0, 2097152, 8388477, 16777215, 33554431]), ([14, 23, 7, 19], [1, 2, 3, 4, 5, 6, 8, 9, 10, 11, 12, 13, 15, 16, 17, 18, 20, 21, 22, 0, 14, 23, 7, 19, 24, 25], [0, 0, 0, 0, 0, 24, 60, 15761279, 0, 124, 0, 0, 3072, 7804, 16253, 0, 0, 0, 196608, 16252927, 0, 0, 2097152, 7372669, 16777215, 33554431]), ([14, 23, 19, 7], [1, 2, 3, 4, 5, 6, 8, 9, 10, 11, 12, 13, 15, 16, 17, 18, 20, 21, 22, 0, 14, 23, 19, 7, 24, 25], [0, 0, 0, 0, 0, 24, 60, 16777087, 0, 124, 0, 0, 3072, 7804, 16253, 0, 0, 0, 196608, 16252797, 0, 0, 2097152, 7372669, 16777215, 33554431]), ([19, 7, 14, 23], [1, 2, 3, 4, 5, 6, 8, 9, 10, 11, 12, 13, 15, 16, 17, 18, 20, 21, 22, 0, 19, 7, 14, 23, 24, 25], [0, 0, 0, 0, 0, 24, 60, 1015935, 0, 124, 0, 0, 3072, 7804, 1032191, 0, 0, 0, 196608, 491521, 0, 0, 2097152, 8388607, 16777215, 33554431]), ([19, 7, 23, 14], [1, 2, 3, 4, 5, 6, 8, 9, 10, 11, 12, 13, 15, 16, 17, 18, 20, 21, 22, 0, 19, 7, 23, 14, 24, 25], [0, 0, 0, 0, 0, 24, 60, 1015935, 0, 124, 0, 0, 3072, 7804, 16760831, 0, 0, 0, 196608, 491521, 0, 0, 2097152, 8356095, 16777215, 33554431]), ([19, 14, 7, 23], [1, 2, 3, 4, 5, 6, 8, 9, 10, 11, 12, 13, 15, 16, 17, 18, 20, 21, 22, 0, 19, 14, 7, 23, 24, 25], [0, 0, 0, 0, 0, 24, 60, 1048447, 0, 124, 0, 0, 3072, 7804, 1032061, 0, 0, 0, 196608, 491521, 0, 0, 2097152, 8388607, 16777215, 33554431]), ([19, 14, 23, 7], [1, 2, 3, 4, 5, 6, 8, 9, 10, 11, 12, 13, 15, 16, 17, 18, 20, 21, 22, 0, 19, 14, 23, 7, 24, 25], [0, 0, 0, 0, 0, 24, 60, 16777087, 0, 124, 0, 0, 3072, 7804, 1032061, 0, 0, 0, 196608, 491521, 0, 0, 2097152, 8388477, 16777215, 33554431]), ([19, 23, 7, 14], [1, 2, 3, 4, 5, 6, 8, 9, 10, 11, 12, 13, 15, 16, 17, 18, 20, 21, 22, 0, 19, 23, 7, 14, 24, 25], [0, 0, 0, 0, 0, 24, 60, 16744575, 0, 124, 0, 0, 3072, 7804, 16760831, 0, 0, 0, 196608, 491521, 0, 0, 2097152, 8355841, 16777215, 33554431]), ([19, 23, 14, 7], [1, 2, 3, 4, 5, 6, 8, 9, 10, 11, 12, 13, 15, 16, 17, 18, 20, 21, 22, 0, 19, 23, 14, 7, 24, 25], [0, 0, 0, 0, 0, 24, 60, 16777087, 0, 124, 0, 0, 3072, 7804, 16760701, 0, 0, 0, 196608, 491521, 0, 0, 2097152, 8355841, 16777215, 33554431]), ([23, 7, 14, 19], [1, 2, 3, 4, 5, 6, 8, 9, 10, 11, 12, 13, 15, 16, 17, 18, 20, 21, 22, 0, 23, 7, 14, 19, 24, 25], [0, 0, 0, 0, 0, 24, 60, 15728767, 0, 124, 0, 0, 3072, 7804, 15745023, 0, 0, 0, 196608, 16252927, 0, 0, 2097152, 7340033, 16777215, 33554431]), ([23, 7, 19, 14], [1, 2, 3, 4, 5, 6, 8, 9, 10, 11, 12, 13, 15, 16, 17, 18, 20, 21, 22, 0, 23, 7, 19, 14, 24, 25], [0, 0, 0, 0, 0, 24, 60, 15728767, 0, 124, 0, 0, 3072, 7804, 16760831, 0, 0, 0, 196608, 16220415, 0, 0, 2097152, 7340033, 16777215, 33554431]), ([23, 14, 7, 19], [1, 2, 3, 4, 5, 6, 8, 9, 10, 11, 12, 13, 15, 16, 17, 18, 20, 21, 22, 0, 23, 14, 7, 19, 24, 25], [0, 0, 0, 0, 0, 24, 60, 15761279, 0, 124, 0, 0, 3072, 7804, 15744893, 0, 0, 0, 196608, 16252927, 0, 0, 2097152, 7340033, 16777215, 33554431]), ([23, 14, 19, 7], [1, 2, 3, 4, 5, 6, 8, 9, 10, 11, 12, 13, 15, 16, 17, 18, 20, 21, 22, 0, 23, 14, 19, 7, 24, 25], [0, 0, 0, 0, 0, 24, 60, 16777087, 0, 124, 0, 0, 3072, 7804, 15744893, 0, 0, 0, 196608, 16252797, 0, 0, 2097152, 7340033, 16777215, 33554431]), ([23, 19, 7, 14], [1, 2, 3, 4, 5, 6, 8, 9, 10, 11, 12, 13, 15, 16, 17, 18, 20, 21, 22, 0, 23, 19, 7, 14, 24, 25], [0, 0, 0, 0, 0, 24, 60, 16744575, 0, 124, 0, 0, 3072, 7804, 16760831, 0, 0, 0, 196608, 16220161, 0, 0, 2097152, 7340033, 16777215, 33554431]), ([23, 19, 14, 7], [1, 2, 3, 4, 5, 6, 8, 9, 10, 11, 12, 13, 15, 16, 17, 18, 20, 21, 22, 0, 23, 19, 14, 7, 24, 25], [0, 0, 0, 0, 0, 24, 60, 16777087, 0, 124, 0, 0, 3072, 7804, 16760701, 0, 0, 0, 196608, 16220161, 0, 0, 2097152, 7340033, 16777215, 33554431])] rfl rfl rfl rfl rfl rfl ?_ ?_
    · intro x hx
      simp only [List.mem_cons, List.not_mem_nil, or_false] at hx
      rcases hx with hx | hx | hx | hx | hx | hx | hx | hx | hx | hx | hx | hx | hx | hx | hx | hx | hx | hx | hx | hx | hx | hx | hx | hx <;> (
        subst hx
        simp (maxSteps := 1000000) -implicitDefEqProofs only [go_sem]
        refine vdgo_call rfl rfl rfl rfl (c_ahead _) ?_
        simp (maxSteps := 1000000) -implicitDefEqProofs only [go_sem, hl4]
        refine vdgo_call rfl rfl rfl rfl (c_ahead _) ?_
        simp (maxSteps := 1000000) -implicitDefEqProofs only [go_sem, vqg_ahead, mk, hl4]
        repeat (refine ⟨rfl, ?_⟩)
        exact ⟨_, ⟨rfl, rfl, rfl, rfl, fun _ _ => rfl⟩, rfl⟩)
    · intro l hl
      obtain ⟨m1, m2, m3, m4, m5⟩ := hl
      unfold keyV aheadV at m1 m2 m3 m4
      simp (maxSteps := 1000000) -implicitDefEqProofs only [go_sem] at m1 m2 m3 m4
      have hcc := fun σ => c_concat false true [(false, false, [255, 3, 0, 33]), (nl, c, d)] (by simp) (by simp [catB]) (by simp [catB]; omega) σ
      have hcat : catB [(false, false, [255, 3, 0, 33]), (nl, c, d)] = headB false ++ d := by simp [catB, headB]
      rw [hcat] at hcc
      simp (maxSteps := 1000000) -implicitDefEqProofs only [go_sem]
      refine w_walk3 [] [0, 1, 2, 3, 4, 5, 6, 7, 8, 9, 10, 11, 12] [53, 54, 55, 56, 57, 58, 59, 60, 61, 62, 63, 4, 5] [0, 0, 0, 4, 14, 31, 0, 64, 255, 511, 1023, 2047, 4095] [4,5] rfl rfl rfl rfl rfl ?_
      simp (maxSteps := 1000000) -implicitDefEqProofs only [go_sem, hkk, m2]
      refine ⟨m5 false true, ?_⟩
      refine vdgo_call rfl rfl rfl rfl (hcc _) ?_
      simp (maxSteps := 1000000) -implicitDefEqProofs only [go_sem]
      refine vdgo_call rfl rfl rfl rfl (c_fput false (headB false ++ d) (by rw [List.length_append]; omega) _) ?_
      simp (maxSteps := 1000000) -implicitDefEqProofs only [go_sem]

set_option maxHeartbeats 8000000 in
set_option maxRecDepth 20000 in
theorem c_fbytes_true (nl c : Bool) (d : List UInt8) (hd : d.length ≤ 1500) (σ : St) : VCalls Tryz.prog 123 [.agg [.int .u16 33, .sl nl c 1 (bv d)], .bool true] σ fun r σ' => r = .tup [.sl false false 1 (bv (putB (headB true ++ d))), .int .i64 0] ∧ σ' = σ := by
  refine vcalls_intro (C := cfg Tryz.prog [] [] []) (cfg_ok mixed) Tryz.func123 rfl rfl rfl rfl rfl ?_
  have h1 : decide ((1500 : Int) < (d.length : Int)) = false := by rw [decide_eq_false_iff_not]; omega
  have h2 : IntKind.u8.wrap ((33 : Int).fdiv (2 ^ 8)) = 0 := by decide +kernel
  have h3 : IntKind.u8.wrap 33 = 33 := by decide +kernel
  have hl4 : ((4 : Nat) ≤ lim) = True := eq_true (by unfold lim; decide)
  have hkk : ∀ (a b : Bool), mk [PK.bool, PK.bool] [V.bool a, V.bool b] = true := fun _ _ => rfl
  have hhl : (headB true).length ≤ 4 := by decide
  simp (maxSteps := 1000000) -implicitDefEqProofs only [go_sem]
  refine vgo_call rfl rfl rfl rfl (c_fproto33 _) ?_
  simp (maxSteps := 1000000) -implicitDefEqProofs only [go_sem, bv_length, h1, Bool.not_true]
  refine w_walk2 [] [0, 1, 2, 3, 4, 5, 6, 7, 8] [19, 20, 21, 22, 23, 24, 25, 6, 7] [0, 1, 3, 7, 0, 16, 48, 15, 255] rfl rfl rfl rfl ?_
  simp (maxSteps := 1000000) -implicitDefEqProofs only [go_sem, h2, h3, bne]
  · skip
    refine w_walkP (α := List (V × V)) MapP (fun l => [(1, .bool true), (2, .ip [.int .u16 33, .sl nl c 1 (bv d)]), (6, .int .u8 0), (8, .mp σ.length)]) (fun l => σ ++ [.map l]) [7, 14, 19, 23] [0, 7, 14, 19, 23] [33, 34, 35, 36, 37, 38, 39, 40, 41, 42, 43, 44, 45, 46, 47, 48, 49, 50, 51, 52, 8] [] [([7, 14, 19, 23], [1, 2, 3, 4, 5, 6, 8, 9, 10, 11, 12, 13, 15, 16, 17, 18, 20, 21, 22, 0, 7, 14, 19, 23, 24, 25], [0, 0, 0, 0, 0, 24, 60, 127, 0, 124, 0, 0, 3072, 7804, 16383, 0, 0, 0, 196608, 524287, 0, 0, 2097152, 8388607, 16777215, 33554431]), ([7, 14, 23, 19], [1, 2, 3, 4, 5, 6, 8, 9, 10, 11, 12, 13, 15, 16, 17, 18, 20, 21, 22, 0, 7, 14, 23, 19, 24, 25], [0, 0, 0, 0, 0, 24, 60, 127, 0, 124, 0, 0, 3072, 7804, 16383, 0, 0, 0, 196608, 16252927, 0, 0, 2097152, 7372799, 16777215, 33554431]), ([7, 19, 14, 23], [1, 2, 3, 4, 5, 6, 8, 9, 10, 11, 12, 13, 15, 16, 17, 18, 20, 21, 22, 0, 7, 19, 14, 23, 24, 25], [0, 0, 0, 0, 0, 24, 60, 127, 0, 124, 0, 0, 3072, 7804, 1032191, 0, 0, 0, 196608, 491775, 0, 0, 2097152, 8388607, 16777215, 33554431]), ([7, 19, 23, 14], [1, 2, 3, 4, 5, 6, 8, 9, 10, 11, 12, 13, 15, 16, 17, 18, 20, 21, 22, 0, 7, 19, 23, 14, 24, 25], [0, 0, 0, 0, 0, 24, 60, 127, 0, 124, 0, 0, 3072, 7804, 16760831, 0, 0, 0, 196608, 491775, 0, 0, 2097152, 8356095, 16777215, 33554431]), ([7, 23, 14, 19], [1, 2, 3, 4, 5, 6, 8, 9, 10, 11, 12, 13, 15, 16, 17, 18, 20, 21, 22, 0, 7, 23, 14, 19, 24, 25], [0, 0, 0, 0, 0, 24, 60, 127, 0, 124, 0, 0, 3072, 7804, 15745023, 0, 0, 0, 196608, 16252927, 0, 0, 2097152, 7340287, 16777215, 33554431]), ([7, 23, 19, 14], [1, 2, 3, 4, 5, 6, 8, 9, 10, 11, 12, 13, 15, 16, 17, 18, 20, 21, 22, 0, 7, 23, 19, 14, 24, 25], [0, 0, 0, 0, 0, 24, 60, 127, 0, 124, 0, 0, 3072, 7804, 16760831, 0, 0, 0, 196608, 16220415, 0, 0, 2097152, 7340287, 16777215, 33554431]), ([14, 7, 19, 23], [1, 2, 3, 4, 5, 6, 8, 9, 10, 11, 12, 13, 15, 16, 17, 18, 20, 21, 22, 0, 14, 7, 19, 23, 24, 25], [0, 0, 0, 0, 0, 24, 60, 32639, 0, 124, 0, 0, 3072, 7804, 16253, 0, 0, 0, 196608, 524287, 0, 0, 2097152, 8388607, 16777215, 33554431]), ([14, 7, 23, 19], [1, 2, 3, 4, 5, 6, 8, 9, 10, 11, 12, 13, 15, 16, 17, 18, 20, 21, 22, 0, 14, 7, 23, 19, 24, 25], [0, 0, 0, 0, 0, 24, 60, 32639, 0, 124, 0, 0, 3072, 7804, 16253, 0, 0, 0, 196608, 16252927, 0, 0, 2097152, 7372799, 16777215, 33554431]), ([14, 19, 7, 23], [1, 2, 3, 4, 5, 6, 8, 9, 10, 11, 12, 13, 15, 16, 17, 18, 20, 21, 22, 0, 14, 19, 7, 23, 24, 25], [0, 0, 0, 0, 0, 24, 60, 1048447, 0, 124, 0, 0, 3072, 7804, 16253, 0, 0, 0, 196608, 524157, 0, 0, 2097152, 8388607, 16777215, 33554431]), ([14, 19, 23, 7], [1, 2, 3, 4, 5, 6, 8, 9, 10, 11, 12, 13, 15, 16, 17, 18, 20, 21, 22, 0, 14, 19, 23, 7, 24, 25], [0, 0, 0, 0, 0, 24, 60, 16777087, 0, 124, 0, 0, 3072, 7804, 16253, 0, 0, 0, 196608, 524157, 0, 0, 2097152, 8388477, 16777215, 33554431]), ([14, 23, 7, 19], [1, 2, 3, 4, 5, 6, 8, 9, 10, 11, 12, 13, 15, 16, 17, 18, 20, 21, 22, 0, 14, 23, 7, 19, 24, 25], [0, 0, 0, 0, 0, 24, 60, 15761279, 0, 124, 0, 0, 3072, 7804, 16253, 0, 0, 0, 196608, 16252927, 0, 0, 2097152, 7372669, 16777215, 33554431]), ([14, 23, 19, 7], [1, 2, 3, 4, 5, 6, 8, 9, 10, 11, 12, 13, 15, 16, 17, 18, 20, 21, 22, 0, 14, 23, 19, 7, 24, 25], [0, 0, 0, 0, 0, 24, 60, 16777087, 0, 124, 0, 0, 3072, 7804, 16253, 0, 0, 0, 196608, 16252797, 0, 0, 2097152, 7372669, 16777215, 33554431]), ([19, 7, 14, 23], [1, 2, 3, 4, 5, 6, 8, 9, 10, 11, 12, 13, 15, 16, 17, 18, 20, 21, 22, 0, 19, 7, 14, 23, 24, 25], [0, 0, 0, 0, 0, 24, 60, 1015935, 0, 124, 0, 0, 3072, 7804, 1032191, 0, 0, 0, 196608, 491521, 0, 0, 2097152, 8388607, 16777215, 33554431]), ([19, 7, 23, 14], [1, 2, 3, 4, 5, 6, 8, 9, 10, 11, 12, 13, 15, 16, 17, 18, 20, 21, 22, 0, 19, 7, 23, 14, 24, 25], [0, 0, 0, 0, 0, 24, 60, 1015935, 0, 124, 0, 0, 3072, 7804, 16760831, 0, 0, 0, 196608, 491521, 0, 0, 2097152, 8356095, 16777215, 33554431]), ([19, 14, 7, 23], [1, 2, 3, 4, 5, 6, 8, 9, 10, 11, 12, 13, 15, 16, 17, 18, 20, 21, 22, 0, 19, 14, 7, 23, 24, 25], [0, 0, 0, 0, 0, 24, 60, 1048447, 0, 124, 0, 0, 3072, 7804, 1032061, 0, 0, 0, 196608, 491521, 0, 0, 2097152, 8388607, 16777215, 33554431]), ([19, 14, 23, 7], [1, 2, 3, 4, 5, 6, 8, 9, 10, 11, 12, 13, 15, 16, 17, 18, 20, 21, 22, 0, 19, 14, 23, 7, 24, 25], [0, 0, 0, 0, 0, 24, 60, 16777087, 0, 124, 0, 0, 3072, 7804, 1032061, 0, 0, 0, 196608, 491521, 0, 0, 2097152, 8388477, 16777215, 33554431]), ([19, 23, 7, 14], [1, 2, 3, 4, 5, 6, 8, 9, 10, 11, 12, 13, 15, 16, 17, 18, 20, 21, 22, 0, 19, 23, 7, 14, 24, 25], [0, 0, 0, 0, 0, 24, 60, 16744575, 0, 124, 0, 0, 3072, 7804, 16760831, 0, 0, 0, 196608, 491521, 0, 0, 2097152, 8355841, 16777215, 33554431]), ([19, 23, 14, 7], [1, 2, 3, 4, 5, 6, 8, 9, 10, 11, 12, 13, 15, 16, 17, 18, 20, 21, 22, 0, 19, 23, 14, 7, 24, 25], [0, 0, 0, 0, 0, 24, 60, 16777087, 0, 124, 0, 0, 3072, 7804, 16760701, 0, 0, 0, 196608, 491521, 0, 0, 2097152, 8355841, 16777215, 33554431]), ([23, 7, 14, 19], [1, 2, 3, 4, 5, 6, 8, 9, 10, 11, 12, 13, 15, 16, 17, 18, 20, 21, 22, 0, 23, 7, 14, 19, 24, 25], [0, 0, 0, 0, 0, 24, 60, 15728767, 0, 124, 0, 0, 3072, 7804, 15745023, 0, 0, 0, 196608, 16252927, 0, 0, 2097152, 7340033, 16777215, 33554431]), ([23, 7, 19, 14], [1, 2, 3, 4, 5, 6, 8, 9, 10, 11, 12, 13, 15, 16, 17, 18, 20, 21, 22, 0, 23, 7, 19, 14, 24, 25], [0, 0, 0, 0, 0, 24, 60, 15728767, 0, 124, 0, 0, 3072, 7804, 16760831, 0, 0, 0, 196608, 16220415, 0, 0, 2097152, 7340033, 16777215, 33554431]), ([23, 14, 7, 19], [1, 2, 3, 4, 5, 6, 8, 9, 10, 11, 12, 13, 15, 16, 17, 18, 20, 21, 22, 0, 23, 14, 7, 19, 24, 25], [0, 0, 0, 0, 0, 24, 60, 15761279, 0, 124, 0, 0, 3072, 7804, 15744893, 0, 0, 0, 196608, 16252927, 0, 0, 2097152, 7340033, 16777215, 33554431]), ([23, 14, 19, 7], [1, 2, 3, 4, 5, 6, 8, 9, 10, 11, 12, 13, 15, 16, 17, 18, 20, 21, 22, 0, 23, 14, 19, 7, 24, 25], [0, 0, 0, 0, 0, 24, 60, 16777087, 0, 124, 0, 0, 3072, 7804, 15744893, 0, 0, 0, 196608, 16252797, 0, 0, 2097152, 7340033, 16777215, 33554431]), ([23, 19, 7, 14], [1, 2, 3, 4, 5, 6, 8, 9, 10, 11, 12, 13, 15, 16, 17, 18, 20, 21, 22, 0, 23, 19, 7, 14, 24, 25], [0, 0, 0, 0, 0, 24, 60, 16744575, 0, 124, 0, 0, 3072, 7804, 16760831, 0, 0, 0, 196608, 16220161, 0, 0, 2097152, 7340033, 16777215, 33554431]), ([23, 19, 14, 7], [1, 2, 3, 4, 5, 6, 8, 9, 10, 11, 12, 13, 15, 16, 17, 18, 20, 21, 22, 0, 23, 19, 14, 7, 24, 25], [0, 0, 0, 0, 0, 24, 60, 16777087, 0, 124, 0, 0, 3072, 7804, 16760701, 0, 0, 0, 196608, 16220161, 0, 0, 2097152, 7340033, 16777215, 33554431])] rfl rfl rfl rfl rfl rfl ?_ ?_
    · intro x hx
      simp only [List.mem_cons, List.not_mem_nil, or_false] at hx
      rcases hx with hx | hx | hx | hx | hx | hx | hx | hx | hx | hx | hx | hx | hx | hx | hx | hx | hx | hx | hx | hx | hx | hx | hx | hx <;> (
        subst hx
        simp (maxSteps := 1000000) -implicitDefEqProofs only [go_sem]
        refine vdgo_call rfl rfl rfl rfl (c_ahead _) ?_
        simp (maxSteps := 1000000) -implicitDefEqProofs only [go_sem, hl4]
        refine vdgo_call rfl rfl rfl rfl (c_ahead _) ?_
        simp (maxSteps := 1000000) -implicitDefEqProofs only [go_sem, vqg_ahead, mk, hl4]
        repeat (refine ⟨rfl, ?_⟩)
        exact ⟨_, ⟨rfl, rfl, rfl, rfl, fun _ _ => rfl⟩, rfl⟩)
    · intro l hl
      obtain ⟨m1, m2, m3, m4, m5⟩ := hl
      unfold keyV aheadV at m1 m2 m3 m4
      simp (maxSteps := 1000000) -implicitDefEqProofs only [go_sem] at m1 m2 m3 m4
      have hcc := fun σ => c_concat false true [(false, true, [33]), (nl, c, d)] (by simp) (by simp [catB]) (by simp [catB]; omega) σ
      have hcat : catB [(false, true, [33]), (nl, c, d)] = headB true ++ d := by simp [catB, headB]
      rw [hcat] at hcc
      simp (maxSteps := 1000000) -implicitDefEqProofs only [go_sem]
      refine w_walk3 [] [0, 1, 2, 3, 4, 5, 6, 7, 8, 9, 10, 11, 12] [53, 54, 55, 56, 57, 58, 59, 60, 61, 62, 63, 4, 5] [0, 0, 0, 4, 14, 31, 0, 64, 255, 511, 1023, 2047, 4095] [4,5] rfl rfl rfl rfl rfl ?_
      simp (maxSteps := 1000000) -implicitDefEqProofs only [go_sem, hkk, m4]
      refine ⟨m5 true true, ?_⟩
      refine vdgo_call rfl rfl rfl rfl (hcc _) ?_
      simp (maxSteps := 1000000) -implicitDefEqProofs only [go_sem]
      refine vdgo_call rfl rfl rfl rfl (c_fput false (headB true ++ d) (by rw [List.length_append]; omega) _) ?_
      simp (maxSteps := 1000000) -implicitDefEqProofs only [go_sem]
theorem c_fbytes33 (nl c : Bool) (d : List UInt8) (short : Bool) (hd : d.length ≤ 1500) (σ : St) : VCalls Tryz.prog 123 [.agg [.int .u16 33, .sl nl c 1 (bv d)], .bool short] σ fun r σ' => r = .tup [.sl false false 1 (bv (putB (headB short ++ d))), .int .i64 0] ∧ σ' = σ := by
  cases short
  · exact c_fbytes_false nl c d hd σ
  · exact c_fbytes_true nl c d hd σ

end Go.VL

/- LinkPlug: the document's example, and what is plugged and unplugged. Conditions: none. -/
namespace Go.VL
open Go.Proofs

/-! A link's cells, as one. -/
theorem lk_len (k : LinkV) : (lkC k).length = 69 := rfl
theorem lk_take (k : LinkV) : (lkC k).take 69 = lkC k := rfl
theorem lk_cell (k : LinkV) : (lkC k).all cell1 = true := rfl
theorem lk_imm (k : LinkV) : (lkC k).all imm1 = true := rfl
theorem setCells_whole : ∀ (l cs zs : List V), zs.length = l.length → setCells (cs ++ zs) cs.length l = cs ++ l
  | [], cs, zs, h => by
    have : zs = [] := List.eq_nil_of_length_eq_zero h
    rw [this]; rfl
  | x :: l, cs, [], h => by cases h
  | x :: l, cs, z :: zs, h => by
    unfold setCells
    have e : (cs ++ z :: zs).set cs.length x = (cs ++ [x]) ++ zs := by rw [List.set_append_right _ _ (Nat.le_refl _), Nat.sub_self]; simp
    rw [e]
    have := setCells_whole l (cs ++ [x]) zs (by simpa using h)
    rw [List.length_append] at this
    rw [show cs.length + 1 = cs.length + [x].length from rfl, this]
    simp
theorem set_all (l zs : List V) (h : zs.length = l.length) : setCells zs 0 l = l := setCells_whole l [] zs h
theorem set_lk (k : LinkV) (zs : List V) (h : zs.length = 69) : setCells zs 0 (lkC k) = lkC k := set_all _ _ h
/-! The example. -/
def plK : LinkV := { newK with l := plN 5 6, phase := 1 }
theorem x_e1 : (nextP 6 1).2.2 = true := by decide +kernel
theorem x_e2 : doA ⟨6, 4, 3, 1⟩ 1 = (⟨1, 4, 0, 1⟩, [], 0) := by decide +kernel
theorem x_f1 : (nextP 1 3).2.2 = true := by decide +kernel
theorem x_f2 : doA ⟨1, 4, 0, 1⟩ 3 = (⟨0, 4, 0, 1⟩, [4], 0) := by decide +kernel
theorem pl_down (m o : UInt32) : evN (plN m o) 1 = { newN (plugR m o) with a := ⟨1, 4, 0, 1⟩ } ∧ doO (plN m o) 1 = [] ∧ doO { newN (plugR m o) with a := ⟨1, 4, 0, 1⟩ } 3 = [] := by
  have h := ev_of (n := plN m o) (e := 1) 0 zPk x_e1 x_e2 (m := { newN (plugR m o) with a := ⟨1, 4, 0, 1⟩ }) rfl
  have hd : doneB (plN m o) 1 = true := x_e1
  have ha : doA (plN m o).a 1 = (⟨1, 4, 0, 1⟩, [], 0) := x_e2
  have hd2 : doneB ({ newN (plugR m o) with a := ⟨1, 4, 0, 1⟩ } : NgV) 3 = true := x_f1
  have ha2 : doA ({ newN (plugR m o) with a := ⟨1, 4, 0, 1⟩ } : NgV).a 3 = (⟨0, 4, 0, 1⟩, [4], 0) := x_f2
  refine ⟨congrArg (fun x => x.1) h, ?_, ?_⟩
  · unfold doO evO
    rw [hd, ha]
    rfl
  · unfold doO evO
    rw [hd2, ha2]
    rfl
theorem pl_good (m o : UInt32) : Good (plN m o) := by
  have h := Good_new (plugR m o)
  exact ⟨by show aokB ⟨6, 4, 3, 1⟩ = true; decide +kernel, h.k, h.e, h.o⟩
theorem plK_plug : doneK (plugW newK 5 6) = plK ∧ (plugW newK 5 6).sent = [frmOf 49185 (reqP (plN 5 6))] := by
  rw [plug_is (k := newK) rfl 5 6]
  exact ⟨rfl, rfl⟩
theorem unplug_sent {k : LinkV} (m o : UInt32) (h : k.l = plN m o) : (unplugW k).sent = [] := by
  obtain ⟨a1, a2, a3⟩ := pl_down m o
  unfold unplugW closeW
  have hl : (lcpW (beginW k) (evN k.l 1) (doO k.l 1) (evT k.l 1)).k.l = evN k.l 1 := (lcp_l _ _ _ _).1
  rw [hl, (lcp_l _ _ _ _).2.1, (lcp_l _ _ _ _).2.1, h, a1, a2, a3]
  rfl
theorem phase0 {k : LinkV} (h : k.l.a.st = 0) : phaseP k = 0 := by
  unfold phaseP
  rw [h]
  rfl
theorem plK_right : GoodK plK := by
  refine ⟨pl_good 5 6, Good_new _, rfl, rfl, by decide, rfl, .inl rfl, rfl, ?_, rfl⟩
  decide +kernel
theorem LkOK.right1 {k : LinkV} (h : GoodK k) : GoodK (fullK k) := ⟨⟨h.l.a, h.l.k, h.l.e, h.l.o⟩, ⟨h.n.a, h.n.k, h.n.e, h.n.o⟩, h.lip, h.nip, h.low, h.phase, h.sess, h.line, h.au, h.me⟩
theorem c_lright (k : LinkV) (ho : LkOK k) (hb : k.line.b.length ≤ lim) (hg : GoodK k) (σ : St) : VCalls Tryz.prog 46 [lkv k] σ fun r σ' => r = .bool true ∧ σ' = σ :=
  (c_lright1 (fullK k) rfl hb (LkOK.right1 hg) σ).ne ⟨lk_ne ho, trivial⟩
theorem c_lsame (a b : LinkV) (ha : LkOK a) (hb : LkOK b) (hL : CmpN a.l) (hN : CmpN a.n) (hk : sameK a b = true) (σ : St) : VCalls Tryz.prog 47 [lkv a, lkv b] σ fun r σ' => r = .bool true ∧ σ' = σ :=
  (c_lsame1 (fullK a) (fullK b) rfl rfl rfl rfl rfl rfl ⟨hL.o, hL.p⟩ ⟨hN.o, hN.p⟩ hk σ).ne ⟨lk_ne ha, lk_ne hb, trivial⟩
theorem new_ok (r : RV) : NgOK (newN r) := .inr ⟨rfl, rfl⟩
theorem new_cmp (r : RV) : CmpN (newN r) := by
  have h := (Good_new r).e
  refine ⟨⟨by have := enc_len h; unfold lim; omega, fun x hx => ?_⟩, ⟨Nat.zero_le _, fun x hx => by cases hx⟩⟩
  unfold encOK at h
  simp only [Bool.and_eq_true, List.all_eq_true, decide_eq_true_eq] at h
  have := h.1 x hx
  unfold lim
  omega


/-! Frames as they are sent. -/
theorem put_ne (l : List UInt8) : putB l ≠ [] := by simp [putB]
set_option maxRecDepth 20000 in
theorem c_fsend33 (nl c : Bool) (d : List UInt8) (accm : Int) (short : Bool) (hd : d.length ≤ 1500) (σ : St) : VCalls Tryz.prog 64 [.agg [.int .u16 33, .sl nl c 1 (bv d)], .int .u32 accm, .bool short] σ fun r σ' => r = .tup [.sl false false 1 (bv (lineS accm (putB (headB short ++ d)))), .int .i64 0] ∧ σ' = σ := by
  refine vcalls_intro (C := cfg Tryz.prog [] [] []) (cfg_ok mixed) Tryz.func64 rfl rfl rfl rfl rfl ?_
  simp (maxSteps := 1000000) -implicitDefEqProofs only [go_sem]
  refine vgo_call rfl rfl rfl rfl (c_fbytes33 nl c d short hd _) ?_
  simp (maxSteps := 1000000) -implicitDefEqProofs only [go_sem, bne]
  refine vgo_call rfl rfl rfl rfl (c_ssend false false (putB (headB short ++ d)) accm (by unfold putB headB; cases short <;> simp <;> omega) (put_ne _) _) ?_
  simp (maxSteps := 1000000) -implicitDefEqProofs only [go_sem]
set_option maxRecDepth 20000 in
theorem c_lbytes0 (k : LinkV) (h9 : (k.l.a.st == 9) = false) (nl c : Bool) (d : List UInt8) (hd : d.length ≤ 1500) (σ : St) : VCalls Tryz.prog 19 [lkv k, .agg [.int .u16 33, .sl nl c 1 (bv d)]] σ fun r σ' => r = .sl false false 1 (bv (lineS 4294967295 (putB (headB false ++ d)))) ∧ σ' = σ := by
  refine vcalls_intro (C := cfg Tryz.prog [] [] []) (cfg_ok mixed) Tryz.func19 rfl rfl rfl rfl rfl ?_
  simp (maxSteps := 1000000) -implicitDefEqProofs only [go_sem, lkv, lkC, h9, bne]
  refine vgo_call rfl rfl rfl rfl (c_fsend33 nl c d 4294967295 false hd _) ?_
  simp (maxSteps := 1000000) -implicitDefEqProofs only [go_sem]
theorem line_len (accm : Int) (l : List UInt8) : l.length + 2 ≤ (lineS accm l).length := by
  have h := (esc_len accm l l.length (Nat.le_refl _)).2
  rw [List.take_length] at h
  unfold lineS
  simp
  omega
theorem put_len (l : List UInt8) : (putB l).length = l.length + 2 := by simp [putB]

set_option maxHeartbeats 8000000 in
set_option maxRecDepth 20000 in
theorem c_shown18 (σ : St) : VCalls Tryz.prog 11 [] σ fun r σ' => r = .bool true ∧ σ' = σ := by
  refine vcalls_intro (C := cfg Tryz.prog [] [] []) (cfg_ok mixed) Tryz.func11 rfl rfl rfl rfl rfl ?_
  have hp := c_lplug newK 5 6 σ
  rw [plK_plug.1] at hp
  have hps := plK_plug.2
  generalize plugW newK 5 6 = W at hp hps
  have hu := c_lunplug plK (pl_good 5 6) σ
  have hus : (unplugW plK).sent = [] := unplug_sent 5 6 rfl
  have hph : (doneK (unplugW plK)).phase = 0 := phase0 (unplug_st (k := plK) (pl_good 5 6).st)
  generalize doneK (unplugW plK) = U at hu hph
  generalize unplugW plK = X at hu hus
  have hb : VCalls Tryz.prog 19 [lkv plK, .agg [.int .u16 33, .sl true false 0 []]] σ fun r σ' => r = .sl false false 1 (bv (lineS 4294967295 (putB (headB false ++ [])))) ∧ σ' = σ :=
    (c_lbytes0 plK rfl true false [] (Nat.zero_le _) σ).ne ⟨.refl _, .aggL ⟨.refl _, .nil _ _ _ _, trivial⟩, trivial⟩
  have hbl : decide ((4 : Int) < ((lineS 4294967295 (putB (headB false ++ []))).length : Int)) = true := by
    have h1 := line_len 4294967295 (putB (headB false ++ []))
    rw [put_len] at h1
    have h2 : (headB false ++ ([] : List UInt8)).length = 4 := rfl
    rw [decide_eq_true_eq]
    omega
  generalize lineS 4294967295 (putB (headB false ++ [])) = L at hb hbl
  have ho : LkOK plK := ⟨.inr ⟨rfl, rfl⟩, .inr ⟨rfl, rfl⟩, new_ok _⟩
  have hr := c_lright plK ho (Nat.zero_le _) plK_right σ
  have hcm : CmpN plK.l := ⟨(new_cmp (plugR 5 6)).o, (new_cmp (plugR 5 6)).p⟩
  have hs := c_lsame plK plK ho ho hcm (new_cmp _) (sameK_self _) σ
  have hphs := c_lphase plK σ
  have hpp : phaseP plK = 1 := rfl
  rw [hpp] at hphs
  have e1 : (plK.phase == 1) = true := rfl
  have e2 : (U.phase == 0) = true := by rw [hph]; rfl
  obtain ⟨D', hD, hDl⟩ : ∃ D', (pkB (reqP (plN 5 6))) = 1 :: D' ∧ decide ((4 : Int) < ((1 :: D').length : Int)) = true := ⟨_, rfl, by decide +kernel⟩
  have hf : frs W.sent = [.agg [.int .u16 49185, .sl false false 1 (bv (1 :: D'))]] := by
    rw [hps]
    show [frv (frmOf 49185 (reqP (plN 5 6)))] = _
    unfold frv frC frmOf
    rw [hD]
    rfl
  have he : W.sent.isEmpty = false := by rw [hps]; rfl
  have hxe : X.sent.isEmpty = true := by rw [hus]; rfl
  have hxf : frs X.sent = [] := by rw [hus]; rfl
  unfold outW outC at hp hu
  rw [hf, he] at hp
  rw [hxf, hxe] at hu
  have b1 : bv (1 :: D') = .int .u8 1 :: bv D' := rfl
  have b2 : decide ((4 : Int) < (((bv D').length + 1 : Nat) : Int)) = true := by rw [bv_length]; exact hDl
  have hkl : plK.phase = 1 := rfl
  simp (maxSteps := 1000000) -implicitDefEqProofs only [go_sem]
  refine vgo_call rfl rfl rfl rfl (c_lnew σ) ?_
  simp (maxSteps := 1000000) -implicitDefEqProofs only [go_sem]
  refine vgo_call rfl rfl rfl rfl hp ?_
  generalize hPK : plK = PK at *
  simp (maxSteps := 1000000) -implicitDefEqProofs only [go_sem, lkv, lk_len, lk_take, lk_cell, lk_imm, set_lk]
  refine vgo_call rfl rfl rfl rfl hu ?_
  simp (maxSteps := 1000000) -implicitDefEqProofs only [go_sem, lkv, lk_len, lk_take, lk_cell, lk_imm, set_lk]
  refine vgo_call rfl rfl rfl rfl hb ?_
  simp (maxSteps := 1000000) -implicitDefEqProofs only [go_sem, lkv, lk_len, lk_take, lk_cell, lk_imm, set_lk]
  simp -implicitDefEqProofs only [lapp_cons, lapp_nil]
  unfold lkv at hphs hr hs
  unfold lkC at hphs hr hs ⊢
  simp -implicitDefEqProofs only [hkl] at hphs hr hs ⊢
  have n1 : (((1 : Nat) : Int) == 1) = true := rfl
  have n0 : (((0 : Nat) : Int) == 0) = true := rfl
  simp (maxSteps := 1000000) -implicitDefEqProofs only [go_sem, b1, b2, e2, n1, n0]
  repeat (refine ⟨by omega, ?_⟩)
  refine vgo_call rfl rfl rfl rfl hphs ?_
  simp (maxSteps := 1000000) -implicitDefEqProofs only [go_sem, b1, b2, bv_length, hbl, e2, n1, n0]
  refine vgo_call rfl rfl rfl rfl hr ?_
  simp (maxSteps := 1000000) -implicitDefEqProofs only [go_sem]
  refine vgo_call rfl rfl rfl rfl hs ?_
  simp (maxSteps := 1000000) -implicitDefEqProofs only [go_sem]

end Go.VL
