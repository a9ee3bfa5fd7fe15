/- Contracts of this program's functions over values, joined texts. Conditions: none. -/
import Derived.Test.YtonjofnphkghcaaGreatDoorSSa
set_option linter.unusedVariables false
set_option linter.unusedSimpArgs false
/- The state table, automata: what they are, in plain Lean. Conditions: none. -/
namespace Go.VL

/-! The state table's text, and its fields. -/
def isSp (b : UInt8) : Bool := b == 9 || b == 10 || b == 11 || b == 12 || b == 13 || b == 32
def fldGo : List UInt8 → List UInt8 → List (List UInt8)
  | [], cur => bif cur.isEmpty then [] else [cur]
  | b :: r, cur => bif isSp b then (bif cur.isEmpty then fldGo r [] else cur :: fldGo r []) else fldGo r (cur ++ [b])
/-- What a letter tells. -/
def letN (b : UInt8) : Int :=
  bif b == 117 then 1 else bif b == 100 then 2 else bif b == 116 then 3 else bif b == 102 then 4 else bif b == 105 then 5 else bif b == 122 then 6 else bif b == 114 then 7 else
  bif b == 97 then 8 else bif b == 110 then 9 else bif b == 115 then 10 else bif b == 107 then 11 else bif b == 106 then 12 else bif b == 101 then 13 else 0
/-- What a field tells, from what has been told. -/
def nxtGo (state : Int) : List UInt8 → List Int → List Int × Int × Bool
  | [], _ => ([], state, false)
  | b :: r, out => bif decide (48 ≤ b.toNat) && decide (b.toNat ≤ 57) then (out, (b.toNat : Int) - 48, true) else bif b == 45 then ([], state, false) else nxtGo state r (out ++ [letN b])

structure AuV where
  st : Int
  cnt : Int
  left : Int
  id : UInt8
  deriving DecidableEq
def auC (a : AuV) : List V := [.int .i64 a.st, .int .i64 a.cnt, .int .i64 a.left, .int .u8 a.id.toNat]
def auv (a : AuV) : V := .agg (auC a)
def timedB (s : Int) : Bool := decide (4 ≤ s) && decide (s ≤ 8)
def actA (l : List Int) (a : AuV) (x : Int) : AuV :=
  if x = 5 then { a with cnt := if (10 : Int) ∈ l then 2 else 5 }
  else if x = 6 then { a with cnt := 0, left := 3 }
  else if x = 7 ∨ x = 10 then { a with cnt := max (a.cnt - 1) 0, left := 3, id := a.id + 1 }
  else a

end Go.VL

/- Contracts of this program's functions: rows of numbers, timers, which automata are right. Conditions: none. -/
namespace Go.VL
open Go.Proofs

def zv64 (l : List Int) : List V := l.map fun n => .int .i64 n
theorem zv_length (l : List Int) : (zv64 l).length = l.length := by simp [zv64]
theorem zv_getD {l : List Int} {i : Nat} (h : i < l.length) : (zv64 l).getD i .undef = .int .i64 l[i] := by simp [zv64, h]

theorem c_indexZ (nl c : Bool) (l : List Int) (n : Int) (hl : l.length ≤ lim) (σ : St) : VCalls Tryz.prog 177 [.sl nl c 1 (zv64 l), .int .i64 n] σ fun r σ' => (∃ i : Int, r = .int .i64 i ∧ decide (0 ≤ i) = decide (n ∈ l)) ∧ σ' = σ := by
  refine vcalls_intro (C := cfg Tryz.prog [] [] []) (cfg_ok mixed) Tryz.func177 rfl rfl rfl rfl rfl ?_
  unfold lim at hl
  simp only [go_sem, zv_length]
  refine w_loop (fun i => i ≤ l.length ∧ n ∉ l.take i) (fun i => [(8, .int .i64 i), (7, .int .i64 l.length), (0, .sl nl c 1 (zv64 l)), (1, .int .i64 n)]) (fun _ => σ) (fun i => l.length - i) 0 ⟨Nat.zero_le _, by simp⟩ ?_ rfl ?_
  · simp only [go_sem]
    rfl
  rintro i ⟨hi, hn⟩
  rcases Nat.lt_or_ge i l.length with h | h
  · have hw : IntKind.i64.wrap ((i : Int) + 1) = ((i + 1 : Nat) : Int) := wrap_ok (by omega) (by omega)
    simp only [go_sem, zv_length, h, zv_getD h]
    cases e : n == l[i]
    · simp only [go_sem, e]
      refine l_next (i + 1) ⟨h, ?_⟩ (by omega) ?_ rfl
      · rw [List.take_succ_eq_append_getElem h]
        have e : ¬ n = l[i] := by simpa using e
        simp only [List.mem_append, List.mem_singleton, hn, e, or_self, not_false_iff]
      · simp only [go_sem, hw]
    · simp only [go_sem, e]
      refine l_ret ?_
      simp only [go_sem]
      refine ⟨i, rfl, ?_⟩
      have : n ∈ l := by rw [beq_iff_eq.1 e]; exact List.getElem_mem h
      simp [this]
  · have hh : ¬ (i < l.length) := by omega
    simp only [go_sem, hh]
    refine l_exit ?_
    rw [List.take_of_length_le h] at hn
    simp only [go_sem]
    exact ⟨-1, rfl, by simp [hn]⟩

theorem c_contains (nl c : Bool) (l : List Int) (n : Int) (hl : l.length ≤ lim) (σ : St) : VCalls Tryz.prog 126 [.sl nl c 1 (zv64 l), .int .i64 n] σ fun r σ' => r = .bool (decide (n ∈ l)) ∧ σ' = σ := by
  refine vcalls_intro (C := cfg Tryz.prog [] [] []) (cfg_ok mixed) Tryz.func126 rfl rfl rfl rfl rfl ?_
  simp only [go_sem]
  refine vgo_call' rfl rfl rfl (c_indexZ nl c l n hl σ) ?_
  rintro r σ' ⟨⟨i, rfl, hi⟩, rfl⟩
  refine ⟨rfl, ?_⟩
  simp only [go_sem, hi]

theorem c_timed (s : Int) (σ : St) : VCalls Tryz.prog 180 [.int .i64 s] σ fun r σ' => r = .bool (timedB s) ∧ σ' = σ := by
  refine vcalls_intro (C := cfg Tryz.prog [] [] []) (cfg_ok mixed) Tryz.func180 rfl rfl rfl rfl rfl ?_
  unfold timedB
  simp only [go_sem]
  cases h : decide (4 ≤ s) <;> simp only [go_sem, h]
theorem c_rtimed (s : Int) (σ : St) : VCalls Tryz.prog 134 [.int .i64 s] σ fun r σ' => r = .bool (timedB s) ∧ σ' = σ := by
  refine vcalls_intro (C := cfg Tryz.prog [] [] []) (cfg_ok mixed) Tryz.func134 rfl rfl rfl rfl rfl ?_
  unfold timedB
  simp only [go_sem]
  cases h : decide (4 ≤ s) <;> simp only [go_sem, h]

/-- Is an automaton right? -/
def aokB (a : AuV) : Bool := decide (0 ≤ a.st) && decide (a.st ≤ 9) && decide (0 ≤ a.cnt) && decide (a.cnt ≤ 5) && (bif timedB a.st then decide (1 ≤ a.left) && decide (a.left ≤ 3) else a.left == 0)
theorem c_aright (a : AuV) (σ : St) : VCalls Tryz.prog 131 [auv a] σ fun r σ' => r = .bool (aokB a) ∧ σ' = σ := by
  refine vcalls_intro (C := cfg Tryz.prog [] [] []) (cfg_ok mixed) Tryz.func131 rfl rfl rfl rfl rfl ?_
  have n1 : ∀ a b : Int, decide (a < b) = !decide (b ≤ a) := fun a b => by rw [Bool.eq_iff_iff]; simp
  have n10 : decide (10 ≤ a.st) = !decide (a.st ≤ 9) := by rw [Bool.eq_iff_iff]; simp; omega
  unfold aokB
  simp only [go_sem, auv, auC, n1, n10]
  cases h1 : decide (0 ≤ a.st)
  · simp only [go_sem, h1, Bool.false_and]
  simp only [go_sem, h1, n1, n10]
  cases h2 : decide (a.st ≤ 9)
  · simp only [go_sem, h2, Bool.false_and, Bool.and_false]
  simp only [go_sem, h2, n1]
  cases h3 : decide (0 ≤ a.cnt)
  · simp only [go_sem, h3, Bool.false_and, Bool.and_false]
  simp only [go_sem, h3, n1]
  cases h4 : decide (a.cnt ≤ 5)
  · simp only [go_sem, h4, Bool.false_and, Bool.and_false]
  simp only [go_sem, h4]
  refine vgo_call rfl rfl rfl rfl (c_timed _ σ) ?_
  cases h5 : timedB a.st
  · simp only [go_sem, Bool.true_and]
  · simp only [go_sem]
    cases h6 : decide (1 ≤ a.left) <;> simp only [go_sem, h6, Bool.true_and, Bool.false_and]
theorem c_rright12 (a : AuV) (σ : St) : VCalls Tryz.prog 72 [auv a] σ fun r σ' => r = .bool (aokB a) ∧ σ' = σ := by
  refine vcalls_intro (C := cfg Tryz.prog [] [] []) (cfg_ok mixed) Tryz.func72 rfl rfl rfl rfl rfl ?_
  have n1 : ∀ a b : Int, decide (a < b) = !decide (b ≤ a) := fun a b => by rw [Bool.eq_iff_iff]; simp
  unfold aokB
  simp only [go_sem, auv, auC, n1]
  cases h1 : decide (0 ≤ a.st)
  · simp only [go_sem, h1, Bool.false_and]
  simp only [go_sem, h1, n1]
  cases h2 : decide (a.st ≤ 9)
  · simp only [go_sem, h2, Bool.false_and, Bool.and_false]
  simp only [go_sem, h2, n1]
  cases h3 : decide (0 ≤ a.cnt)
  · simp only [go_sem, h3, Bool.false_and, Bool.and_false]
  simp only [go_sem, h3, n1]
  cases h4 : decide (a.cnt ≤ 5)
  · simp only [go_sem, h4, Bool.false_and, Bool.and_false]
  simp only [go_sem, h4]
  refine vgo_call rfl rfl rfl rfl (c_rtimed _ σ) ?_
  cases h5 : timedB a.st
  · simp only [go_sem, Bool.true_and]
  · simp only [go_sem]
    cases h6 : decide (1 ≤ a.left)
    · simp only [go_sem, h6, Bool.true_and, Bool.false_and]
    · simp only [go_sem, h6, Bool.true_and, Bool.false_and]
      cases h7 : decide (a.left ≤ 3) <;> simp only [go_sem, h7]

end Go.VL

/- Contracts of this program's functions: the state table's text, and its fields. Conditions: none. -/
namespace Go.VL
open Go.Proofs

def strB (l : List UInt8) : V := .str ⟨l.toArray⟩
def tabB : List (List UInt8) := [
  [50, 32, 105, 114, 54, 32, 45, 32, 45, 32, 45, 32, 45, 32, 45, 32, 45, 32, 45, 32, 45],
  [45, 32, 45, 32, 48, 32, 116, 49, 32, 48, 32, 49, 32, 49, 32, 49, 32, 49, 32, 100, 49],
  [116, 49, 32, 49, 32, 105, 114, 54, 32, 51, 32, 53, 32, 53, 32, 54, 32, 55, 32, 56, 32, 57],
  [48, 32, 102, 48, 32, 50, 32, 50, 32, 52, 32, 52, 32, 105, 115, 52, 32, 105, 115, 52, 32, 105, 115, 52, 32, 100, 105, 115, 52],
  [45, 32, 45, 32, 45, 32, 45, 32, 115, 52, 32, 115, 53, 32, 114, 54, 32, 114, 54, 32, 114, 56, 32, 45],
  [45, 32, 45, 32, 45, 32, 45, 32, 102, 50, 32, 102, 51, 32, 102, 51, 32, 102, 51, 32, 102, 51, 32, 45],
  [45, 32, 45, 32, 107, 50, 32, 105, 114, 97, 56, 32, 52, 32, 53, 32, 97, 56, 32, 97, 117, 57, 32, 97, 56, 32, 100, 114, 97, 56],
  [45, 32, 45, 32, 107, 50, 32, 105, 114, 110, 54, 32, 52, 32, 53, 32, 110, 54, 32, 110, 55, 32, 110, 54, 32, 100, 114, 110, 54],
  [45, 32, 45, 32, 107, 50, 32, 107, 51, 32, 52, 32, 53, 32, 105, 55, 32, 114, 54, 32, 105, 117, 57, 32, 100, 114, 54],
  [45, 32, 45, 32, 107, 50, 32, 107, 51, 32, 52, 32, 53, 32, 105, 114, 54, 32, 114, 54, 32, 105, 114, 56, 32, 100, 114, 54],
  [45, 32, 45, 32, 107, 50, 32, 107, 51, 32, 107, 52, 32, 107, 53, 32, 107, 54, 32, 107, 54, 32, 107, 54, 32, 100, 122, 107, 53],
  [45, 32, 45, 32, 50, 32, 51, 32, 102, 50, 32, 102, 51, 32, 54, 32, 54, 32, 56, 32, 100, 114, 54],
  [45, 32, 45, 32, 106, 50, 32, 106, 51, 32, 106, 52, 32, 106, 53, 32, 106, 54, 32, 106, 55, 32, 106, 56, 32, 106, 57],
  [45, 32, 45, 32, 50, 32, 51, 32, 52, 32, 53, 32, 54, 32, 54, 32, 56, 32, 57],
  [45, 32, 45, 32, 102, 50, 32, 102, 51, 32, 102, 50, 32, 102, 51, 32, 102, 51, 32, 102, 51, 32, 102, 51, 32, 100, 105, 115, 53],
  [45, 32, 45, 32, 50, 32, 51, 32, 52, 32, 53, 32, 54, 32, 55, 32, 56, 32, 101, 57]]
def lettersL : List (V × V) := [(.int .i32 117, .int .i64 1), (.int .i32 100, .int .i64 2), (.int .i32 116, .int .i64 3), (.int .i32 102, .int .i64 4), (.int .i32 105, .int .i64 5), (.int .i32 122, .int .i64 6), (.int .i32 114, .int .i64 7), (.int .i32 97, .int .i64 8), (.int .i32 110, .int .i64 9), (.int .i32 115, .int .i64 10), (.int .i32 107, .int .i64 11), (.int .i32 106, .int .i64 12), (.int .i32 101, .int .i64 13)]

theorem c_letters (σ : St) : VCalls Tryz.prog 212 [] σ fun r σ' => r = .im lettersL ∧ σ' = σ := by
  refine vcalls_intro (C := cfg Tryz.prog [] [] []) (cfg_ok mixed) Tryz.func212 rfl rfl rfl rfl rfl ?_
  simp only [go_sem, vput, keq, lettersL]
theorem c_table (σ : St) : VCalls Tryz.prog 214 [] σ fun r σ' => r = .agg (tabB.map strB) ∧ σ' = σ := by
  refine vcalls_intro (C := cfg Tryz.prog [] [] []) (cfg_ok mixed) Tryz.func214 rfl rfl rfl rfl rfl ?_
  simp only [go_sem]
  rfl

end Go.VL

/- Contracts of this program's functions: strings.Fields of plain text. Conditions: none. -/
namespace Go.VL
open Go.Proofs

/-- How many fields begin, and whether the last letter was a space. -/
def cntS (s : Nat × Bool) (b : UInt8) : Nat × Bool := (bif s.2 && !isSp b then s.1 + 1 else s.1, isSp b)
def cntF (l : List UInt8) : Nat × Bool := l.foldl cntS (0, true)
theorem cntF_take {l : List UInt8} {i : Nat} (h : i < l.length) : cntF (l.take (i + 1)) = cntS (cntF (l.take i)) l[i] := by
  unfold cntF
  rw [List.take_succ_eq_append_getElem h, List.foldl_append]
  rfl
theorem cntF_le (l : List UInt8) : ∀ i, i ≤ l.length → (cntF (l.take i)).1 ≤ i
  | 0, _ => Nat.le_refl _
  | i + 1, h => by
    rw [cntF_take h]
    have := cntF_le l i (by omega)
    unfold cntS
    cases (cntF (l.take i)).2 && !isSp l[i] <;> simp <;> omega
def orF (l : List UInt8) : Int := l.foldl (fun a b => ibits .or .u8 a b.toNat) 0
theorem orF_take {l : List UInt8} {i : Nat} (h : i < l.length) : orF (l.take (i + 1)) = ibits .or .u8 (orF (l.take i)) l[i].toNat := by
  unfold orF
  rw [List.take_succ_eq_append_getElem h, List.foldl_append]
  rfl
theorem or_small : ∀ a b : Fin 128, 0 ≤ ibits .or .u8 (a.val : Int) (b.val : Int) ∧ ibits .or .u8 (a.val : Int) (b.val : Int) < 128 := by decide +kernel
theorem orF_small {l : List UInt8} (h : ∀ b ∈ l, b.toNat < 128) : ∀ i, i ≤ l.length → 0 ≤ orF (l.take i) ∧ orF (l.take i) < 128
  | 0, _ => by rw [List.take_zero]; exact ⟨by decide, by decide⟩
  | i + 1, hi => by
    rw [orF_take hi]
    obtain ⟨h1, h2⟩ := orF_small h i (by omega)
    have h3 := h l[i] (List.getElem_mem hi)
    have := or_small ⟨(orF (l.take i)).toNat, by omega⟩ ⟨l[i].toNat, h3⟩
    have e : (((orF (l.take i)).toNat : Nat) : Int) = orF (l.take i) := by omega
    simpa only [e] using this
/-- The table of spaces. -/
def spC : List V := (List.range 256).map fun i => V.int .u8 (bif (Nat.ble 9 i && Nat.ble i 13) || Nat.beq i 32 then 1 else 0)
theorem sp_all : ∀ n : Fin 256, ((Nat.ble 9 n.val && Nat.ble n.val 13) || Nat.beq n.val 32) = isSp (UInt8.ofNat n.val) := by decide +kernel
theorem sp_drop (b : UInt8) : ∃ r, spC.drop b.toNat = .int .u8 (bif isSp b then 1 else 0) :: r := by
  have h := sp_all ⟨b.toNat, b.toNat_lt⟩
  have e : UInt8.ofNat b.toNat = b := by simp
  simp only [e] at h
  have hl : b.toNat < spC.length := by simp [spC]; exact b.toNat_lt
  refine ⟨spC.drop (b.toNat + 1), ?_⟩
  rw [List.drop_eq_getElem_cons hl]
  have h2 : spC[b.toNat]? = some (.int .u8 (bif isSp b then 1 else 0)) := by
    unfold spC
    rw [List.getElem?_map, List.getElem?_range b.toNat_lt]
    show some (V.int .u8 (bif ((Nat.ble 9 b.toNat && Nat.ble b.toNat 13) || Nat.beq b.toNat 32) then 1 else 0)) = _
    rw [h]
  rw [List.getElem?_eq_getElem hl] at h2
  rw [Option.some.inj h2]
theorem glo0 : globs 0 = some spC := rfl

theorem and00 : ibits .and .i64 0 (ibits .xor .i64 (bif IntKind.i64.signed then -1 else IntKind.i64.max) 0) = 0 := by decide +kernel
theorem and01 : ibits .and .i64 0 (ibits .xor .i64 (bif IntKind.i64.signed then -1 else IntKind.i64.max) 1) = 0 := by decide +kernel
theorem and10 : ibits .and .i64 1 (ibits .xor .i64 (bif IntKind.i64.signed then -1 else IntKind.i64.max) 0) = 1 := by decide +kernel
theorem and11 : ibits .and .i64 1 (ibits .xor .i64 (bif IntKind.i64.signed then -1 else IntKind.i64.max) 1) = 0 := by decide +kernel
theorem wr0 : IntKind.i64.wrap 0 = 0 := by decide +kernel
theorem wr1 : IntKind.i64.wrap 1 = 1 := by decide +kernel
theorem ext_str (s : List UInt8) (a b : Nat) : ByteArray.extract ⟨s.toArray⟩ a b = ⟨((s.drop a).take (b - a)).toArray⟩ := by
  apply ByteArray.ext
  rw [ByteArray.data_extract]
  simp [List.extract_eq_take_drop]
theorem fld_skip {s : List UInt8} {k : Nat} (h : k < s.length) (hs : isSp s[k] = true) : fldGo (s.drop (k + 1)) [] = fldGo (s.drop k) [] := by
  rw [List.drop_eq_getElem_cons h, fldGo, hs]
  rfl
theorem fld_in {s cur : List UInt8} {k : Nat} (h : k < s.length) (hs : isSp s[k] = false) : fldGo (s.drop (k + 1)) (cur ++ [s[k]]) = fldGo (s.drop k) cur := by
  rw [List.drop_eq_getElem_cons h, fldGo, hs]
  rfl
theorem fld_end {s cur : List UInt8} {k : Nat} (h : k < s.length) (hs : isSp s[k] = true) (hc : cur ≠ []) : fldGo (s.drop k) cur = cur :: fldGo (s.drop (k + 1)) [] := by
  rw [List.drop_eq_getElem_cons h, fldGo, hs]
  cases cur with
  | nil => exact absurd rfl hc
  | cons a r => rfl
/-- What stands from a place up to another one. -/
def cutL (s : List UInt8) (a b : Nat) : List UInt8 := (s.drop a).take (b - a)
theorem cut_succ {s : List UInt8} {a b : Nat} (hab : a ≤ b) (h : b < s.length) : cutL s a (b + 1) = cutL s a b ++ [s[b]] := by
  unfold cutL
  have e : b + 1 - a = b - a + 1 := by omega
  have hl : b - a < (s.drop a).length := by simp; omega
  rw [e, List.take_succ_eq_append_getElem hl]
  congr 2
  rw [List.getElem_drop]
  congr 1
  omega
theorem cut_len {s : List UInt8} {a b : Nat} (h : b ≤ s.length) : (cutL s a b).length = b - a := by
  unfold cutL
  simp
  omega
theorem cut_self (s : List UInt8) (a : Nat) : cutL s a a = [] := by simp [cutL]
/-- The row while it is filled. -/
def fillR (n : Nat) (l : List (List UInt8)) : List V := l.map strB ++ List.replicate (n - l.length) (.str ⟨#[]⟩)
theorem fillR_len {n : Nat} {l : List (List UInt8)} (h : l.length ≤ n) : (fillR n l).length = n := by
  unfold fillR
  simp
  omega
theorem fillR_get {n : Nat} {l : List (List UInt8)} (h : l.length < n) : (fillR n l).getD l.length .undef = .str ⟨#[]⟩ := by
  unfold fillR
  have e : n - l.length = (n - l.length - 1) + 1 := by omega
  rw [e, List.replicate_succ, List.getD_eq_getElem?_getD, List.getElem?_append_right (by simp)]
  simp
theorem fillR_full (l : List (List UInt8)) : (fillR l.length l).take l.length = l.map strB := by
  unfold fillR
  simp
  exact List.take_of_length_le (by simp)
theorem fillR_set {n : Nat} {l : List (List UInt8)} (h : l.length < n) (x : List UInt8) : (fillR n l).set l.length (strB x) = fillR n (l ++ [x]) := by
  unfold fillR
  have e : n - l.length = (n - (l ++ [x]).length) + 1 := by simp; omega
  rw [e, List.replicate_succ, List.set_append_right _ _ (by simp)]
  simp

set_option maxHeartbeats 4000000 in
set_option maxRecDepth 20000 in
theorem c_fields (s : List UInt8) (h1 : ∀ b ∈ s, b.toNat < 128) (h2 : s.length ≤ 1000) (h3 : (cntF s).1 = (fldGo s []).length) (σ : St) : VCalls Tryz.prog 213 [strB s] σ fun r σ' => r = .sl false false 1 ((fldGo s []).map strB) ∧ σ' = σ := by
  refine vcalls_intro (C := cfg Tryz.prog [] [] []) (cfg_ok mixed) Tryz.func213 rfl rfl rfl rfl rfl ?_
  have hsz : (ByteArray.size ⟨s.toArray⟩) = s.length := by simp [ByteArray.size]
  simp only [go_sem, strB]
  refine w_loop (fun i => i ≤ s.length) (fun i => [(6, .int .i64 i), (5, .int .u8 (orF (s.take i))), (4, .int .i64 (bif (cntF (s.take i)).2 then 1 else 0)), (3, .int .i64 (cntF (s.take i)).1), (0, .str ⟨s.toArray⟩)]) (fun _ => σ) (fun i => s.length - i) 0 (Nat.zero_le _) ?_ rfl ?_
  · simp only [go_sem]
    exact ⟨rfl, rfl, rfl, rfl⟩
  intro i hi
  rcases Nat.lt_or_ge i s.length with h | h
  · have hw : IntKind.i64.wrap ((i : Int) + 1) = ((i + 1 : Nat) : Int) := wrap_ok (by omega) (by omega)
    obtain ⟨r, hr⟩ := sp_drop s[i]
    have hge : s.getD i 0 = s[i] := by simp [h]
    have hlt : s[i].toNat < 256 := s[i].toNat_lt
    have hct := cntF_take h
    have hle := cntF_le s i hi
    have hot := orF_take h
    unfold cntS at hct
    generalize (cntF (s.take i)).1 = n at hct hle
    generalize (cntF (s.take i)).2 = w at hct
    generalize orF (s.take i) = ob at hot
    have hwn : IntKind.i64.wrap ((n : Int) + 0) = (n : Int) := wrap_ok (by omega) (by omega)
    have hwn1 : IntKind.i64.wrap ((n : Int) + 1) = ((n + 1 : Nat) : Int) := wrap_ok (by omega) (by omega)
    cases hs : isSp s[i] <;> cases w
    · rw [hs] at hr hct
      simp only [go_sem, hsz, h, hge, glo0, hr, hlt, Nat.mul_one, and00, hwn, wr0]
      refine l_next (i + 1) h (by omega) ?_ rfl
      simp only [go_sem, hw, hct, hot, Bool.false_and, cond_false]
    · rw [hs] at hr hct
      simp only [go_sem, hsz, h, hge, glo0, hr, hlt, Nat.mul_one, and10, hwn1, wr0]
      refine l_next (i + 1) h (by omega) ?_ rfl
      simp only [go_sem, hw, hct, hot, Bool.true_and, Bool.not_false, cond_true, cond_false]
    · rw [hs] at hr hct
      simp only [go_sem, hsz, h, hge, glo0, hr, hlt, Nat.mul_one, and01, hwn, wr1]
      refine l_next (i + 1) h (by omega) ?_ rfl
      simp only [go_sem, hw, hct, hot, Bool.false_and, cond_true, cond_false]
    · rw [hs] at hr hct
      simp only [go_sem, hsz, h, hge, glo0, hr, hlt, Nat.mul_one, and11, hwn, wr1]
      refine l_next (i + 1) h (by omega) ?_ rfl
      simp only [go_sem, hw, hct, hot, Bool.true_and, Bool.not_true, cond_true, cond_false]
  have hh : ¬ (i < s.length) := by omega
  simp only [go_sem, hsz, hh]
  refine l_exit ?_
  rw [List.take_of_length_le h]
  have ho := orF_small h1 s.length (Nat.le_refl _)
  rw [List.take_length] at ho
  have hod : decide ((128 : Int) ≤ orF s) = false := by rw [decide_eq_false_iff_not]; omega
  have hcn := cntF_le s s.length (Nat.le_refl _)
  rw [List.take_length, h3] at hcn
  generalize hF : fldGo s [] = F at h3 hcn
  rw [h3]
  simp only [go_sem, hod]
  refine ⟨by unfold lim; omega, ?_⟩
  clear hh h hi
  refine w_loop (fun k => k ≤ s.length ∧ fldGo (s.drop k) [] = F) (fun k => [(12, .int .i64 k), (11, .int .i64 0), (10, .int .i64 0), (9, .rsl σ.length 0 0 F.length), (0, .str ⟨s.toArray⟩)]) (fun _ => σ ++ [.arr false 0 1 (fillR F.length [])]) (fun k => s.length - k) 0 ⟨Nat.zero_le _, hF⟩ ?_ ?_ ?_
  · simp only [go_sem]
    rfl
  · simp [fillR]
  rintro k ⟨hk, hkF⟩
  by_cases hx : ∃ h : k < s.length, isSp s[k] = true
  · obtain ⟨h, hs⟩ := hx
    have hw : IntKind.i64.wrap ((k : Int) + 1) = ((k + 1 : Nat) : Int) := wrap_ok (by omega) (by omega)
    obtain ⟨r, hr⟩ := sp_drop s[k]
    have hge : s.getD k 0 = s[k] := by simp [h]
    have hlt : s[k].toNat < 256 := s[k].toNat_lt
    rw [hs] at hr
    simp only [go_sem, hsz, h, hge, glo0, hr, hlt, Nat.mul_one]
    refine l_next (k + 1) ⟨h, by rw [fld_skip h hs, hkF]⟩ (by omega) ?_ rfl
    simp only [go_sem, hw]
  have hx' : ∀ h : k < s.length, isSp s[k] = false := fun h => by
    cases e : isSp s[k]
    · rfl
    · exact absurd ⟨h, e⟩ hx
  rcases Nat.lt_or_ge k s.length with h | h <;> first
    | (obtain ⟨r, hr⟩ := sp_drop s[k]
       have hge : s.getD k 0 = s[k] := by simp [h]
       have hlt : s[k].toNat < 256 := s[k].toNat_lt
       rw [hx' h] at hr
       simp only [go_sem, hsz, h, hge, glo0, hr, hlt, Nat.mul_one]
       refine l_exit ?_
       simp only [go_sem])
    | (have hh : ¬ (k < s.length) := by omega
       simp only [go_sem, hsz, hh]
       refine l_exit ?_
       simp only [go_sem])
  all_goals
    refine w_loop (fun x : Nat × Nat × List (List UInt8) => x.2.1 ≤ x.1 ∧ x.1 ≤ s.length ∧ x.2.2 ++ fldGo (s.drop x.1) (cutL s x.2.1 x.1) = F ∧ (x.2.1 = x.1 → ∀ h : x.1 < s.length, isSp s[x.1] = false)) (fun x => [(12, .int .i64 x.1), (11, .int .i64 x.2.1), (10, .int .i64 x.2.2.length), (9, .rsl σ.length 0 0 F.length), (0, .str ⟨s.toArray⟩)]) (fun x => σ ++ [.arr false 0 1 (fillR F.length x.2.2)]) (fun x => s.length - x.1) (k, k, []) ⟨Nat.le_refl _, hk, by rw [cut_self]; exact hkF, fun _ => hx'⟩ ?_ rfl ?_
    · simp only [go_sem]
      rfl
    rintro ⟨k, fs, dn⟩ ⟨p1, p2, p3, p4⟩
    simp only at p1 p2 p3 p4
    rcases Nat.lt_or_ge k s.length with h | h
    · have hw : IntKind.i64.wrap ((k : Int) + 1) = ((k + 1 : Nat) : Int) := wrap_ok (by omega) (by omega)
      obtain ⟨r, hr⟩ := sp_drop s[k]
      have hge : s.getD k 0 = s[k] := by simp [h]
      have hlt : s[k].toNat < 256 := s[k].toNat_lt
      cases hs : isSp s[k]
      · rw [hs] at hr
        simp only [go_sem, hsz, h, hge, glo0, hr, hlt, Nat.mul_one]
        refine l_next (k + 1, fs, dn) ⟨by simp only; omega, h, by simp only; rw [cut_succ p1 h, fld_in h hs, p3], fun e => absurd e (by simp only; omega)⟩ (by simp only; omega) ?_ rfl
        simp only [go_sem, hw]
      · rw [hs] at hr
        have hlt2 : fs < k := by
          rcases Nat.lt_or_ge fs k with h' | h'
          · exact h'
          · have := p4 (by omega) h
            rw [hs] at this; cases this
        have hne : cutL s fs k ≠ [] := fun e => by
          have := cut_len (s := s) (a := fs) (b := k) p2
          rw [e] at this
          simp at this
          omega
        rw [fld_end h hs hne] at p3
        have hdl : dn.length < F.length := by rw [← p3]; simp
        have hwd : IntKind.i64.wrap ((dn.length : Int) + 1) = ((dn.length + 1 : Nat) : Int) := wrap_ok (by omega) (by omega)
        have hfl := fillR_len (Nat.le_of_lt hdl)
        have hst := fillR_set hdl (cutL s fs k)
        have hex := ext_str s fs k
        unfold strB cutL at hst
        have hdl' : (dn ++ [cutL s fs k]).length = dn.length + 1 := by simp
        simp only [go_sem, hsz, h, hge, glo0, hr, hlt, Nat.mul_one, hdl, hfl, hex, fillR_get hdl, hst, hw, hwd, Nat.zero_add, Nat.sub_zero]
        refine ⟨by omega, by omega, ?_⟩
        refine w_loop (fun j => k + 1 ≤ j ∧ j ≤ s.length ∧ fldGo (s.drop j) [] = fldGo (s.drop (k + 1)) []) (fun j => [(12, .int .i64 j), (11, .int .i64 fs), (10, .int .i64 ((dn.length + 1 : Nat) : Int)), (9, .rsl σ.length 0 0 F.length), (0, .str ⟨s.toArray⟩)]) (fun _ => σ ++ [.arr false 0 1 (fillR F.length (dn ++ [cutL s fs k]))]) (fun j => s.length - j) (k + 1) ⟨Nat.le_refl _, h, rfl⟩ ?_ rfl ?_
        · simp only [go_sem]
        rintro j ⟨j1, j2, j3⟩
        by_cases hy : ∃ h : j < s.length, isSp s[j] = true
        · obtain ⟨h', hs'⟩ := hy
          have hw' : IntKind.i64.wrap ((j : Int) + 1) = ((j + 1 : Nat) : Int) := wrap_ok (by omega) (by omega)
          obtain ⟨r', hr'⟩ := sp_drop s[j]
          have hge' : s.getD j 0 = s[j] := by simp [h']
          have hlt' : s[j].toNat < 256 := s[j].toNat_lt
          rw [hs'] at hr'
          simp only [go_sem, hsz, h', hge', glo0, hr', hlt', Nat.mul_one]
          refine l_next (j + 1) ⟨by omega, h', by rw [fld_skip h' hs', j3]⟩ (by omega) ?_ rfl
          simp only [go_sem, hw']
        have hy' : ∀ h : j < s.length, isSp s[j] = false := fun h => by
          cases e : isSp s[j]
          · rfl
          · exact absurd ⟨h, e⟩ hy
        have hP : (j, j, dn ++ [cutL s fs k]).2.1 ≤ (j, j, dn ++ [cutL s fs k]).1 ∧ (j, j, dn ++ [cutL s fs k]).1 ≤ s.length ∧ (j, j, dn ++ [cutL s fs k]).2.2 ++ fldGo (s.drop (j, j, dn ++ [cutL s fs k]).1) (cutL s (j, j, dn ++ [cutL s fs k]).2.1 (j, j, dn ++ [cutL s fs k]).1) = F ∧ ((j, j, dn ++ [cutL s fs k]).2.1 = (j, j, dn ++ [cutL s fs k]).1 → ∀ h : (j, j, dn ++ [cutL s fs k]).1 < s.length, isSp s[(j, j, dn ++ [cutL s fs k]).1] = false) := by
          refine ⟨Nat.le_refl _, j2, ?_, fun _ => hy'⟩
          simp only
          rw [cut_self, j3, List.append_assoc]
          exact p3
        rcases Nat.lt_or_ge j s.length with h' | h'
        · obtain ⟨r', hr'⟩ := sp_drop s[j]
          have hge' : s.getD j 0 = s[j] := by simp [h']
          have hlt' : s[j].toNat < 256 := s[j].toNat_lt
          rw [hy' h'] at hr'
          simp only [go_sem, hsz, h', hge', glo0, hr', hlt', Nat.mul_one]
          refine l_exit ?_
          simp only [go_sem]
          refine l_next (j, j, dn ++ [cutL s fs k]) hP (by simp only; omega) ?_ rfl
          simp only [go_sem, hdl']
        · have hh' : ¬ (j < s.length) := by omega
          simp only [go_sem, hsz, hh']
          refine l_exit ?_
          simp only [go_sem]
          refine l_next (j, j, dn ++ [cutL s fs k]) hP (by simp only; omega) ?_ rfl
          simp only [go_sem, hdl']
    · have hh : ¬ (k < s.length) := by omega
      have hke : k = s.length := by omega
      subst hke
      simp only [go_sem, hsz, hh]
      refine l_exit ?_
      rw [List.drop_length] at p3
      simp only [go_sem, hsz, List.size_toArray]
      rcases Nat.lt_or_ge fs s.length with hf | hf
      · have hne : cutL s fs s.length ≠ [] := fun e => by
          have := cut_len (s := s) (a := fs) (b := s.length) (Nat.le_refl _)
          rw [e] at this
          simp at this
          omega
        have hFe : F = dn ++ [cutL s fs s.length] := by
          rw [← p3]
          cases hc : cutL s fs s.length with
          | nil => exact absurd hc hne
          | cons a r => rfl
        have hdl : dn.length < F.length := by rw [hFe]; simp
        have hfl := fillR_len (Nat.le_of_lt hdl)
        have hst := fillR_set hdl (cutL s fs s.length)
        rw [← hFe] at hst
        have hex := ext_str s fs s.length
        unfold strB cutL at hst
        have hd : decide (fs < s.length) = true := decide_eq_true hf
        simp only [go_sem, hsz, hf, hd, hdl, hfl, hex, fillR_get hdl, hst, Nat.zero_add, Nat.sub_zero, List.size_toArray]
        exact ⟨by omega, by omega, by rw [fillR_full]⟩
      · have hFe : F = dn := by
          have : fs = s.length := by omega
          rw [this, cut_self] at p3
          simpa [fldGo] using p3.symm
        have hd : decide (fs < s.length) = false := decide_eq_false (by omega)
        simp only [go_sem, hd]
        rw [hFe, fillR_full]

end Go.VL

/- Contracts of this program's functions: the state table. Conditions: none. -/
namespace Go.VL
open Go.Proofs

/-- A field of the table. -/
def fieldB (s e : Nat) : List UInt8 := (fldGo (tabB.getD e []) []).getD s []
def nextP (s e : Int) : List Int × Int × Bool := bif decide (0 ≤ s) && decide (s ≤ 9) && decide (0 ≤ e) && decide (e ≤ 15) then nxtGo s (fieldB s.toNat e.toNat) [] else ([], s, false)
theorem tab_ok : ∀ e : Fin 16, (∀ b ∈ tabB.getD e.val [], b.toNat < 128) ∧ (tabB.getD e.val []).length ≤ 1000 ∧ (cntF (tabB.getD e.val [])).1 = (fldGo (tabB.getD e.val []) []).length ∧ (fldGo (tabB.getD e.val []) []).length = 10 := by decide +kernel
theorem field_ok : ∀ e : Fin 16, ∀ s : Fin 10, (∀ b ∈ fieldB s.val e.val, b.toNat < 128 ∧ b.toNat < 128) ∧ (fieldB s.val e.val).length ≤ 10 := by decide +kernel
def getI : Option V → Option Int
  | some (.int .i64 n) => some n
  | some _ => some (-1)
  | none => none
theorem let_all : ∀ b : Fin 128, (getI (vget lettersL (.int .i32 (b.val : Int))) = none ∧ letN (UInt8.ofNat b.val) = 0) ∨ (getI (vget lettersL (.int .i32 (b.val : Int))) = some (letN (UInt8.ofNat b.val)) ∧ 0 ≤ letN (UInt8.ofNat b.val)) := by decide +kernel
theorem let_get (b : UInt8) (h : b.toNat < 128) : (vget lettersL (.int .i32 (b.toNat : Int)) = none ∧ letN b = 0) ∨ vget lettersL (.int .i32 (b.toNat : Int)) = some (.int .i64 (letN b)) := by
  have h1 := let_all ⟨b.toNat, h⟩
  have e : UInt8.ofNat b.toNat = b := by simp
  simp only [e] at h1
  rcases h1 with ⟨h1, h2⟩ | ⟨h1, h2⟩
  · left
    refine ⟨?_, h2⟩
    cases hv : vget lettersL (.int .i32 (b.toNat : Int)) with
    | none => rfl
    | some v =>
      rw [hv] at h1
      unfold getI at h1
      split at h1 <;> simp_all
  · right
    cases hv : vget lettersL (.int .i32 (b.toNat : Int)) with
    | none => rw [hv] at h1; cases h1
    | some v =>
      rw [hv] at h1
      unfold getI at h1
      split at h1
      · rename_i n e1
        cases h1
        rw [e1]
      · have := Option.some.inj h1
        omega
      · cases h1
theorem let_keys (b : Int) : lettersL.all (fun kv => sameKind (.int .i32 b) kv.1) = true := rfl

set_option maxHeartbeats 4000000 in
set_option maxRecDepth 20000 in
theorem c_next (s e : Int) (σ : St) : VCalls Tryz.prog 183 [.int .i64 s, .int .i64 e] σ fun r σ' => r = .tup [.sl (nextP s e).1.isEmpty false 1 (zv64 (nextP s e).1), .int .i64 (nextP s e).2.1, .bool (nextP s e).2.2] ∧ σ' = σ := by
  refine VCalls.res ?_
  refine vcalls_intro (C := cfg Tryz.prog [] [] []) (cfg_ok mixed) Tryz.func183 rfl rfl rfl rfl rfl ?_
  have n1 : ∀ a b : Int, decide (a < b) = !decide (b ≤ a) := fun a b => by rw [Bool.eq_iff_iff]; simp
  have n10 : decide (10 ≤ s) = !decide (s ≤ 9) := by rw [Bool.eq_iff_iff]; simp; omega
  have n16 : decide (16 ≤ e) = !decide (e ≤ 15) := by rw [Bool.eq_iff_iff]; simp; omega
  have hN : nextP s e = bif decide (0 ≤ s) && decide (s ≤ 9) && decide (0 ≤ e) && decide (e ≤ 15) then nxtGo s (fieldB s.toNat e.toNat) [] else ([], s, false) := rfl
  have none' : nextP s e = ([], s, false) → NE (.tup [.sl true false 0 [], .int .i64 s, .bool false]) (.tup [.sl (nextP s e).1.isEmpty false 1 (zv64 (nextP s e).1), .int .i64 (nextP s e).2.1, .bool (nextP s e).2.2]) := fun h => by
    rw [h]
    exact .tupL ⟨.nil _ _ _ _, .refl _, .refl _, trivial⟩
  simp only [go_sem, n1]
  cases q1 : decide (0 ≤ s)
  · simp only [go_sem, q1]
    exact none' (by rw [hN, q1]; rfl)
  simp only [go_sem, q1, n10]
  cases q2 : decide (s ≤ 9)
  · simp only [go_sem, q2]
    exact none' (by rw [hN, q1, q2]; rfl)
  simp only [go_sem, q2, n1]
  cases q3 : decide (0 ≤ e)
  · simp only [go_sem, q3]
    exact none' (by rw [hN, q1, q2, q3]; rfl)
  simp only [go_sem, q3, n16]
  cases q4 : decide (e ≤ 15)
  · simp only [go_sem, q4]
    exact none' (by rw [hN, q1, q2, q3, q4]; rfl)
  simp only [go_sem, q4]
  rw [q1, q2, q3, q4] at hN
  simp only [Bool.and_self, cond_true] at hN
  have g1 : 0 ≤ s := of_decide_eq_true q1
  have g2 : s ≤ 9 := of_decide_eq_true q2
  have g3 : 0 ≤ e := of_decide_eq_true q3
  have g4 : e ≤ 15 := of_decide_eq_true q4
  refine vgo_call rfl rfl rfl rfl (c_letters σ) ?_
  simp only [go_sem]
  refine vgo_call rfl rfl rfl rfl (c_table σ) ?_
  have ht := tab_ok ⟨e.toNat, by omega⟩
  have hf := field_ok ⟨e.toNat, by omega⟩ ⟨s.toNat, by omega⟩
  simp only at ht hf
  obtain ⟨t1, t2, t3, t4⟩ := ht
  obtain ⟨f1, f2⟩ := hf
  have hte : (tabB.map strB).getD e.toNat .undef = strB (tabB.getD e.toNat []) := by
    have hl : e.toNat < tabB.length := by show e.toNat < 16; omega
    simp [hl]
  simp only [go_sem, Nat.mul_one, hte]
  refine ⟨g3, by show e < 16; omega, by show e.toNat < 16; omega, ?_⟩
  refine vgo_call rfl rfl rfl rfl (c_fields _ t1 t2 t3 σ) ?_
  have hgd : ∀ (L : List (List UInt8)) (n : Nat), n < L.length → (L.map strB).getD n .undef = strB (L.getD n []) := fun L n h => by simp [h]
  have hfe : ((fldGo (tabB.getD e.toNat []) []).map strB).getD s.toNat .undef = strB (fieldB s.toNat e.toNat) := hgd _ _ (by rw [t4]; omega)
  have hsl : ((fldGo (tabB.getD e.toNat []) []).map strB).length = 10 := by rw [List.length_map, t4]
  simp only [go_sem, hfe, hsl]
  generalize fieldB s.toNat e.toNat = f at hN f1 f2
  refine ⟨g1, by show s < 10; omega, ?_⟩
  simp only [go_sem, strB]
  have hsz : (ByteArray.size ⟨f.toArray⟩) = f.length := by simp [ByteArray.size]
  refine loop_adopt 7 1 (σ.length + 1) rfl (by simp) ?_
  refine w_loop (fun k => k ≤ f.length ∧ nextP s e = nxtGo s (f.drop k) ((f.take k).map letN)) (fun k => [(34, .ptr σ.length 0), (8, .im lettersL), (7, .rsl (σ.length + 1) k 0 k), (0, .int .i64 s)]) (fun k => σ ++ [.siter ⟨f.toArray⟩ k, .arr (decide (k = 0)) k 1 (zv64 ((f.take k).map letN))]) (fun k => f.length - k) 0 ⟨Nat.zero_le _, hN⟩ ?_ ?_ ?_
  · simp only [go_sem]
  · simp [zv64]
  rintro k ⟨hk, hkN⟩
  rcases Nat.lt_or_ge k f.length with h | h
  · have hge : f.getD k 0 = f[k] := by simp [h]
    have h128 := (f1 f[k] (List.getElem_mem h)).1
    have d1 : decide ((48 : Int) ≤ (f[k].toNat : Int)) = decide (48 ≤ f[k].toNat) := by rw [Bool.eq_iff_iff]; simp; omega
    have d2 : decide ((f[k].toNat : Int) ≤ 57) = decide (f[k].toNat ≤ 57) := by rw [Bool.eq_iff_iff]; simp; omega
    have d3 : ((f[k].toNat : Int) == 45) = (f[k] == 45) := toNat_beq f[k] 45
    rw [List.drop_eq_getElem_cons h, nxtGo] at hkN
    have hzl : (zv64 ((f.take k).map letN)).length = k := by simp [zv64]; omega
    have hbl : Nat.blt k f.length = true := Nat.ble_eq_true_of_le h
    have hzv : zv64 ((f.take k).map letN) ++ [.int .i64 (letN f[k])] = zv64 ((f.take (k + 1)).map letN) := by
      rw [List.take_succ_eq_append_getElem h, List.map_append]
      simp [zv64]
    have hmo : (f.take k).map letN ++ [letN f[k]] = (f.take (k + 1)).map letN := by
      rw [List.take_succ_eq_append_getElem h, List.map_append]
      rfl
    have htk : (zv64 ((f.take k).map letN)).take k = zv64 ((f.take k).map letN) := List.take_of_length_le (by omega)
    have hem : decide (k = 0) = ((f.take k).map letN).isEmpty := by
      cases k with
      | zero => rfl
      | succ k =>
        cases f with
        | nil => simp at h
        | cons a r => rfl
    simp only [go_sem, List.append_assoc, hsz, h, hge, h128, d1, d2, d3, hbl]
    cases e1 : decide (48 ≤ f[k].toNat)
    · rw [e1] at hkN
      simp only [Bool.false_and, cond_false] at hkN
      simp only [go_sem, e1, d2, d3]
      cases e2 : f[k] == 45
      · rw [e2] at hkN
        simp only [cond_false] at hkN
        rw [hmo] at hkN
        rcases let_get f[k] h128 with ⟨hl1, hl2⟩ | hl
        · rw [hl2] at hzv
          simp only [go_sem, e2, d3, hl1, let_keys, hzl, Nat.zero_add, Nat.sub_zero]
          refine ⟨rfl, by unfold lim; omega, l_next (k + 1) ⟨h, hkN⟩ (by omega) ?_ ?_⟩
          · simp only [go_sem]
          · rw [hzv]; rfl
        · simp only [go_sem, e2, d3, hl, let_keys, hzl, Nat.zero_add, Nat.sub_zero]
          refine ⟨rfl, by unfold lim; omega, l_next (k + 1) ⟨h, hkN⟩ (by omega) ?_ ?_⟩
          · simp only [go_sem]
          · rw [hzv]; rfl
      · rw [e2] at hkN
        simp only [cond_true] at hkN
        simp only [go_sem, e2, d3]
        refine l_ret ?_
        simp only [go_sem]
        exact none' hkN
    · rw [e1] at hkN
      simp only [go_sem, e1, d2, d3]
      cases e3 : decide (f[k].toNat ≤ 57)
      · rw [e3] at hkN
        simp only [Bool.and_false, cond_false] at hkN
        simp only [go_sem, e3, d3]
        cases e2 : f[k] == 45
        · rw [e2] at hkN
          simp only [cond_false] at hkN
          rw [hmo] at hkN
          rcases let_get f[k] h128 with ⟨hl1, hl2⟩ | hl
          · rw [hl2] at hzv
            simp only [go_sem, e2, d3, hl1, let_keys, hzl, Nat.zero_add, Nat.sub_zero]
            refine ⟨rfl, by unfold lim; omega, l_next (k + 1) ⟨h, hkN⟩ (by omega) ?_ ?_⟩
            · simp only [go_sem]
            · rw [hzv]; rfl
          · simp only [go_sem, e2, d3, hl, let_keys, hzl, Nat.zero_add, Nat.sub_zero]
            refine ⟨rfl, by unfold lim; omega, l_next (k + 1) ⟨h, hkN⟩ (by omega) ?_ ?_⟩
            · simp only [go_sem]
            · rw [hzv]; rfl
        · rw [e2] at hkN
          simp only [cond_true] at hkN
          simp only [go_sem, e2, d3]
          refine l_ret ?_
          simp only [go_sem]
          exact none' hkN
      · rw [e3] at hkN
        simp only [Bool.and_self, cond_true] at hkN
        have k1 : 48 ≤ f[k].toNat := of_decide_eq_true e1
        have k2 : f[k].toNat ≤ 57 := of_decide_eq_true e3
        have hwr : IntKind.i64.wrap (IntKind.i32.wrap ((f[k].toNat : Int) - 48)) = (f[k].toNat : Int) - 48 := by
          have : IntKind.i32.wrap ((f[k].toNat : Int) - 48) = (f[k].toNat : Int) - 48 := by
            unfold IntKind.wrap
            simp [IntKind.bits, IntKind.signed]
            omega
          rw [this, IntKind.wrap_i64]
          omega
        simp only [go_sem, e3, d3]
        refine l_ret ?_
        simp only [go_sem, htk, hwr, hem]
        rw [hkN]
        exact .refl _
  · have hh : ¬ (k < f.length) := by omega
    have hbl : Nat.blt k f.length = false := by
      cases e : Nat.blt k f.length
      · rfl
      · exact absurd (Nat.le_of_ble_eq_true e) (by omega)
    simp only [go_sem, List.append_assoc, hsz, hh, hbl]
    refine l_exit ?_
    simp only [go_sem]
    refine none' ?_
    rw [hkN, List.drop_eq_nil_of_le h]
    rfl

end Go.VL

/- Contracts of this program's functions: automata with timers. Conditions: none. -/
namespace Go.VL
open Go.Proofs

/-- An automaton at work. -/
def awC (a : AuV) (nl : Bool) (l : List Int) : List V := [.int .i64 a.st, .int .i64 a.cnt, .int .i64 a.left, .int .u8 a.id.toNat, .sl nl false 1 (zv64 l)]
theorem u8_succ (b : UInt8) : IntKind.u8.wrap ((b.toNat : Int) + 1) = ((b + 1).toNat : Int) := by
  have : (b + 1).toNat = (b.toNat + 1) % 256 := by simp [UInt8.toNat_add]
  rw [this]
  unfold IntKind.wrap
  simp [IntKind.bits, IntKind.signed]

theorem c_begin (a : AuV) (nl : Bool) (l : List Int) (hl : l.length ≤ lim) (σ : St) (id : Nat) (hσ : σ[id]? = some (.box (awC a nl l))) : VCalls Tryz.prog 184 [.ptr id 0] σ fun r σ' => r = .tup [] ∧ σ' = σ.set id (.box (awC { a with cnt := if (10 : Int) ∈ l then 2 else 5 } nl l)) := by
  refine vcalls_keep (C := cfg Tryz.prog [] [] []) (cfg_ok mixed) Tryz.func184 rfl rfl rfl rfl rfl ?_
  have hss := @set_self _ _ _ (VO.box (awC { a with cnt := 5 } nl l)) hσ
  simp only [awC] at hσ hss
  simp only [go_sem, hσ, hss]
  refine vgo_call rfl rfl rfl rfl (c_contains nl false l 10 hl _) ?_
  by_cases h : (10 : Int) ∈ l
  · have hd : decide ((10 : Int) ∈ l) = true := decide_eq_true h
    simp only [go_sem, hd, hss, vendK, awC, List.set_set, if_pos h]
  · have hd : decide ((10 : Int) ∈ l) = false := decide_eq_false h
    simp only [go_sem, hd, vendK, awC, if_neg h]
theorem c_nought (a : AuV) (nl : Bool) (l : List Int) (σ : St) (id : Nat) (hσ : σ[id]? = some (.box (awC a nl l))) : VCalls Tryz.prog 185 [.ptr id 0] σ fun r σ' => r = .tup [] ∧ σ' = σ.set id (.box (awC { a with cnt := 0, left := 3 } nl l)) := by
  refine vcalls_keep (C := cfg Tryz.prog [] [] []) (cfg_ok mixed) Tryz.func185 rfl rfl rfl rfl rfl ?_
  have hss := @set_self _ _ _ (VO.box (awC { a with cnt := 0 } nl l)) hσ
  simp only [awC] at hσ hss
  simp only [go_sem, hσ, hss, vendK, awC, List.set_set]
set_option maxRecDepth 20000 in
theorem c_send (a : AuV) (h1 : 0 ≤ a.cnt) (h2 : a.cnt ≤ 5) (nl : Bool) (l : List Int) (σ : St) (id : Nat) (hσ : σ[id]? = some (.box (awC a nl l))) : VCalls Tryz.prog 186 [.ptr id 0] σ fun r σ' => r = .tup [] ∧ σ' = σ.set id (.box (awC { a with cnt := max (a.cnt - 1) 0, left := 3, id := a.id + 1 } nl l)) := by
  refine vcalls_keep (C := cfg Tryz.prog [] [] []) (cfg_ok mixed) Tryz.func186 rfl rfl rfl rfl rfl ?_
  have hw : IntKind.i64.wrap (a.cnt - 1) = a.cnt - 1 := by rw [IntKind.wrap_i64]; omega
  have hm : (if a.cnt - 1 < 0 then 0 else a.cnt - 1) = max (a.cnt - 1) 0 := by omega
  have hss : ∀ x : VO, (σ.set id x)[id]? = some x := fun x => set_self hσ
  have hu := u8_succ a.id
  simp only [awC] at hσ
  simp only [go_sem, hσ, hw, hm, hss, hu, vendK, awC, List.set_set]

/-- What an event does to an automaton. -/
def doA (a : AuV) (e : Int) : AuV × List Int × Int :=
  bif (nextP a.st e).2.2 then ({ (nextP a.st e).1.foldl (actA (nextP a.st e).1) a with st := (nextP a.st e).2.1, left := bif timedB (nextP a.st e).2.1 then ((nextP a.st e).1.foldl (actA (nextP a.st e).1) a).left else 0 }, (nextP a.st e).1, 0) else (a, [], 1)
theorem actA_bound {l : List Int} {a : AuV} (h : 0 ≤ a.cnt ∧ a.cnt ≤ 5) (x : Int) : 0 ≤ (actA l a x).cnt ∧ (actA l a x).cnt ≤ 5 := by
  unfold actA
  split
  · show 0 ≤ (if (10 : Int) ∈ l then (2 : Int) else 5) ∧ (if (10 : Int) ∈ l then (2 : Int) else 5) ≤ 5
    split <;> omega
  split
  · exact ⟨Int.le_refl _, by show (0 : Int) ≤ 5; omega⟩
  split
  · show 0 ≤ max (a.cnt - 1) 0 ∧ max (a.cnt - 1) 0 ≤ 5
    omega
  · exact h
def actsA (l : List Int) (a : AuV) (i : Nat) : AuV := (l.take i).foldl (actA l) a
theorem actsA_succ {l : List Int} (a : AuV) {i : Nat} (h : i < l.length) : actsA l a (i + 1) = actA l (actsA l a i) l[i] := by
  unfold actsA
  rw [List.take_succ_eq_append_getElem h, List.foldl_append]
  rfl
theorem actsA_bound {l : List Int} {a : AuV} (h : 0 ≤ a.cnt ∧ a.cnt ≤ 5) : ∀ i, i ≤ l.length → 0 ≤ (actsA l a i).cnt ∧ (actsA l a i).cnt ≤ 5
  | 0, _ => h
  | i + 1, hi => by
    rw [actsA_succ a hi]
    exact actA_bound (actsA_bound h i (by omega)) _

def mapD (id : Nat) : List (V × V) := [(.int .i64 5, .fn (.func 184) [.ptr id 0] []), (.int .i64 6, .fn (.func 185) [.ptr id 0] []), (.int .i64 7, .fn (.func 186) [.ptr id 0] []), (.int .i64 10, .fn (.func 186) [.ptr id 0] [])]

theorem nxtGo_len (s : Int) : ∀ (f : List UInt8) (out : List Int), (nxtGo s f out).1.length ≤ out.length + f.length
  | [], out => by simp [nxtGo]
  | b :: r, out => by
    unfold nxtGo
    cases decide (48 ≤ b.toNat) && decide (b.toNat ≤ 57)
    · cases b == 45
      · simp only [cond_false]
        have := nxtGo_len s r (out ++ [letN b])
        simp at this ⊢
        omega
      · simp
    · simp
theorem next_len (s e : Int) : (nextP s e).1.length ≤ 10 := by
  unfold nextP
  cases h : decide (0 ≤ s) && decide (s ≤ 9) && decide (0 ≤ e) && decide (e ≤ 15)
  · simp
  · simp only [cond_true]
    simp only [Bool.and_eq_true, decide_eq_true_eq] at h
    have := nxtGo_len s (fieldB s.toNat e.toNat) []
    have hf := (field_ok ⟨e.toNat, by omega⟩ ⟨s.toNat, by omega⟩).2
    simp at this hf
    omega

set_option maxHeartbeats 4000000 in
set_option maxRecDepth 20000 in
theorem c_ado (a : AuV) (h : 0 ≤ a.cnt ∧ a.cnt ≤ 5) (e : Int) (σ : St) : VCalls Tryz.prog 135 [auv a, .int .i64 e] σ fun r σ' => r = .tup [auv (doA a e).1, .sl (doA a e).2.1.isEmpty false 1 (zv64 (doA a e).2.1), .int .i64 (doA a e).2.2] ∧ σ' = σ := by
  refine VCalls.res ?_
  refine vcalls_intro (C := cfg Tryz.prog [30] [] []) (cfg_ok mixed) Tryz.func135 rfl rfl rfl rfl rfl ?_
  simp only [go_sem, auv, auC]
  refine vgo_call rfl rfl rfl rfl (c_next a.st e σ) ?_
  have hln := next_len a.st e
  unfold doA
  generalize nextP a.st e = n at hln
  obtain ⟨l, nx, ok⟩ := n
  simp only at hln
  cases ok
  · simp only [go_sem, cond_false]
    exact .tupL ⟨.refl _, .nil _ _ _ _, .refl _, trivial⟩
  simp only [go_sem, cond_true, zv_length, vput, keq, List.append_assoc, List.length_append]
  refine w_loop (fun i => i ≤ l.length) (fun i => [(43, .int .i64 i), (42, .int .i64 l.length), (41, .sl l.isEmpty false 1 (zv64 l)), (11, .mp (σ.length + 1)), (10, .ptr σ.length 0), (8, .int .i64 nx), (7, .sl l.isEmpty false 1 (zv64 l)), (4, .cell [.int .i64 0, .int .i64 0, .int .i64 0, .int .u8 0])]) (fun i => σ ++ [.box (awC (actsA l a i) l.isEmpty l), .map (mapD σ.length)]) (fun i => l.length - i) 0 (Nat.zero_le _) ?_ ?_ ?_
  · simp only [go_sem]
    rfl
  · rfl
  intro i hi
  have hb := actsA_bound (l := l) h i hi
  rcases Nat.lt_or_ge i l.length with hlt | hlt
  · have hw : IntKind.i64.wrap ((i : Int) + 1) = ((i + 1 : Nat) : Int) := wrap_ok (by omega) (by omega)
    have hsc := actsA_succ a hlt
    have hat : (σ ++ [VO.box (awC (actsA l a i) l.isEmpty l), VO.map (mapD σ.length)])[σ.length]? = some (.box (awC (actsA l a i) l.isEmpty l)) := by simp
    simp only [go_sem, hlt, zv_length, zv_getD hlt]
    by_cases e5 : l[i] = 5
    · have hac : actA l (actsA l a i) l[i] = { actsA l a i with cnt := if (10 : Int) ∈ l then 2 else 5 } := by unfold actA; rw [if_pos e5]
      simp only [go_sem, e5, mapD, vget, List.find?_cons, keq, List.append_assoc]
      refine vgo_call' rfl rfl rfl (c_begin (actsA l a i) l.isEmpty l (by unfold lim; omega) _ σ.length hat) ?_
      rintro r σ' ⟨rfl, rfl⟩
      refine ⟨rfl, ?_⟩
      simp only [go_sem]
      refine l_next (i + 1) hlt (by omega) ?_ ?_
      · simp only [go_sem, hw]
      · rw [hsc, hac]
    by_cases e6 : l[i] = 6
    · have hac : actA l (actsA l a i) l[i] = { actsA l a i with cnt := 0, left := 3 } := by unfold actA; rw [if_neg e5, if_pos e6]
      simp only [go_sem, e6, mapD, vget, List.find?_cons, keq, List.append_assoc]
      refine vgo_call' rfl rfl rfl (c_nought (actsA l a i) l.isEmpty l _ σ.length hat) ?_
      rintro r σ' ⟨rfl, rfl⟩
      refine ⟨rfl, ?_⟩
      simp only [go_sem]
      refine l_next (i + 1) hlt (by omega) ?_ ?_
      · simp only [go_sem, hw]
      · rw [hsc, hac]
    by_cases e7 : l[i] = 7
    · have hac : actA l (actsA l a i) l[i] = { actsA l a i with cnt := max ((actsA l a i).cnt - 1) 0, left := 3, id := (actsA l a i).id + 1 } := by unfold actA; rw [if_neg e5, if_neg e6, if_pos (.inl e7)]
      simp only [go_sem, e7, mapD, vget, List.find?_cons, keq, List.append_assoc]
      refine vgo_call' rfl rfl rfl (c_send (actsA l a i) hb.1 hb.2 l.isEmpty l _ σ.length hat) ?_
      rintro r σ' ⟨rfl, rfl⟩
      refine ⟨rfl, ?_⟩
      simp only [go_sem]
      refine l_next (i + 1) hlt (by omega) ?_ ?_
      · simp only [go_sem, hw]
      · rw [hsc, hac]
    by_cases e10 : l[i] = 10
    · have hac : actA l (actsA l a i) l[i] = { actsA l a i with cnt := max ((actsA l a i).cnt - 1) 0, left := 3, id := (actsA l a i).id + 1 } := by unfold actA; rw [if_neg e5, if_neg e6, if_pos (.inr e10)]
      simp only [go_sem, e10, mapD, vget, List.find?_cons, keq, List.append_assoc]
      refine vgo_call' rfl rfl rfl (c_send (actsA l a i) hb.1 hb.2 l.isEmpty l _ σ.length hat) ?_
      rintro r σ' ⟨rfl, rfl⟩
      refine ⟨rfl, ?_⟩
      simp only [go_sem]
      refine l_next (i + 1) hlt (by omega) ?_ ?_
      · simp only [go_sem, hw]
      · rw [hsc, hac]
    have hac : actA l (actsA l a i) l[i] = actsA l a i := by unfold actA; rw [if_neg e5, if_neg e6, if_neg (by omega)]
    have b5 : (l[i] == 5) = false := by simp [e5]
    have b6 : (l[i] == 6) = false := by simp [e6]
    have b7 : (l[i] == 7) = false := by simp [e7]
    have b10 : (l[i] == 10) = false := by simp [e10]
    simp only [go_sem, mapD, vget, List.find?_cons, List.find?_nil, keq, List.append_assoc, b5, b6, b7, b10]
    refine l_next (i + 1) hlt (by omega) ?_ ?_
    · simp only [go_sem, hw]
    · rw [hsc, hac]
  · have hh : ¬ (i < l.length) := by omega
    have hT : actsA l a i = l.foldl (actA l) a := by unfold actsA; rw [List.take_of_length_le hlt]
    simp only [go_sem, hh]
    refine l_exit ?_
    rw [hT]
    simp only [go_sem, awC, List.append_assoc]
    refine vgo_call rfl rfl rfl rfl (c_timed nx _) ?_
    cases ht : timedB nx
    · simp only [go_sem, awC, List.append_assoc, cond_false]
      exact .refl _
    · simp only [go_sem, awC, List.append_assoc, cond_true]
      exact .refl _

end Go.VL

/- Protocols that negotiate, as values; contracts of this program's functions: what is told, what is acted. Conditions: none. -/
namespace Go.VL
open Go.Proofs

/-- A packet: sz is 1, but where it is nil. -/
structure PkV where
  code : UInt8
  id : UInt8
  nl : Bool
  c : Bool
  sz : Nat
  d : List UInt8
def pkC (p : PkV) : List V := [.int .u8 p.code.toNat, .int .u8 p.id.toNat, .sl p.nl p.c p.sz (bv p.d)]
def pkv (p : PkV) : V := .agg (pkC p)
def pkvs (l : List PkV) : List V := l.map pkv
theorem pkvs_length (l : List PkV) : (pkvs l).length = l.length := by simp [pkvs]
theorem pkvs_getD {l : List PkV} {i : Nat} (h : i < l.length) : (pkvs l).getD i .undef = pkv l[i] := by simp [pkvs, h]
/-- A protocol: ps is 2, but where the peer's row is nil. -/
structure NgV where
  a : AuV
  r : RV
  ours : List OV
  on : Bool
  oc : Bool
  naks : Int
  peer : List OV
  pn : Bool
  pc : Bool
  ps : Nat
def ngC (n : NgV) : List V := [.int .i64 n.a.st, .int .i64 n.a.cnt, .int .i64 n.a.left, .int .u8 n.a.id.toNat, .bool n.r.ip, .int .u32 n.r.magic.toNat, .int .u32 n.r.other.toNat, .int .u32 n.r.addr.toNat, .int .u32 n.r.ours.toNat, .sl n.on n.oc 2 (osv n.ours), .int .i64 n.naks, .sl n.pn n.pc n.ps (osv n.peer)]
def ngv (n : NgV) : V := .agg (ngC n)
/-- A protocol at work. -/
def nwC (n : NgV) (o t : V) (p : PkV) : List V := [.int .i64 n.a.st, .int .i64 n.a.cnt, .int .i64 n.a.left, .int .u8 n.a.id.toNat, .bool n.r.ip, .int .u32 n.r.magic.toNat, .int .u32 n.r.other.toNat, .int .u32 n.r.addr.toNat, .int .u32 n.r.ours.toNat, .sl n.on n.oc 2 (osv n.ours), .int .i64 n.naks, .sl n.pn n.pc n.ps (osv n.peer), o, t, .int .u8 p.code.toNat, .int .u8 p.id.toNat, .sl p.nl p.c p.sz (bv p.d)]
def nilV : V := .sl true false 0 []
def outV (l : List PkV) : V := .sl l.isEmpty false 3 (pkvs l)
def telV (l : List Int) : V := .sl l.isEmpty false 1 (zv64 l)

/-- What is asked for can be told as bytes. -/
def encOK (l : List OV) : Bool := l.all (fun o => decide (o.d.length ≤ 253)) && decide ((encL l).length ≤ 1496)
theorem bytes_enc {l : List OV} (h : encOK l = true) : bytesV' l = .tup [.sl l.isEmpty false 1 (bv (encL l)), .int .i64 0] := by
  unfold bytesV' encOK at *
  rw [h]
  rfl
def resetB (was : Int) (l : List Int) : Bool := decide (was ≤ 3) && (decide ((5 : Int) ∈ l) && decide ((7 : Int) ∈ l))
def resetN (n : NgV) : NgV := { n with ours := rAsk n.r, on := false, oc := true, naks := 0, peer := [], pn := true, pc := false, ps := 0 }
def actN (n : NgV) (was : Int) (l : List Int) : NgV := bif resetB was l then resetN n else n
def reqP (n : NgV) : PkV := ⟨1, n.a.id, n.ours.isEmpty, false, 1, encL n.ours⟩
def outOf (n : NgV) (pid : UInt8) (reply : PkV) (x : Int) : List PkV :=
  if x = 7 then [reqP n] else if x = 10 then [⟨5, n.a.id, true, false, 0, []⟩] else if x = 11 then [⟨6, pid, true, false, 0, []⟩] else if x = 8 ∨ x = 9 ∨ x = 12 ∨ x = 13 then [reply] else []
def outsOf (n : NgV) (pid : UInt8) (reply : PkV) (l : List Int) : List PkV := l.flatMap (outOf n pid reply)
def toldOf (l : List Int) : List Int := l.filter fun x => x == 1 || x == 2 || x == 3 || x == 4

theorem c_told (n : NgV) (o t : V) (p : PkV) (ho : ∃ nl c sz es, o = .sl nl c sz es) (ht : ∃ nl c sz es, t = .sl nl c sz es) (σ : St) (id : Nat) (hσ : σ[id]? = some (.box (nwC n o t p))) : VCalls Tryz.prog 75 [.ptr id 0] σ fun r σ' => r = .tup [ngv n, o, t] ∧ σ' = σ := by
  refine vcalls_intro (C := cfg Tryz.prog [] [] []) (cfg_ok mixed) Tryz.func75 rfl rfl rfl rfl rfl ?_
  obtain ⟨o1, o2, o3, o4, rfl⟩ := ho
  obtain ⟨t1, t2, t3, t4, rfl⟩ := ht
  simp only [nwC] at hσ
  simp only [go_sem]
  refine w_walk2 [12, 13, 14] [0, 1, 2, 3, 4, 5, 6, 7, 8, 9, 10, 11, 12, 13, 14] [5, 6, 7, 8, 9, 10, 11, 12, 13, 14, 15, 16] [0, 1, 3, 7, 0, 16, 48, 112, 0, 256, 768, 1792, 15, 4351, 16383] rfl rfl rfl rfl ?_
  simp only [go_sem, hσ]
  rfl

theorem vfin_set {σ : St} {id : Nat} {B : List V} {l : St} {K : V → St → Prop} (hid : id < σ.length) (hB : refO σ.length (.box B) = true) (h : K (.tup []) (σ.set id (.box B))) : vfin σ (.tup []) (σ.set id (.box B) ++ l) K := by
  refine ⟨rfl, fun i o hi ho => ?_, ?_⟩
  · rw [List.getElem?_append_left (by simpa using hi)] at ho
    by_cases e : id = i
    · subst e
      rw [List.getElem?_set, if_pos rfl, if_pos hid] at ho
      cases ho
      exact .inr hB
    · rw [List.getElem?_set, if_neg e] at ho
      exact .inl ho
  · have hlen : (σ.set id (VO.box B)).length = σ.length := by simp
    have : (σ.set id (VO.box B) ++ l).take σ.length = σ.set id (.box B) := List.take_left' hlen
    rw [this]
    exact h
theorem nw_ref (n : NgV) (o t : V) (p : PkV) (N : Nat) (ho : ref1 N o = true) (ht : ref1 N t = true) : refO N (.box (nwC n o t p)) = true := by
  unfold refO nwC
  simp only [List.all_cons, ho, ht]
  rfl

/-- A state with a box and two rows behind. -/
def twoS (σ : St) (id : Nat) (B : List V) (x y : VO) : St := σ.set id (.box B) ++ [x, y]
theorem two_0 {σ : St} {id : Nat} (hid : id < σ.length) (B : List V) (x y : VO) : (twoS σ id B x y)[id]? = some (.box B) := by
  unfold twoS
  rw [List.getElem?_append_left (by simpa using hid)]
  simp [hid]
theorem two_1 {σ : St} {id : Nat} (_ : id < σ.length) (B : List V) (x y : VO) : (twoS σ id B x y)[σ.length]? = some x := by
  unfold twoS
  rw [List.getElem?_append_right (by simp)]
  simp
theorem two_2 {σ : St} {id : Nat} (_ : id < σ.length) (B : List V) (x y : VO) : (twoS σ id B x y)[σ.length + 1]? = some y := by
  unfold twoS
  rw [List.getElem?_append_right (by simp)]
  simp
theorem two_s0 {σ : St} {id : Nat} (hid : id < σ.length) (B C : List V) (x y : VO) : (twoS σ id B x y).set id (.box C) = twoS σ id C x y := by
  unfold twoS
  rw [List.set_append_left _ _ (by simpa using hid), List.set_set]
theorem two_s1 {σ : St} {id : Nat} (_ : id < σ.length) (B : List V) (x y z : VO) : (twoS σ id B x y).set σ.length z = twoS σ id B z y := by
  unfold twoS
  rw [List.set_append_right _ _ (by simp)]
  simp
theorem two_s2 {σ : St} {id : Nat} (_ : id < σ.length) (B : List V) (x y z : VO) : (twoS σ id B x y).set (σ.length + 1) z = twoS σ id B x z := by
  unfold twoS
  rw [List.set_append_right _ _ (by simp)]
  simp

theorem toldOf_take {l : List Int} {i : Nat} (h : i < l.length) : toldOf (l.take (i + 1)) = toldOf (l.take i) ++ (bif l[i] == 1 || l[i] == 2 || l[i] == 3 || l[i] == 4 then [l[i]] else []) := by
  unfold toldOf
  rw [List.take_succ_eq_append_getElem h, List.filter_append]
  cases e : l[i] == 1 || l[i] == 2 || l[i] == 3 || l[i] == 4 <;> simp [e]
theorem outsOf_take (n : NgV) (pid : UInt8) (reply : PkV) {l : List Int} {i : Nat} (h : i < l.length) : outsOf n pid reply (l.take (i + 1)) = outsOf n pid reply (l.take i) ++ outOf n pid reply l[i] := by
  unfold outsOf
  rw [List.take_succ_eq_append_getElem h, List.flatMap_append]
  simp
theorem outOf_len (n : NgV) (pid : UInt8) (reply : PkV) (x : Int) : (outOf n pid reply x).length ≤ 1 := by
  unfold outOf
  split
  · simp
  split
  · simp
  split
  · simp
  split <;> simp
theorem outsOf_len (n : NgV) (pid : UInt8) (reply : PkV) (l : List Int) : ∀ i, i ≤ l.length → (outsOf n pid reply (l.take i)).length ≤ i
  | 0, _ => by simp [outsOf]
  | i + 1, h => by
    rw [outsOf_take n pid reply h, List.length_append]
    have := outsOf_len n pid reply l i (by omega)
    have := outOf_len n pid reply l[i]
    omega
theorem toldOf_len (l : List Int) (i : Nat) : (toldOf (l.take i)).length ≤ i := Nat.le_trans (List.length_filter_le _ _) (by simp; omega)

def rowO' (L : List PkV) : VO := .arr (decide (L.length = 0)) L.length 3 (pkvs L)
def rowT' (L : List Int) : VO := .arr (decide (L.length = 0)) L.length 1 (zv64 L)
def loopS (σ : St) (id : Nat) (n : NgV) (p : PkV) (o : List PkV) (t : List Int) : St :=
  twoS σ id (nwC n (.rsl σ.length o.length 0 o.length) (.rsl (σ.length + 1) t.length 0 t.length) p) (rowO' o) (rowT' t)

theorem enc_len {l : List OV} (h : encOK l = true) : l.length ≤ 8388608 := by
  unfold encOK at h
  simp only [Bool.and_eq_true, decide_eq_true_eq] at h
  have : l.length ≤ (encL l).length := by
    clear h
    induction l with
    | nil => simp
    | cons o l ih =>
      have : encL (o :: l) = encO o ++ encL l := rfl
      rw [this]
      simp [encO]
      omega
  omega
theorem enc_data {l : List OV} (h : encOK l = true) : ∀ o ∈ l, o.d.length ≤ lim := fun o ho => by
  unfold encOK at h
  simp only [Bool.and_eq_true, List.all_eq_true, decide_eq_true_eq] at h
  have := h.1 o ho
  unfold lim
  omega
theorem c_bytesE (nl c : Bool) {l : List OV} (h : encOK l = true) (σ : St) : VCalls Tryz.prog 129 [.sl nl c 2 (osv l)] σ fun r σ' => r = .tup [.sl l.isEmpty false 1 (bv (encL l)), .int .i64 0] ∧ σ' = σ := by
  have := c_bytes nl c l (enc_len h) (enc_data h) σ
  rwa [bytes_enc h] at this
theorem rowO_snoc (os : List PkV) (q : PkV) : rowO' (os ++ [q]) = .arr false (os.length + 1) 3 (pkvs os ++ [.agg [.int .u8 q.code.toNat, .int .u8 q.id.toNat, .sl q.nl q.c q.sz (bv q.d)]]) := by
  unfold rowO' pkvs
  simp [pkv, pkC]
theorem rowT_snoc (ts : List Int) (x : Int) : rowT' (ts ++ [x]) = .arr false (ts.length + 1) 1 (zv64 ts ++ [.int .i64 x]) := by
  unfold rowT' zv64
  simp
theorem rowO_e (os : List PkV) (q : PkV) : VO.arr (decide ((os ++ [q]).length = 0)) (os ++ [q]).length 3 (pkvs (os ++ [q])) = .arr false (os.length + 1) 3 (pkvs os ++ [.agg [.int .u8 q.code.toNat, .int .u8 q.id.toNat, .sl q.nl q.c q.sz (bv q.d)]]) := rowO_snoc os q
theorem rowT_e (ts : List Int) (x : Int) : VO.arr (decide ((ts ++ [x]).length = 0)) (ts ++ [x]).length 1 (zv64 (ts ++ [x])) = .arr false (ts.length + 1) 1 (zv64 ts ++ [.int .i64 x]) := rowT_snoc ts x
theorem rowO_un (os : List PkV) : rowO' os = .arr (decide (os.length = 0)) os.length 3 (pkvs os) := rfl
theorem rowT_un (ts : List Int) : rowT' ts = .arr (decide (ts.length = 0)) ts.length 1 (zv64 ts) := rfl

set_option maxHeartbeats 4000000 in
set_option maxRecDepth 20000 in
theorem c_acts (n : NgV) (p reply : PkV) (was : Int) (nl : Bool) (l : List Int) (hl : l.length ≤ 20) (hE : encOK (actN n was l).ours = true) (σ : St) (id : Nat) (hσ : σ[id]? = some (.box (nwC n nilV nilV p))) :
    VCalls Tryz.prog 77 [.ptr id 0, .int .i64 was, .sl nl false 1 (zv64 l), pkv reply] σ fun r σ' => r = .tup [] ∧ σ' = σ.set id (.box (nwC (actN n was l) (outV (outsOf (actN n was l) p.id reply l)) (telV (toldOf l)) p)) := by
  refine vcalls_intro (C := cfg Tryz.prog [] [] []) (cfg_ok mixed) Tryz.func77 rfl rfl rfl rfl rfl ?_
  have hid : id < σ.length := lt_of_some hσ
  have hll : l.length ≤ lim := by unfold lim; omega
  simp -implicitDefEqProofs only [go_sem, pkv, pkC]
  have hq0 : actN n was l = actN n was l := rfl
  generalize hq : actN n was l = n1 at hE ⊢
  clear hq0
  have adopt : ∀ (n1 : NgV) (σ1 : St), σ1 = σ.set id (.box (nwC n1 nilV nilV p)) → ∀ {fr : Fr} {Q : Exit → Fr → St → Prop} {c : Code}, vwp (cfg Tryz.prog [] [] []) σ (.loop c) fr (loopS σ id n1 p [] []) Q → vwp (cfg Tryz.prog [] [] []) σ (.loop c) fr σ1 Q := by
    rintro n1 σ1 rfl fr Q c h
    have hl1 : (σ.set id (.box (nwC n1 nilV nilV p))).length = σ.length := by simp
    refine loop_adoptO id 12 3 σ.length (cs := nwC n1 nilV nilV p) (by simp [hid]) rfl hl1 ?_
    refine loop_adoptO id 13 1 (σ.length + 1) (cs := nwC n1 (.rsl σ.length 0 0 0) nilV p) ?_ rfl (by simp) ?_
    · rw [List.getElem?_set, if_pos rfl, if_pos (by simp; omega)]
      rfl
    · have hid' : ∀ (B : List V) (y : VO), id < (σ.set id (VO.box B) ++ [y]).length := fun B y => by simp; omega
      have e : ((((σ.set id (VO.box (nwC n1 nilV nilV p)) ++ [VO.arr true 0 3 []]).set id (VO.box ((nwC n1 nilV nilV p).set 12 (.rsl σ.length 0 0 0)))) ++ [VO.arr true 0 1 []]).set id (VO.box ((nwC n1 (.rsl σ.length 0 0 0) nilV p).set 13 (.rsl (σ.length + 1) 0 0 0)))) = loopS σ id n1 p [] [] := by
        unfold loopS twoS
        rw [List.set_append_left (s := σ.set id (VO.box (nwC n1 nilV nilV p))) _ _ (by simpa using hid), List.set_set, List.append_assoc, List.set_append_left (s := σ.set id _) _ _ (by simpa using hid), List.set_set]
        rfl
      rw [e]
      exact h
  have hsame : σ = σ.set id (.box (nwC n nilV nilV p)) := set_same hσ
  have cs : decide (was ≤ 3) = false ∨ (decide (was ≤ 3) = true ∧ decide ((5 : Int) ∈ l) = false) ∨ (decide (was ≤ 3) = true ∧ decide ((5 : Int) ∈ l) = true ∧ decide ((7 : Int) ∈ l) = false) ∨ (decide (was ≤ 3) = true ∧ decide ((5 : Int) ∈ l) = true ∧ decide ((7 : Int) ∈ l) = true) := by
    cases decide (was ≤ 3) <;> cases decide ((5 : Int) ∈ l) <;> cases decide ((7 : Int) ∈ l) <;> simp
  have hn : n1 = bif decide (was ≤ 3) && (decide ((5 : Int) ∈ l) && decide ((7 : Int) ∈ l)) then resetN n else n := hq.symm
  clear hq
  have hrk := c_ask n.r σ
  unfold rv rvC at hrk
  have hg : σ[id]? = some (.box [.int .i64 n.a.st, .int .i64 n.a.cnt, .int .i64 n.a.left, .int .u8 n.a.id.toNat, .bool n.r.ip, .int .u32 n.r.magic.toNat, .int .u32 n.r.other.toNat, .int .u32 n.r.addr.toNat, .int .u32 n.r.ours.toNat, .sl n.on n.oc 2 (osv n.ours), .int .i64 n.naks, .sl n.pn n.pc n.ps (osv n.peer), nilV, nilV, .int .u8 p.code.toNat, .int .u8 p.id.toNat, .sl p.nl p.c p.sz (bv p.d)]) := hσ
  have hgs : ∀ x : VO, (σ.set id x)[id]? = some x := fun x => by simp [hid]
  rcases cs with c1 | c1 | c1 | c1
  all_goals first
    | (obtain ⟨c1, c2, c3⟩ := c1
       rw [c1, c2, c3] at hn
       simp only [Bool.and_self, cond_true] at hn
       simp -implicitDefEqProofs only [go_sem, c1]
       refine vgo_call rfl rfl rfl rfl (c_contains nl false l 5 hll σ) ?_
       simp -implicitDefEqProofs only [go_sem, c2]
       refine vgo_call rfl rfl rfl rfl (c_contains nl false l 7 hll σ) ?_
       simp -implicitDefEqProofs only [go_sem, c3, hg]
       refine vgo_call rfl rfl rfl rfl hrk ?_
       simp -implicitDefEqProofs only [go_sem, hg, hgs, List.set_set]
       refine adopt n1 _ (by rw [hn]; rfl) ?_)
    | (obtain ⟨c1, c2, c3⟩ := c1
       rw [c1, c2, c3] at hn
       have hn : n1 = n := hn
       subst hn
       simp -implicitDefEqProofs only [go_sem, c1]
       refine vgo_call rfl rfl rfl rfl (c_contains nl false l 5 hll σ) ?_
       simp -implicitDefEqProofs only [go_sem, c2]
       refine vgo_call rfl rfl rfl rfl (c_contains nl false l 7 hll σ) ?_
       simp -implicitDefEqProofs only [go_sem, c3]
       refine adopt n1 _ hsame ?_)
    | (obtain ⟨c1, c2⟩ := c1
       rw [c1, c2] at hn
       have hn : n1 = n := by simpa using hn
       subst hn
       simp -implicitDefEqProofs only [go_sem, c1]
       refine vgo_call rfl rfl rfl rfl (c_contains nl false l 5 hll σ) ?_
       simp -implicitDefEqProofs only [go_sem, c2]
       refine adopt n1 _ hsame ?_)
    | (rw [c1] at hn
       have hn : n1 = n := by simpa using hn
       subst hn
       simp -implicitDefEqProofs only [go_sem, c1]
       refine adopt n1 _ hsame ?_)
  all_goals
    refine w_loop (fun i => i ≤ l.length) (fun i => [(42, .int .i64 i), (41, .int .i64 l.length), (40, .sl nl false 1 (zv64 l)), (7, .ip (pkC reply)), (0, .ptr id 0)]) (fun i => loopS σ id n1 p (outsOf n1 p.id reply (l.take i)) (toldOf (l.take i))) (fun i => l.length - i) 0 (Nat.zero_le _) ?_ rfl ?_
    · simp -implicitDefEqProofs only [go_sem, zv_length, pkC]
      rfl
    intro i hi
    have hol := outsOf_len n1 p.id reply l i hi
    have htl := toldOf_len l i
    rcases Nat.lt_or_ge i l.length with h | h
    · have hw : IntKind.i64.wrap ((i : Int) + 1) = ((i + 1 : Nat) : Int) := wrap_ok (by omega) (by omega)
      have hot := outsOf_take n1 p.id reply h
      have htt := toldOf_take h
      generalize outsOf n1 p.id reply (l.take i) = os at hol hot
      generalize toldOf (l.take i) = ts at htl htt
      have hpl : (pkvs os).length = os.length := pkvs_length os
      have hzl : (zv64 ts).length = ts.length := zv_length ts
      simp -implicitDefEqProofs only [go_sem, h, zv_length, zv_getD h, loopS, nwC, rowO_un, rowT_un]
      by_cases e7 : l[i] = 7
      · have ho : outOf n1 p.id reply l[i] = [reqP n1] := by unfold outOf; rw [if_pos e7]
        have htn : (l[i] == 1 || l[i] == 2 || l[i] == 3 || l[i] == 4) = false := by rw [e7]; rfl
        rw [ho] at hot
        rw [htn, cond_false, List.append_nil] at htt
        simp -implicitDefEqProofs only [go_sem, e7, two_0 hid]
        refine vgo_call rfl rfl rfl rfl (c_bytesE n1.on n1.oc hE _) ?_
        simp -implicitDefEqProofs only [go_sem]
        refine w_walk2 [14, 17] [0, 1, 2, 3, 4, 5, 6, 7, 8, 9, 10, 11, 12, 13, 14, 15, 16, 17] [58, 59, 60, 61, 62, 63, 64, 65, 66, 67, 68, 69, 70, 71, 73, 74] [0, 0, 2, 6, 14, 0, 32, 96, 224, 480, 992, 0, 4064, 8160, 16382, 32767, 65535, 131071] rfl rfl rfl rfl ?_
        simp (maxSteps := 1000000) -implicitDefEqProofs only [go_sem, two_0 hid, two_1 hid, two_2 hid, two_s0 hid, two_s1 hid, two_s2 hid, hpl, hzl, Nat.zero_add, Nat.sub_zero, pkC]
        refine ⟨by unfold lim; omega, l_next (i + 1) h (by omega) ?_ ?_⟩
        · simp -implicitDefEqProofs only [go_sem, hw, pkC]
        · rw [hot, htt, rowO_e]
          simp only [List.length_append, List.length_cons, List.length_nil, Nat.zero_add]
          rfl
      by_cases e10 : l[i] = 10
      · have ho : outOf n1 p.id reply l[i] = [⟨5, n1.a.id, true, false, 0, []⟩] := by unfold outOf; rw [if_neg e7, if_pos e10]
        have htn : (l[i] == 1 || l[i] == 2 || l[i] == 3 || l[i] == 4) = false := by rw [e10]; rfl
        rw [ho] at hot
        rw [htn, cond_false, List.append_nil] at htt
        simp -implicitDefEqProofs only [go_sem, e10]
        refine w_walk2 [13, 16] [0, 1, 2, 3, 4, 5, 6, 7, 8, 9, 10, 11, 12, 13, 14, 15, 16] [77, 78, 79, 80, 81, 82, 83, 84, 85, 86, 87, 88, 89, 91, 92] [0, 0, 2, 6, 14, 0, 32, 96, 224, 480, 992, 2016, 4064, 8190, 16383, 32767, 65535] rfl rfl rfl rfl ?_
        simp (maxSteps := 1000000) -implicitDefEqProofs only [go_sem, two_0 hid, two_1 hid, two_2 hid, two_s0 hid, two_s1 hid, two_s2 hid, hpl, hzl, Nat.zero_add, Nat.sub_zero, pkC]
        refine ⟨by unfold lim; omega, l_next (i + 1) h (by omega) ?_ ?_⟩
        · simp -implicitDefEqProofs only [go_sem, hw, pkC]
        · rw [hot, htt, rowO_e]
          simp only [List.length_append, List.length_cons, List.length_nil, Nat.zero_add]
          rfl
      by_cases e11 : l[i] = 11
      · have ho : outOf n1 p.id reply l[i] = [⟨6, p.id, true, false, 0, []⟩] := by unfold outOf; rw [if_neg e7, if_neg e10, if_pos e11]
        have htn : (l[i] == 1 || l[i] == 2 || l[i] == 3 || l[i] == 4) = false := by rw [e11]; rfl
        rw [ho] at hot
        rw [htn, cond_false, List.append_nil] at htt
        simp -implicitDefEqProofs only [go_sem, e11]
        refine w_walk2 [12, 15] [0, 1, 2, 3, 4, 5, 6, 7, 8, 9, 10, 11, 12, 13, 14, 15] [95, 96, 97, 98, 99, 100, 101, 102, 103, 104, 105, 106, 108, 109] [0, 0, 2, 6, 14, 0, 32, 96, 224, 480, 992, 2016, 4094, 8191, 16383, 32767] rfl rfl rfl rfl ?_
        simp (maxSteps := 1000000) -implicitDefEqProofs only [go_sem, two_0 hid, two_1 hid, two_2 hid, two_s0 hid, two_s1 hid, two_s2 hid, hpl, hzl, Nat.zero_add, Nat.sub_zero, pkC]
        refine ⟨by unfold lim; omega, l_next (i + 1) h (by omega) ?_ ?_⟩
        · simp -implicitDefEqProofs only [go_sem, hw, pkC]
        · rw [hot, htt, rowO_e]
          simp only [List.length_append, List.length_cons, List.length_nil, Nat.zero_add]
          rfl
      by_cases e8 : l[i] = 8
      · have ho : outOf n1 p.id reply l[i] = [reply] := by unfold outOf; rw [if_neg e7, if_neg e10, if_neg e11, if_pos (.inl e8)]
        have htn : (l[i] == 1 || l[i] == 2 || l[i] == 3 || l[i] == 4) = false := by rw [e8]; rfl
        rw [ho] at hot
        rw [htn, cond_false, List.append_nil] at htt
        simp -implicitDefEqProofs only [go_sem, e8]
        refine w_walk2 [7, 10] [0, 1, 2, 3, 4, 5, 6, 7, 8, 9, 10] [115, 116, 117, 118, 119, 120, 121, 123, 124] [0, 0, 2, 6, 14, 0, 32, 126, 255, 511, 1023] rfl rfl rfl rfl ?_
        simp (maxSteps := 1000000) -implicitDefEqProofs only [go_sem, two_0 hid, two_1 hid, two_2 hid, two_s0 hid, two_s1 hid, two_s2 hid, hpl, hzl, Nat.zero_add, Nat.sub_zero, pkC]
        refine ⟨by unfold lim; omega, l_next (i + 1) h (by omega) ?_ ?_⟩
        · simp -implicitDefEqProofs only [go_sem, hw, pkC]
        · rw [hot, htt, rowO_e]
          simp only [List.length_append, List.length_cons, List.length_nil, Nat.zero_add]
      by_cases e9 : l[i] = 9
      · have ho : outOf n1 p.id reply l[i] = [reply] := by unfold outOf; rw [if_neg e7, if_neg e10, if_neg e11, if_pos (.inr (.inl e9))]
        have htn : (l[i] == 1 || l[i] == 2 || l[i] == 3 || l[i] == 4) = false := by rw [e9]; rfl
        rw [ho] at hot
        rw [htn, cond_false, List.append_nil] at htt
        simp -implicitDefEqProofs only [go_sem, e9]
        refine w_walk2 [7, 10] [0, 1, 2, 3, 4, 5, 6, 7, 8, 9, 10] [115, 116, 117, 118, 119, 120, 121, 123, 124] [0, 0, 2, 6, 14, 0, 32, 126, 255, 511, 1023] rfl rfl rfl rfl ?_
        simp (maxSteps := 1000000) -implicitDefEqProofs only [go_sem, two_0 hid, two_1 hid, two_2 hid, two_s0 hid, two_s1 hid, two_s2 hid, hpl, hzl, Nat.zero_add, Nat.sub_zero, pkC]
        refine ⟨by unfold lim; omega, l_next (i + 1) h (by omega) ?_ ?_⟩
        · simp -implicitDefEqProofs only [go_sem, hw, pkC]
        · rw [hot, htt, rowO_e]
          simp only [List.length_append, List.length_cons, List.length_nil, Nat.zero_add]
      by_cases e12 : l[i] = 12
      · have ho : outOf n1 p.id reply l[i] = [reply] := by unfold outOf; rw [if_neg e7, if_neg e10, if_neg e11, if_pos (.inr (.inr (.inl e12)))]
        have htn : (l[i] == 1 || l[i] == 2 || l[i] == 3 || l[i] == 4) = false := by rw [e12]; rfl
        rw [ho] at hot
        rw [htn, cond_false, List.append_nil] at htt
        simp -implicitDefEqProofs only [go_sem, e12]
        refine w_walk2 [7, 10] [0, 1, 2, 3, 4, 5, 6, 7, 8, 9, 10] [115, 116, 117, 118, 119, 120, 121, 123, 124] [0, 0, 2, 6, 14, 0, 32, 126, 255, 511, 1023] rfl rfl rfl rfl ?_
        simp (maxSteps := 1000000) -implicitDefEqProofs only [go_sem, two_0 hid, two_1 hid, two_2 hid, two_s0 hid, two_s1 hid, two_s2 hid, hpl, hzl, Nat.zero_add, Nat.sub_zero, pkC]
        refine ⟨by unfold lim; omega, l_next (i + 1) h (by omega) ?_ ?_⟩
        · simp -implicitDefEqProofs only [go_sem, hw, pkC]
        · rw [hot, htt, rowO_e]
          simp only [List.length_append, List.length_cons, List.length_nil, Nat.zero_add]
      by_cases e13 : l[i] = 13
      · have ho : outOf n1 p.id reply l[i] = [reply] := by unfold outOf; rw [if_neg e7, if_neg e10, if_neg e11, if_pos (.inr (.inr (.inr e13)))]
        have htn : (l[i] == 1 || l[i] == 2 || l[i] == 3 || l[i] == 4) = false := by rw [e13]; rfl
        rw [ho] at hot
        rw [htn, cond_false, List.append_nil] at htt
        simp -implicitDefEqProofs only [go_sem, e13]
        refine w_walk2 [7, 10] [0, 1, 2, 3, 4, 5, 6, 7, 8, 9, 10] [115, 116, 117, 118, 119, 120, 121, 123, 124] [0, 0, 2, 6, 14, 0, 32, 126, 255, 511, 1023] rfl rfl rfl rfl ?_
        simp (maxSteps := 1000000) -implicitDefEqProofs only [go_sem, two_0 hid, two_1 hid, two_2 hid, two_s0 hid, two_s1 hid, two_s2 hid, hpl, hzl, Nat.zero_add, Nat.sub_zero, pkC]
        refine ⟨by unfold lim; omega, l_next (i + 1) h (by omega) ?_ ?_⟩
        · simp -implicitDefEqProofs only [go_sem, hw, pkC]
        · rw [hot, htt, rowO_e]
          simp only [List.length_append, List.length_cons, List.length_nil, Nat.zero_add]
      have ho : outOf n1 p.id reply l[i] = [] := by unfold outOf; rw [if_neg e7, if_neg e10, if_neg e11, if_neg (by omega)]
      rw [ho, List.append_nil] at hot
      have b7 : (l[i] == 7) = false := by simp [e7]
      have b10 : (l[i] == 10) = false := by simp [e10]
      have b11 : (l[i] == 11) = false := by simp [e11]
      have b8 : (l[i] == 8) = false := by simp [e8]
      have b9 : (l[i] == 9) = false := by simp [e9]
      have b12 : (l[i] == 12) = false := by simp [e12]
      have b13 : (l[i] == 13) = false := by simp [e13]
      cases t1 : l[i] == 1
      · cases t2 : l[i] == 2
        · cases t3 : l[i] == 3
          · cases t4 : l[i] == 4
            · rw [t1, t2, t3, t4] at htt
              simp only [Bool.or_false, cond_false, List.append_nil] at htt
              simp -implicitDefEqProofs only [go_sem, b7, b10, b11, b8, b9, b12, b13, t1, t2, t3, t4]
              refine l_next (i + 1) h (by omega) ?_ ?_
              · simp -implicitDefEqProofs only [go_sem, hw, pkC]
              · simp only [hot, htt]
            · rw [t1, t2, t3, t4] at htt
              simp only [Bool.or_false, Bool.or_true, Bool.or_self, cond_true] at htt
              simp (maxSteps := 1000000) -implicitDefEqProofs only [go_sem, b7, b10, b11, b8, b9, b12, b13, t1, t2, t3, t4, two_0 hid, two_1 hid, two_2 hid, two_s0 hid, two_s1 hid, two_s2 hid, hpl, hzl, Nat.zero_add, Nat.sub_zero]
              refine ⟨by unfold lim; omega, l_next (i + 1) h (by omega) ?_ ?_⟩
              · simp -implicitDefEqProofs only [go_sem, hw, pkC]
              · rw [hot, htt, rowT_e]
                simp only [List.length_append, List.length_cons, List.length_nil, Nat.zero_add]
          · rw [t1, t2, t3] at htt
            simp only [Bool.or_false, Bool.or_true, Bool.true_or, Bool.or_self, cond_true] at htt
            simp (maxSteps := 1000000) -implicitDefEqProofs only [go_sem, b7, b10, b11, b8, b9, b12, b13, t1, t2, t3, two_0 hid, two_1 hid, two_2 hid, two_s0 hid, two_s1 hid, two_s2 hid, hpl, hzl, Nat.zero_add, Nat.sub_zero]
            refine ⟨by unfold lim; omega, l_next (i + 1) h (by omega) ?_ ?_⟩
            · simp -implicitDefEqProofs only [go_sem, hw, pkC]
            · rw [hot, htt, rowT_e]
              simp only [List.length_append, List.length_cons, List.length_nil, Nat.zero_add]
        · rw [t1, t2] at htt
          simp only [Bool.or_false, Bool.or_true, Bool.true_or, Bool.or_self, cond_true] at htt
          simp (maxSteps := 1000000) -implicitDefEqProofs only [go_sem, b7, b10, b11, b8, b9, b12, b13, t1, t2, two_0 hid, two_1 hid, two_2 hid, two_s0 hid, two_s1 hid, two_s2 hid, hpl, hzl, Nat.zero_add, Nat.sub_zero]
          refine ⟨by unfold lim; omega, l_next (i + 1) h (by omega) ?_ ?_⟩
          · simp -implicitDefEqProofs only [go_sem, hw, pkC]
          · rw [hot, htt, rowT_e]
            simp only [List.length_append, List.length_cons, List.length_nil, Nat.zero_add]
      · rw [t1] at htt
        simp only [Bool.or_false, Bool.or_true, Bool.true_or, Bool.or_self, cond_true] at htt
        simp (maxSteps := 1000000) -implicitDefEqProofs only [go_sem, b7, b10, b11, b8, b9, b12, b13, t1, two_0 hid, two_1 hid, two_2 hid, two_s0 hid, two_s1 hid, two_s2 hid, hpl, hzl, Nat.zero_add, Nat.sub_zero]
        refine ⟨by unfold lim; omega, l_next (i + 1) h (by omega) ?_ ?_⟩
        · simp -implicitDefEqProofs only [go_sem, hw, pkC]
        · rw [hot, htt, rowT_e]
          simp only [List.length_append, List.length_cons, List.length_nil, Nat.zero_add]
    · have hh : ¬ (i < l.length) := by omega
      rw [List.take_of_length_le h] at hol htl
      simp -implicitDefEqProofs only [go_sem, hh, List.take_of_length_le h]
      generalize outsOf n1 p.id reply l = os at hol
      generalize toldOf l = ts at htl
      simp only [loopS]
      refine l_exit' (.trans _ _ _ _ _ _ (.freezeO _ _ id 12 σ.length os.length 0 os.length 3 (decide (os.length = 0)) (pkvs os) (nwC n1 (.rsl σ.length os.length 0 os.length) (.rsl (σ.length + 1) ts.length 0 ts.length) p) (two_0 hid _ _ _) rfl (two_1 hid _ _ _)) (.freezeO _ _ id 13 (σ.length + 1) ts.length 0 ts.length 1 (decide (ts.length = 0)) (zv64 ts) (nwC n1 (.sl (decide (os.length = 0)) false 3 (((pkvs os).take os.length).drop 0)) (.rsl (σ.length + 1) ts.length 0 ts.length) p) ?_ rfl ?_)) ?_
      · rw [two_s1 hid, two_s0 hid, two_0 hid]
        rfl
      · rw [two_s1 hid, two_s0 hid, two_2 hid]
        rfl
      · have e : ((((twoS σ id (nwC n1 (.rsl σ.length os.length 0 os.length) (.rsl (σ.length + 1) ts.length 0 ts.length) p) (rowO' os) (rowT' ts)).set σ.length VO.dead).set id (VO.box ((nwC n1 (.rsl σ.length os.length 0 os.length) (.rsl (σ.length + 1) ts.length 0 ts.length) p).set 12 (.sl (decide (os.length = 0)) false 3 (((pkvs os).take os.length).drop 0))))).set (σ.length + 1) VO.dead).set id (VO.box ((nwC n1 (.sl (decide (os.length = 0)) false 3 (((pkvs os).take os.length).drop 0)) (.rsl (σ.length + 1) ts.length 0 ts.length) p).set 13 (.sl (decide (ts.length = 0)) false 1 (((zv64 ts).take ts.length).drop 0)))) = twoS σ id (nwC n1 (outV os) (telV ts) p) .dead .dead := by
          rw [two_s1 hid, two_s0 hid, two_s2 hid, two_s0 hid]
          have e1 : ((pkvs os).take os.length).drop 0 = pkvs os := by rw [List.take_of_length_le (by simp [pkvs]), List.drop_zero]
          have e2 : ((zv64 ts).take ts.length).drop 0 = zv64 ts := by rw [List.take_of_length_le (by simp [zv64]), List.drop_zero]
          have e3 : decide (os.length = 0) = os.isEmpty := by cases os <;> rfl
          have e4 : decide (ts.length = 0) = ts.isEmpty := by cases ts <;> rfl
          rw [e1, e2, e3, e4]
          rfl
        rw [e]
        simp -implicitDefEqProofs only [go_sem]
        exact vfin_set hid (nw_ref _ _ _ _ _ rfl rfl) ⟨rfl, rfl⟩

end Go.VL

/- Contracts of this program's functions: what an event does, packets that are rejected. Conditions: none. -/
namespace Go.VL
open Go.Proofs

def withA (n : NgV) (a : AuV) : NgV := { n with a := a }
/-- Was an event done? -/
def doneB (n : NgV) (e : Int) : Bool := (nextP n.a.st e).2.2
def evN (n : NgV) (e : Int) : NgV := bif doneB n e then actN (withA n (doA n.a e).1) n.a.st (doA n.a e).2.1 else n
def evO (n : NgV) (e : Int) (pid : UInt8) (reply : PkV) : List PkV := bif doneB n e then outsOf (evN n e) pid reply (doA n.a e).2.1 else []
def evT (n : NgV) (e : Int) : List Int := bif doneB n e then toldOf (doA n.a e).2.1 else []
def evL (n : NgV) (e : Int) : List Int := bif doneB n e then (doA n.a e).2.1 else []
def evOV (n : NgV) (e : Int) (pid : UInt8) (reply : PkV) : V := bif doneB n e then outV (evO n e pid reply) else nilV
def evTV (n : NgV) (e : Int) : V := bif doneB n e then telV (evT n e) else nilV
def evLV (n : NgV) (e : Int) : V := bif doneB n e then .sl (evL n e).isEmpty false 1 (zv64 (evL n e)) else nilV
theorem do_done {n : NgV} {e : Int} (h : doneB n e = true) : (doA n.a e).2.2 = 0 ∧ (doA n.a e).2.1 = (nextP n.a.st e).1 := by
  unfold doneB at h
  unfold doA
  rw [h]
  exact ⟨rfl, rfl⟩
theorem do_not {n : NgV} {e : Int} (h : doneB n e = false) : doA n.a e = (n.a, [], 1) := by
  unfold doneB at h
  unfold doA
  rw [h]
  rfl

set_option maxHeartbeats 4000000 in
set_option maxRecDepth 20000 in
theorem c_event (n : NgV) (p reply : PkV) (e : Int) (h : 0 ≤ n.a.cnt ∧ n.a.cnt ≤ 5) (hE : encOK (evN n e).ours = true) (σ : St) (id : Nat) (hσ : σ[id]? = some (.box (nwC n nilV nilV p))) :
    VCalls Tryz.prog 74 [.ptr id 0, .int .i64 e, pkv reply] σ fun r σ' => r = evLV n e ∧ σ' = σ.set id (.box (nwC (evN n e) (evOV n e p.id reply) (evTV n e) p)) := by
  refine vcalls_keep (C := cfg Tryz.prog [] [] []) (cfg_ok mixed) Tryz.func74 rfl rfl rfl rfl rfl ?_
  have hid : id < σ.length := lt_of_some hσ
  have hado := c_ado n.a h e σ
  have hg := hσ
  simp only [nwC] at hg
  simp -implicitDefEqProofs only [go_sem, pkv, pkC, hg]
  refine vgo_call rfl rfl rfl rfl hado ?_
  cases hd : doneB n e
  · have hs := set_same hσ
    rw [do_not hd]
    unfold evLV evN evOV evTV
    rw [hd]
    simp -implicitDefEqProofs only [go_sem, bne, vendK, cond_false, nilV, auv, auC]
    exact hs
  · obtain ⟨d1, d2⟩ := do_done hd
    have hll : (doA n.a e).2.1.length ≤ 20 := by rw [d2]; have := next_len n.a.st e; omega
    have hN : evN n e = actN (withA n (doA n.a e).1) n.a.st (doA n.a e).2.1 := by unfold evN; rw [hd]; rfl
    rw [hN] at hE
    have hset : (σ.set id (.box (nwC (withA n (doA n.a e).1) nilV nilV p)))[id]? = some (.box (nwC (withA n (doA n.a e).1) nilV nilV p)) := by simp [hid]
    have hac := c_acts (withA n (doA n.a e).1) p reply n.a.st (doA n.a e).2.1.isEmpty (doA n.a e).2.1 hll hE _ id hset
    have hev : evOV n e p.id reply = outV (outsOf (evN n e) p.id reply (doA n.a e).2.1) := by unfold evOV evO; rw [hd]; rfl
    have het : evTV n e = telV (toldOf (doA n.a e).2.1) := by unfold evTV evT; rw [hd]; rfl
    have hel : evLV n e = .sl (doA n.a e).2.1.isEmpty false 1 (zv64 (doA n.a e).2.1) := by unfold evLV evL; rw [hd]; rfl
    rw [hev, het, hel, hN]
    generalize doA n.a e = da at d1 d2 hll hE hset hac
    obtain ⟨a', l', er⟩ := da
    simp only at d1 hac hset
    subst d1
    simp only [nwC, withA, pkv, pkC] at hac
    simp -implicitDefEqProofs only [go_sem, bne, hg, auv, auC]
    refine vgo_call' rfl rfl rfl hac ?_
    rintro r σ' ⟨rfl, rfl⟩
    refine ⟨rfl, ?_⟩
    simp -implicitDefEqProofs only [go_sem, vendK, List.set_set]
    rfl

/-- A packet's bytes. -/
def pkB (p : PkV) : List UInt8 := [p.code, p.id, UInt8.ofNat ((p.d.length + 4) / 256), UInt8.ofNat (p.d.length + 4)] ++ p.d
def PkOK (p : PkV) : Prop := p.sz = 1 ∨ (p.nl = true ∧ p.d = [])
theorem shr8 (n : Nat) (h : n ≤ 1500) : IntKind.u8.wrap ((n : Int).fdiv (2 ^ 8)) = ((UInt8.ofNat (n / 256)).toNat : Int) := by
  have h1 : (n : Int).fdiv (2 ^ 8) = ((n / 256 : Nat) : Int) := by
    rw [Int.fdiv_eq_ediv_of_nonneg _ (by decide)]
    rfl
  rw [h1]
  have h2 : (UInt8.ofNat (n / 256)).toNat = n / 256 % 256 := by simp
  rw [h2]
  unfold IntKind.wrap
  simp [IntKind.bits, IntKind.signed]
theorem low8 (n : Nat) : IntKind.u8.wrap (n : Int) = ((UInt8.ofNat n).toNat : Int) := by
  have h2 : (UInt8.ofNat n).toNat = n % 256 := by simp
  rw [h2]
  unfold IntKind.wrap
  simp [IntKind.bits, IntKind.signed]
set_option maxRecDepth 20000 in
theorem c_pbytes (p : PkV) (hp : p.sz = 1) (h : p.d.length ≤ 1496) (σ : St) : VCalls Tryz.prog 137 [pkv p] σ fun r σ' => r = .tup [.sl false false 1 (bv (pkB p)), .int .i64 0] ∧ σ' = σ := by
  refine vcalls_intro (C := cfg Tryz.prog [] [] [23]) (cfg_ok mixed) Tryz.func137 rfl rfl rfl rfl rfl ?_
  have hw : IntKind.i64.wrap ((p.d.length : Int) + 4) = ((p.d.length + 4 : Nat) : Int) := by rw [IntKind.wrap_i64]; omega
  have hd : decide ((1500 : Int) < ((p.d.length + 4 : Nat) : Int)) = false := by rw [decide_eq_false_iff_not]; omega
  simp -implicitDefEqProofs only [go_sem, pkv, pkC, hp, bv_length, hw, hd, shr8 _ (by omega : p.d.length + 4 ≤ 1500), low8]
  exact ⟨by unfold lim; omega, rfl⟩
theorem pk_ne {p : PkV} (h : PkOK p) : NE (pkv p) (pkv { p with sz := 1 }) := by
  rcases h with h | ⟨h1, h2⟩
  · have : p = { p with sz := 1 } := by cases p; simp only at h; subst h; rfl
    rw [← this]
    exact .refl _
  · show NE (.agg [_, _, .sl p.nl p.c p.sz (bv p.d)]) (.agg [_, _, .sl p.nl p.c 1 (bv p.d)])
    rw [h1, h2]
    exact .aggL ⟨.refl _, .refl _, .nil _ _ _ _, trivial⟩
end Go.VL
