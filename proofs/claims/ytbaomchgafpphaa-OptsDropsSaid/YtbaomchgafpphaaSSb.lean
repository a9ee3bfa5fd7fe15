/- Contracts of this program's functions over values, joined texts. Conditions: none. -/
import Derived.Test.YtbaomchgafpphaaSSa
set_option linter.unusedVariables false
set_option linter.unusedSimpArgs false
/- Contracts of this program's functions: opts.Read, first part: what is ranged over. Conditions: none. -/
namespace Go.VL
open Go.Proofs

theorem c_parts (nl c : Bool) (l : List UInt8) (σ : St) : VCalls Try.prog 41 [.sl nl c 1 (bv l)] σ fun r σ' => r = .fn (.func 58) [] [.ptr σ.length 0] ∧ σ' = σ ++ [.box [.sl nl c 1 (bv l)]] := by
  refine vcalls_keep (C := cfg Try.prog [1] [] []) (cfg_ok mixed) Try.func41 rfl rfl rfl rfl rfl ?_
  simp only [go_sem, vendK]

end Go.VL

/- Contracts of this program's functions: opts.Read, second part: the function that is ranged over. Conditions: none. -/
namespace Go.VL
open Go.Proofs

def optOf (nl : Bool) (t n : UInt8) (r : List UInt8) : OV := ⟨t, nl, true, r.take (n.toNat - 2)⟩
/-- What bytes are the options of, behind xs. -/
def parse (nl : Bool) (xs : List OV) : List UInt8 → Option (List OV)
  | [] => some xs
  | [_] => none
  | t :: n :: r => if n.toNat < 2 ∨ r.length + 2 < n.toNat then none else parse nl (xs ++ [optOf nl t n r]) (r.drop (n.toNat - 2))
termination_by l => l.length
decreasing_by simp; omega

theorem c_parts1 {l id : Nat} {nl c : Bool} (S : List OV → List UInt8 → St) (hid : ∀ xs d, (S xs d)[id]? = some (.box [.sl nl c 1 (bv d)])) (hset : ∀ xs d d', (S xs d).set id (.box [.sl nl c 1 (bv d')]) = S xs d') (Sx : St → Prop)
    (xs0 : List OV) (d0 : List UInt8) (hy : ∀ xs d o, xs.length + d.length ≤ xs0.length + d0.length → 2 ≤ d.length → VYield Try.prog l [ov o, .bool true] (S xs d) fun r σ' => r = .bool true ∧ σ' = S (xs ++ [o]) d)
    (hn : ∀ xs d, VYield Try.prog l [.agg [.int .u8 0, .sl true false 0 []], .bool false] (S xs d) fun r σ' => r = .bool false ∧ Sx σ') (h0 : d0.length ≤ lim) :
    VCalls Try.prog 58 [.fn (.yield l) [] [], .ptr id 0] (S xs0 d0) fun _ σ' => (∃ os, parse nl xs0 d0 = some os ∧ σ' = S os []) ∨ (parse nl xs0 d0 = none ∧ Sx σ') := by
  refine vcalls_keep (C := cfg Try.prog [] [] []) (cfg_ok mixed) Try.func58 rfl rfl rfl rfl rfl ?_
  simp only [go_sem]
  refine w_loop (fun p => parse nl p.1 p.2 = parse nl xs0 d0 ∧ p.2.length ≤ lim ∧ p.1.length + p.2.length ≤ xs0.length + d0.length) (fun p => [(0, .fn (.yield l) [] []), (1, .ptr id 0)]) (fun p => S p.1 p.2) (fun p : List OV × List UInt8 => p.2.length) (xs0, d0) ⟨rfl, h0, Nat.le_refl _⟩ ?_ rfl ?_
  · simp only [go_sem]
  rintro ⟨xs, d⟩ ⟨hp, hd, hs⟩
  unfold lim at hd
  simp only at hp hd hs
  rcases d with _ | ⟨t, d⟩
  · have c0 : decide ((0 : Int) < ((0 : Nat) : Int)) = false := rfl
    simp only [go_sem, hid, bv_length, List.length_nil, c0]
    refine l_exit ?_
    simp only [go_sem, vendK]
    rw [parse] at hp
    exact .inl ⟨xs, hp.symm, rfl⟩
  rcases d with _ | ⟨n, r⟩
  · have c0 : decide ((0 : Int) < ((1 : Nat) : Int)) = true := rfl
    have c1 : decide (((1 : Nat) : Int) < 2) = true := rfl
    simp only [go_sem, hid, bv_length, List.length_cons, List.length_nil, Nat.zero_add, c0]
    refine w_walk2 [] [0, 1, 2, 3, 4, 5, 6, 7, 8, 9, 10, 11, 12, 13, 14, 15, 16, 17] [7, 8, 9, 10, 11, 12, 13, 14, 15, 16, 17, 18, 19, 20, 21, 22, 23, 24] [0, 1, 3, 7, 15, 31, 63, 127, 255, 511, 1023, 2047, 4095, 8191, 1023, 17407, 65535, 131071] rfl rfl rfl rfl ?_
    simp only [go_sem, hid, bv_length, List.length_cons, List.length_nil, Nat.zero_add, c1]
    refine vgo_yield rfl rfl rfl (hn xs [t]) ?_
    rintro _ σ' ⟨rfl, hx⟩
    refine ⟨rfl, ?_⟩
    simp only [go_sem]
    refine l_ret ?_
    simp only [go_sem, vendK]
    rw [parse] at hp
    exact .inr ⟨hp.symm, hx⟩
  · have c0 : decide ((0 : Int) < ((r.length + 1 + 1 : Nat) : Int)) = true := by simp; omega
    have c1 : decide (((r.length + 1 + 1 : Nat) : Int) < 2) = false := by simp; omega
    have c2 : ((1 : Int) < ((r.length + 1 + 1 : Nat) : Int)) = True := by simp; omega
    have hb0 : (bv (t :: n :: r)).getD 0 .undef = .int .u8 t.toNat := rfl
    have hb1 : (bv (t :: n :: r)).getD 1 .undef = .int .u8 n.toNat := rfl
    rw [parse] at hp
    have hn8 : n.toNat < 256 := n.toNat_lt
    have hw : IntKind.i64.wrap (n.toNat : Int) = (n.toNat : Int) := wrap_ok (by omega) (by omega)
    have bad : (n.toNat < 2 ∨ r.length + 2 < n.toNat) → parse nl xs0 d0 = none := fun h => by rw [← hp, if_pos h]
    simp only [go_sem, hid, bv_length, List.length_cons, c0]
    refine w_walk2 [] [0, 1, 2, 3, 4, 5, 6, 7, 8, 9, 10, 11, 12, 13, 14, 15, 16, 17] [7, 8, 9, 10, 11, 12, 13, 14, 15, 16, 17, 18, 19, 20, 21, 22, 23, 24] [0, 1, 3, 7, 15, 31, 63, 127, 255, 511, 1023, 2047, 4095, 8191, 1023, 17407, 65535, 131071] rfl rfl rfl rfl ?_
    simp only [go_sem, hid, bv_length, List.length_cons, c1, c2, hb1]
    rcases Nat.lt_or_ge n.toNat 2 with h2 | h2
    · have c3 : decide ((n.toNat : Int) < 2) = true := by simp; omega
      simp only [go_sem, c3]
      refine vgo_yield rfl rfl rfl (hn xs (t :: n :: r)) ?_
      rintro _ σ' ⟨rfl, hx⟩
      refine ⟨rfl, ?_⟩
      simp only [go_sem]
      refine l_ret ?_
      simp only [go_sem, vendK]
      exact .inr ⟨bad (.inl h2), hx⟩
    · have c3 : decide ((n.toNat : Int) < 2) = false := by simp; omega
      rcases Nat.lt_or_ge (r.length + 2) n.toNat with h3 | h3
      · have c4 : decide (r.length + 1 + 1 < n.toNat) = true := by simp; omega
        simp only [go_sem, hid, bv_length, List.length_cons, c2, c3, hb1, hw, c4]
        refine vgo_yield rfl rfl rfl (hn xs (t :: n :: r)) ?_
        rintro _ σ' ⟨rfl, hx⟩
        refine ⟨rfl, ?_⟩
        simp only [go_sem]
        refine l_ret ?_
        simp only [go_sem, vendK]
        exact .inr ⟨bad (.inr h3), hx⟩
      · have c4 : decide (r.length + 1 + 1 < n.toNat) = false := by simp; omega
        simp only [go_sem, hid, bv_length, List.length_cons, c2, c3, hb1, hw, c4]
        have hbv : List.drop 2 (List.take n.toNat (bv (t :: n :: r))) = bv (r.take (n.toNat - 2)) := by
          obtain ⟨k, hk⟩ : ∃ k, n.toNat = k + 2 := ⟨n.toNat - 2, by omega⟩
          rw [hk]
          simp [bv]
        have hbd : List.drop n.toNat (bv (t :: n :: r)) = bv (r.drop (n.toNat - 2)) := by
          obtain ⟨k, hk⟩ : ∃ k, n.toNat = k + 2 := ⟨n.toNat - 2, by omega⟩
          rw [hk]
          simp [bv]
        refine w_walk2 [9] [0, 1, 2, 3, 4, 5, 6, 7, 8, 9, 10] [32, 33, 34, 35, 36, 37, 38, 39, 40, 42] [0, 0, 2, 6, 0, 0, 0, 112, 254, 511, 1023] rfl rfl rfl rfl ?_
        simp only [go_sem, hid, bv_length, List.length_cons, c2, hb0, hb1, hbv]
        refine ⟨by omega, by omega, by omega, ve_yield rfl rfl rfl (hy xs (t :: n :: r) (optOf nl t n r) hs (by simp)) ?_⟩
        rintro _ σ' ⟨rfl, rfl⟩
        refine ⟨rfl, ?_⟩
        have hbt : List.take (r.length + 1 + 1) (bv (t :: n :: r)) = bv (t :: n :: r) := List.take_of_length_le (by simp [bv])
        simp only [go_sem, hid, bv_length, List.length_cons, hbt, hbd, hset]
        refine ⟨by omega, Nat.le_refl _, ?_⟩
        rw [if_neg (by omega)] at hp
        refine l_next (xs ++ [optOf nl t n r], r.drop (n.toNat - 2)) ⟨hp, ?_, ?_⟩ ?_ ?_ ?_
        · simp only [List.length_drop, lim, List.length_cons] at hd ⊢; omega
        · simp only [List.length_drop, List.length_append, List.length_cons, List.length_nil] at hs ⊢; omega
        · simp only [List.length_drop]; omega
        · simp only [go_sem]
        · rfl

end Go.VL

/- Contracts of this program's functions: opts.Read. Conditions: none. -/
namespace Go.VL
open Go.Proofs

def readS (σ : St) (nl c : Bool) (e : Int) (b : VO) : List OV → List UInt8 → St
  | [], d => σ ++ [.box [.sl true false 0 []], .box [.int .i64 e], .box [.sl true false 0 []], .box [.sl nl c 1 (bv d)], b]
  | x :: xs, d => σ ++ [.box [.sl true false 0 []], .box [.int .i64 e], .box [.rsl (σ.length + 5) xs.length 0 (xs.length + 1)], .box [.sl nl c 1 (bv d)], b, .arr false xs.length 2 (osv (x :: xs))]

theorem c_read (nl c : Bool) (d : List UInt8) (hd : d.length ≤ lim) (σ : St) : VCalls Try.prog 16 [.sl nl c 1 (bv d)] σ fun r σ' => σ' = σ ∧ r = .tup (match parse nl [] d with
    | some [] => [.sl true false 0 [], .int .i64 0]
    | some os => [.sl false false 2 (osv os), .int .i64 0]
    | none => [.sl true false 0 [], .int .i64 2]) := by
  refine vcalls_intro (C := cfg Try.prog [2, 3, 4] [] []) (cfg_ok mixed) Try.func16 rfl rfl rfl rfl rfl ?_
  simp only [go_sem]
  refine vgo_call' rfl rfl rfl (c_parts nl c d _) ?_
  rintro _ σ' ⟨rfl, rfl⟩
  refine ⟨rfl, ?_⟩
  simp only [go_sem]
  refine w_range [(2, .ptr σ.length 0), (3, .ptr (σ.length + 1) 0), (4, .ptr (σ.length + 2) 0)] (σ.length + 4) (by simp) ?_ rfl rfl rfl rfl ?_
  · simp only [go_sem, List.length_append, List.length_cons, List.length_nil]
  intro l rdy bsy dn Y
  have hc := c_parts1 (l := l) (id := σ.length + 3) (nl := nl) (c := c) (readS σ nl c 0 (.blk l rdy [(2, .ptr σ.length 0), (3, .ptr (σ.length + 1) 0), (4, .ptr (σ.length + 2) 0)])) (fun xs d => by cases xs <;> simp [readS, get_add]) (fun xs d d' => by cases xs <;> simp [readS, set_add])
    (fun σ' => ∃ xs d, σ' = readS σ nl c 2 (.blk l (dn .ret) [(2, .ptr σ.length 0), (3, .ptr (σ.length + 1) 0), (4, .ptr (σ.length + 2) 0)]) xs d) [] d ?_ ?_ hd
  · simp only [List.append_assoc, List.cons_append, List.nil_append, List.length_append, List.length_cons, List.length_nil]
    refine VCalls.mono hc ?_
    rintro _ σ' (⟨os, h1, rfl⟩ | ⟨h1, xs, d1, rfl⟩)
    · refine .inl ?_
      cases os
      · simp only [go_sem, readS, List.append_assoc, List.cons_append, List.nil_append, List.length_append, List.length_cons, List.length_nil, h1]
      · simp only [go_sem, readS, List.append_assoc, List.cons_append, List.nil_append, List.length_append, List.length_cons, List.length_nil, h1]
        rw [List.take_of_length_le (by simp [osv])]
    · refine .inr (.inl ?_)
      cases xs
      · simp only [go_sem, readS, List.append_assoc, List.cons_append, List.nil_append, List.length_append, List.length_cons, List.length_nil, h1]
      · simp only [go_sem, readS, List.append_assoc, List.cons_append, List.nil_append, List.length_append, List.length_cons, List.length_nil, h1]
  · intro xs d1 o hx h2
    unfold lim at hd
    simp only [List.length_nil, Nat.zero_add] at hx
    refine Y _ _ _ (by cases xs <;> simp [readS, get_add]) rfl rfl ?_
    cases xs
    · simp only [go_sem, readS, bindV, ov, List.append_assoc, List.cons_append, List.nil_append, List.length_append, List.length_cons, List.length_nil, osv_length]
      refine ⟨by unfold lim; omega, r_next ?_ ⟨rfl, ?_⟩⟩
      · simp only [go_sem]
      · simp only [go_sem]
        rfl
    · simp only [List.length_cons] at hx
      simp only [go_sem, readS, bindV, ov, List.append_assoc, List.cons_append, List.nil_append, List.length_append, List.length_cons, List.length_nil, osv_length]
      refine ⟨by unfold lim; omega, r_next ?_ ⟨rfl, ?_⟩⟩
      · simp only [go_sem]
      · simp only [go_sem, osv, List.map_cons, List.map_append, List.map_nil, List.cons_append, ov]
  · intro xs d1
    refine Y _ _ _ (by cases xs <;> simp [readS, get_add]) rfl rfl ?_
    cases xs
    · simp only [go_sem, readS, bindV, List.append_assoc, List.cons_append, List.nil_append, List.length_append, List.length_cons, List.length_nil]
      refine r_ret ?_ ⟨rfl, [], d1, ?_⟩
      · simp only [go_sem]
      · simp only [go_sem, readS]
    · rename_i x xs
      simp only [go_sem, readS, bindV, List.append_assoc, List.cons_append, List.nil_append, List.length_append, List.length_cons, List.length_nil]
      refine r_ret ?_ ⟨rfl, x :: xs, d1, ?_⟩
      · simp only [go_sem]
      · simp only [go_sem, readS]

end Go.VL

/- Contracts of this program's functions: opts.Bytes. Conditions: none. -/
namespace Go.VL
open Go.Proofs

def encO (o : OV) : List UInt8 := o.t :: UInt8.ofNat (o.d.length + 2) :: o.d
def encL (l : List OV) : List UInt8 := l.flatMap encO
def bytesV' (l : List OV) : V := bif l.all (fun o => decide (o.d.length ≤ 253)) && decide ((encL l).length ≤ 1496) then .tup [.sl l.isEmpty false 1 (bv (encL l)), .int .i64 0] else .tup [.sl true false 0 [], .int .i64 1]

theorem encL_take {l : List OV} {i : Nat} (h : i < l.length) : encL (l.take (i + 1)) = encL (l.take i) ++ encO l[i] := by
  unfold encL
  rw [List.take_succ_eq_append_getElem h, List.flatMap_append]
  simp

theorem vqg_q {C : Cfg} {fr : Fr} {σ : St} {op : Op} {K : V → Prop} (h : isCallV op = false) : vqg C fr σ none op K = vq C fr σ op K := vqp_q fr σ op K h

theorem u8_small {n : Nat} (h : n < 256) : IntKind.u8.wrap (n : Int) = (n : Int) := by
  unfold IntKind.wrap
  simp [IntKind.bits, IntKind.signed]
  omega

theorem c_bytes (nl c : Bool) (l : List OV) (hl : l.length ≤ 8388608) (hd : ∀ o ∈ l, o.d.length ≤ lim) (σ : St) : VCalls Try.prog 15 [.sl nl c 2 (osv l)] σ fun r σ' => r = bytesV' l ∧ σ' = σ := by
  refine vcalls_intro (C := cfg Try.prog [] [] []) (cfg_ok mixed) Try.func15 rfl rfl rfl rfl rfl ?_
  simp only [go_sem]
  refine loop_adopt 4 1 σ.length rfl rfl ?_
  refine w_loop (fun i => i ≤ l.length ∧ (encL (l.take i)).length ≤ 255 * i ∧ ∀ o ∈ l.take i, o.d.length ≤ 253) (fun i => [(9, .int .i64 i), (8, .int .i64 l.length), (7, .sl nl c 2 (osv l)), (4, .rsl σ.length (2 * i) 0 (encL (l.take i)).length)]) (fun i => σ ++ [.arr (i == 0) (2 * i) 1 (bv (encL (l.take i)))]) (fun i => l.length - i) 0 ⟨Nat.zero_le _, Nat.le_refl _, fun o h => (by simp at h)⟩ ?_ rfl ?_
  · simp only [go_sem, osv_length, encL, List.take_zero, List.flatMap_nil, List.length_nil, Nat.mul_zero]
    rfl
  rintro i ⟨hi, hlen, hall⟩
  have hlz : (bv (encL (l.take i))).length = (encL (l.take i)).length := bv_length _
  rcases Nat.lt_or_ge i l.length with h | h
  · have hdi := hd l[i] (List.getElem_mem h)
    rcases Nat.lt_or_ge 253 l[i].d.length with h3 | h3
    · have c3 : decide ((253 : Int) < (l[i].d.length : Int)) = true := by simp; omega
      simp only [go_sem, osv_length, osv_getD h, h, ov, bv_length, c3]
      refine l_ret ?_
      have hb : bytesV' l = .tup [.sl true false 0 [], .int .i64 1] := by
        have : l.all (fun o => decide (o.d.length ≤ 253)) = false := by
          rw [List.all_eq_false]
          exact ⟨l[i], List.getElem_mem h, by simp; omega⟩
        unfold bytesV'
        rw [this]
        rfl
      simp only [go_sem, hb]
    · have c3 : decide ((253 : Int) < (l[i].d.length : Int)) = false := by simp; omega
      simp only [go_sem, osv_length, osv_getD h, h, ov, bv_length, c3]
      refine w_walk2 [9, 12, 13] [0, 1, 2, 3, 4, 5, 6, 7, 8, 10, 11, 9, 12, 13] [17, 18, 19, 20, 21, 22, 23, 24, 25, 27, 28] [0, 0, 2, 0, 8, 24, 56, 120, 254, 511, 0, 1024, 4095, 8191] rfl rfl rfl rfl ?_
      simp only [go_sem, osv_length, osv_getD h, h, ov, bv_length]
      have hw : IntKind.u8.wrap (IntKind.i64.wrap ((l[i].d.length : Int) + 2)) = ((UInt8.ofNat (l[i].d.length + 2)).toNat : Int) := by
        rw [wrap_ok (by omega) (by omega)]
        have : (UInt8.ofNat (l[i].d.length + 2)).toNat = l[i].d.length + 2 := by simp; omega
        rw [this, show ((l[i].d.length : Int) + 2) = ((l[i].d.length + 2 : Nat) : Int) by omega]
        exact u8_small (by omega)
      simp only [hw]
      refine ⟨by unfold lim; omega, .inr ?_, .inr ?_, ?_⟩
      · rw [vqg_q rfl]
        simp only [go_sem]
      · rw [vqg_q rfl]
        simp only [go_sem]
      have hw1 : IntKind.i64.wrap ((i : Int) + 1) = ((i + 1 : Nat) : Int) := wrap_ok (by omega) (by omega)
      have he1 : bv (encL (l.take i)) ++ [V.int IntKind.u8 l[i].t.toNat, V.int IntKind.u8 (UInt8.ofNat (l[i].d.length + 2)).toNat] ++ bv l[i].d = bv (encL (l.take (i + 1))) := by
        rw [encL_take h]
        simp [bv, encO]
      have he2 : (encL (l.take (i + 1))).length = (encL (l.take i)).length + 2 + l[i].d.length := by
        rw [encL_take h]
        simp [encO]
        omega
      refine ⟨by simp [bv], by simp [bv]; unfold lim; omega, l_next (i + 1) ⟨h, by omega, fun o ho => ?_⟩ (by omega) ?_ ?_⟩
      · rw [List.take_succ_eq_append_getElem h] at ho
        rcases List.mem_append.1 ho with ho | ho
        · exact hall o ho
        · have : o = l[i] := by simpa using ho
          rw [this]; exact h3
      · have hg : 2 * i + 1 + 1 = 2 * (i + 1) := by omega
        simp only [go_sem, hw1, he2, hg, List.length_append, List.length_cons, List.length_nil, bv_length]
      · have hg : 2 * i + 1 + 1 = 2 * (i + 1) := by omega
        simp only [he1, go_sem, hg]
  · have hn : ¬ (i < l.length) := by omega
    simp only [go_sem, osv_length, hn]
    refine l_exit ?_
    have hil : i = l.length := by omega
    subst hil
    rw [List.take_length] at hall hlen
    have hal : l.all (fun o => decide (o.d.length ≤ 253)) = true := List.all_eq_true.2 fun o ho => by simpa using hall o ho
    have hem : (l.length == 0) = l.isEmpty := by cases l <;> rfl
    rcases Nat.lt_or_ge 1496 (encL l).length with h3 | h3
    · have c3 : decide ((1496 : Int) < ((encL l).length : Int)) = true := by simp; omega
      have c4 : decide ((encL l).length ≤ 1496) = false := by simp; omega
      simp only [go_sem, List.take_length, Nat.sub_zero, c3, bytesV', hal, c4, Bool.true_and]
    · have c3 : decide ((1496 : Int) < ((encL l).length : Int)) = false := by simp; omega
      have c4 : decide ((encL l).length ≤ 1496) = true := by simp; omega
      simp only [go_sem, List.take_length, Nat.sub_zero, c3, bytesV', hal, c4, Bool.true_and, hem]
      rw [List.take_of_length_le (by simp [bv])]

end Go.VL

/- The document's examples, at the head of the laws on options. Conditions: none. -/
namespace Go.VL
open Go.Proofs

theorem so_bytes : bytesV' [⟨1, false, true, [5, 220]⟩] = .tup [.sl false false 1 (bv [1, 4, 5, 220]), .int .i64 0] := by kernel_rfl
theorem so_read : parse false [] [1, 4, 5, 220, 7, 2] = some [⟨1, false, true, [5, 220]⟩, ⟨7, false, true, []⟩] := by
  rw [parse, if_neg (by decide)]
  show parse false [_] [7, 2] = _
  rw [parse, if_neg (by decide)]
  show parse false _ [] = _
  rw [parse]
  rfl

set_option maxHeartbeats 1000000 in
set_option maxRecDepth 20000 in
theorem c_shown10 (σ : St) : VCalls Try.prog 13 [] σ fun x σ' => x = .bool true ∧ σ' = σ := by
  refine vcalls_intro (C := cfg Try.prog [] [] []) (cfg_ok mixed) Try.func13 rfl rfl rfl rfl rfl ?_
  simp only [go_sem]
  refine vgo_call rfl rfl rfl rfl (c_bytes false true [⟨1, false, true, [5, 220]⟩] (by simp) (by intro o h; simp at h; subst h; simp [lim]) σ) ?_
  simp only [so_bytes, go_sem]
  refine vgo_call' rfl rfl rfl (c_read false true [1, 4, 5, 220, 7, 2] (by simp [lim]) σ) ?_
  rw [so_read]
  rintro _ _ ⟨rfl, rfl⟩
  refine ⟨rfl, ?_⟩
  simp only [go_sem]
  refine vgo_call rfl rfl rfl rfl (c_find false false [⟨1, false, true, [5, 220]⟩, ⟨7, false, true, []⟩] 7 (by simp [lim]) _) ?_
  have hf : resO (findO [⟨1, false, true, [5, 220]⟩, ⟨7, false, true, []⟩] 7) = .tup [.agg [.int .u8 7, .sl false true 1 []], .bool true] := by kernel_rfl
  have hl : (bv [1, 4, 5, 220]) = [.int .u8 1, .int .u8 4, .int .u8 5, .int .u8 220] := by kernel_rfl
  have ho : osv [⟨1, false, true, [5, 220]⟩, ⟨7, false, true, []⟩] = [.agg [.int .u8 1, .sl false true 1 [.int .u8 5, .int .u8 220]], .agg [.int .u8 7, .sl false true 1 []]] := by kernel_rfl
  simp only [hf, hl, ho, List.append_eq, List.cons_append, List.nil_append, List.length_cons, List.length_nil, Nat.zero_add, Nat.reduceAdd, Int.cast_ofNat_Int, go_sem]
  refine vgo_call rfl rfl rfl rfl (c_number' false true [5, 220] (by simp [lim]) _) ?_
  have hn : ((numU [5, 220]).toNat : Int) = 1500 := by kernel_rfl
  simp only [hn, go_sem]
  refine vgo_call rfl rfl rfl rfl (c_four' 1 _) ?_
  have h4 : bv (fourB 1) = [.int .u8 0, .int .u8 0, .int .u8 0, .int .u8 1] := by kernel_rfl
  simp only [h4, List.length_cons, List.length_nil, Nat.zero_add, Nat.reduceAdd, Int.cast_ofNat_Int, go_sem]
  refine vgo_call rfl rfl rfl rfl (c_optsSame false false false false [⟨1, false, true, [5, 220]⟩, ⟨7, false, true, []⟩] [⟨1, false, true, [5, 220]⟩, ⟨7, false, true, []⟩] (by simp [lim]) _) ?_
  have hs : same [⟨1, false, true, [5, 220]⟩, ⟨7, false, true, []⟩] [⟨1, false, true, [5, 220]⟩, ⟨7, false, true, []⟩] = true := by decide
  simp only [hs, go_sem]
  refine vgo_call rfl rfl rfl rfl (c_put false false [⟨1, false, true, [5, 220]⟩, ⟨7, false, true, []⟩] ⟨7, false, true, []⟩ (by simp [lim]) _) ?_
  have hp : osv (putO [⟨1, false, true, [5, 220]⟩, ⟨7, false, true, []⟩] ⟨7, false, true, []⟩) = osv [⟨1, false, true, [5, 220]⟩, ⟨7, false, true, []⟩] := by kernel_rfl
  simp only [hp, ho, List.length_cons, List.length_nil, Nat.zero_add, Nat.reduceAdd, Int.cast_ofNat_Int, go_sem]
  refine vgo_call rfl rfl rfl rfl (c_drop false false [⟨1, false, true, [5, 220]⟩, ⟨7, false, true, []⟩] 7 (by simp [lim]) _) ?_
  have hd : copyV false (dropO [⟨1, false, true, [5, 220]⟩, ⟨7, false, true, []⟩] 7) = .sl false false 2 (osv [⟨1, false, true, [5, 220]⟩]) := by kernel_rfl
  simp only [hd, osv_length, List.length_cons, List.length_nil, Nat.zero_add, Nat.reduceAdd, Int.cast_ofNat_Int, go_sem]

end Go.VL

/- Options as bytes, and back: plain laws. Conditions: none. -/
namespace Go.VL
open Go.Proofs

def normO (nl : Bool) (o : OV) : OV := ⟨o.t, nl, true, o.d⟩

theorem ofNat_toNat {n : Nat} (h : n < 256) : (UInt8.ofNat n).toNat = n := by simp; omega

theorem parse_enc (nl : Bool) : ∀ (l : List OV) (xs : List OV), (∀ o ∈ l, o.d.length ≤ 253) → parse nl xs (encL l) = some (xs ++ l.map (normO nl))
  | [], xs, _ => by
    show parse nl xs [] = _
    rw [parse]
    simp
  | o :: l, xs, h => by
    have ho := h o (by simp)
    have e : encL (o :: l) = o.t :: UInt8.ofNat (o.d.length + 2) :: (o.d ++ encL l) := by simp [encL, encO]
    have hn : (UInt8.ofNat (o.d.length + 2)).toNat = o.d.length + 2 := ofNat_toNat (by omega)
    rw [e, parse, if_neg (by rw [hn]; simp), hn]
    have h1 : (o.d ++ encL l).drop (o.d.length + 2 - 2) = encL l := by simp
    have h2 : optOf nl o.t (UInt8.ofNat (o.d.length + 2)) (o.d ++ encL l) = normO nl o := by unfold optOf normO; rw [hn]; simp
    rw [h1, h2, parse_enc nl l _ fun q hq => h q (by simp [hq])]
    simp

theorem enc_parse (nl : Bool) : ∀ (k : Nat) (b : List UInt8) (xs os : List OV), b.length ≤ k → parse nl xs b = some os → ∃ l, os = xs ++ l ∧ encL l = b ∧ (∀ o ∈ l, o.d.length ≤ 253) ∧ ∀ o ∈ l, o.nl = nl ∧ o.c = true
  | _, [], xs, os, _, h => by
    rw [parse] at h
    cases h
    exact ⟨[], by simp, rfl, by simp, by simp⟩
  | _, [_], xs, os, _, h => by rw [parse] at h; cases h
  | 0, t :: n :: r, xs, os, hk, h => by simp at hk
  | k + 1, t :: n :: r, xs, os, hk, h => by
    rw [parse] at h
    by_cases hb : n.toNat < 2 ∨ r.length + 2 < n.toNat
    · rw [if_pos hb] at h; cases h
    · rw [if_neg hb] at h
      have hn := n.toNat_lt
      simp only [List.length_cons] at hk
      obtain ⟨l, h1, h2, h3, h4⟩ := enc_parse nl k _ _ _ (by simp only [List.length_drop]; omega) h
      have hl : (r.take (n.toNat - 2)).length = n.toNat - 2 := by rw [List.length_take]; omega
      refine ⟨optOf nl t n r :: l, by rw [h1]; simp, ?_, fun o ho => ?_, fun o ho => ?_⟩
      · have e : encL (optOf nl t n r :: l) = t :: UInt8.ofNat ((r.take (n.toNat - 2)).length + 2) :: (r.take (n.toNat - 2) ++ encL l) := by simp [encL, encO, optOf]
        rw [e, hl, h2, List.take_append_drop, show n.toNat - 2 + 2 = n.toNat by omega]
        simp
      · rcases List.mem_cons.1 ho with rfl | ho
        · simp only [optOf, hl]; omega
        · exact h3 o ho
      · rcases List.mem_cons.1 ho with rfl | ho
        · exact ⟨rfl, rfl⟩
        · exact h4 o ho

end Go.VL

/- The law OptsBack, over values. Conditions: none. -/
namespace Go.VL
open Go.Proofs

theorem few_small {l : List OV} (h : few l = true) : l.length ≤ 30 ∧ ∀ o ∈ l, o.d.length ≤ 253 := by
  simp only [few, Bool.and_eq_true, decide_eq_true_eq] at h
  exact ⟨h.1, fun o ho => by have := List.all_eq_true.1 h.2 o ho; simpa [smallO] using this⟩

theorem same_norm (nl : Bool) : ∀ l : List OV, same l (l.map (normO nl)) = true
  | [] => rfl
  | o :: l => by simp [same, same_norm nl l, eqO, normO]

theorem all_small {l : List OV} (h : ∀ o ∈ l, o.d.length ≤ 253) : l.all (fun o => decide (o.d.length ≤ 253)) = true := List.all_eq_true.2 fun o ho => by simpa using h o ho

/-- What Read tells. -/
def readV : Option (List OV) → V
  | some [] => .tup [.sl true false 0 [], .int .i64 0]
  | some os => .tup [.sl false false 2 (osv os), .int .i64 0]
  | none => .tup [.sl true false 0 [], .int .i64 2]

theorem c_read' (nl c : Bool) (d : List UInt8) {q : Option (List OV)} (h : parse nl [] d = q) (hd : d.length ≤ lim) (σ : St) : VCalls Try.prog 16 [.sl nl c 1 (bv d)] σ fun r σ' => r = readV q ∧ σ' = σ :=
  (c_read nl c d hd σ).mono fun r σ' k => ⟨by
    rw [k.2, ← h]
    unfold readV
    cases parse nl [] d with
    | none => rfl
    | some os => cases os <;> rfl, k.1⟩

theorem c_read_enc (nl c : Bool) (l : List OV) (hs : ∀ o ∈ l, o.d.length ≤ 253) (hd : (encL l).length ≤ lim) (σ : St) : VCalls Try.prog 16 [.sl nl c 1 (bv (encL l))] σ fun r σ' => r = readV (some (l.map (normO nl))) ∧ σ' = σ :=
  c_read' nl c _ (by rw [parse_enc _ _ _ hs, List.nil_append]) hd σ

theorem bytes_ok {l : List OV} (hs : ∀ o ∈ l, o.d.length ≤ 253) (h : (encL l).length ≤ 1496) : bytesV' l = .tup [.sl l.isEmpty false 1 (bv (encL l)), .int .i64 0] := by
  unfold bytesV'
  rw [all_small hs, decide_eq_true h]
  rfl
theorem bytes_long {l : List OV} (h : 1496 < (encL l).length) : bytesV' l = .tup [.sl true false 0 [], .int .i64 1] := by
  unfold bytesV'
  rw [decide_eq_false (by omega), Bool.and_false]
  rfl

end Go.VL

/- The law OptsBack, over values. Conditions: none. -/
namespace Go.VL
open Go.Proofs

theorem parse_cases (b : List UInt8) (nl : Bool) : parse nl [] b = none ∨ ∃ l, parse nl [] b = some l ∧ encL l = b ∧ ∀ o ∈ l, o.d.length ≤ 253 := by
  cases h : parse nl [] b with
  | none => exact .inl rfl
  | some os =>
    obtain ⟨l, h1, h2, h3, _⟩ := enc_parse nl b.length b [] os (Nat.le_refl _) h
    have : os = l := by simpa using h1
    subst this
    exact .inr ⟨os, rfl, h2, h3⟩
/-- What Read tells; a row that is nil is told as any other. -/
def readW : Option (List OV) → V
  | some l => .tup [.sl l.isEmpty false 2 (osv l), .int .i64 0]
  | none => .tup [.sl true false 0 [], .int .i64 2]
theorem readV_NE (q : Option (List OV)) : NE (readV q) (readW q) := by
  rcases q with _ | ⟨_ | ⟨o, l⟩⟩
  · exact .refl _
  · exact NE.tupL ⟨.nil _ _ _ _, .refl _, trivial⟩
  · exact .refl _
theorem readW_some (l : List OV) : readW (some l) = .tup [.sl l.isEmpty false 2 (osv l), .int .i64 0] := rfl
theorem readW_none : readW none = .tup [.sl true false 0 [], .int .i64 2] := rfl
theorem isVal_readW (q : Option (List OV)) : (readW q).isVal = true := by cases q <;> rfl
theorem numU_self (n : UInt32) : (((numU (fourB n)).toNat : Int) == (n.toNat : Int)) = true := by rw [numU_fourB]; simp
theorem nl_len {l : List OV} {nl : Bool} : osv l = [] → l = [] := by cases l <;> simp [osv]
theorem encL_len (l : List OV) : 2 * l.length ≤ (encL l).length := by
  induction l with
  | nil => simp
  | cons o l ih => simp -implicitDefEqProofs only [encL, List.flatMap_cons, List.length_append, encO, List.length_cons] at ih ⊢; omega

/-- Read, over bytes of any row. -/
theorem c_readV (nl c : Bool) (d : List UInt8) (hd : d.length ≤ lim) (σ : St) : VCalls Try.prog 16 [.sl nl c 1 (bv d)] σ fun r σ' => r = readW (parse nl [] d) ∧ σ' = σ :=
  VCalls.res ((c_read' nl c d rfl hd σ).mono fun r σ' h => ⟨_, h.1 ▸ readV_NE _, rfl, h.2⟩)
theorem c_readE (nl c : Bool) (l : List OV) (hs : ∀ o ∈ l, o.d.length ≤ 253) (hd : (encL l).length ≤ lim) (σ : St) : VCalls Try.prog 16 [.sl nl c 1 (bv (encL l))] σ fun r σ' => r = readW (some (l.map (normO nl))) ∧ σ' = σ := by
  have := c_readV nl c (encL l) hd σ
  rwa [parse_enc _ _ _ hs, List.nil_append] at this

theorem c_bytesOk (nl c : Bool) (l : List OV) (hs : ∀ o ∈ l, o.d.length ≤ 253) (h : (encL l).length ≤ 1496) (σ : St) : VCalls Try.prog 15 [.sl nl c 2 (osv l)] σ fun r σ' => r = .tup [.sl l.isEmpty false 1 (bv (encL l)), .int .i64 0] ∧ σ' = σ :=
  (c_bytes nl c l (by have := encL_len l; omega) (fun o ho => by have := hs o ho; unfold lim; omega) σ).mono fun r σ' h' => ⟨h'.1.trans (bytes_ok hs h), h'.2⟩
theorem c_bytesLong (nl c : Bool) (l : List OV) (hl : l.length ≤ 8388608) (hs : ∀ o ∈ l, o.d.length ≤ 253) (h : 1496 < (encL l).length) (σ : St) : VCalls Try.prog 15 [.sl nl c 2 (osv l)] σ fun r σ' => r = .tup [.sl true false 0 [], .int .i64 1] ∧ σ' = σ :=
  (c_bytes nl c l hl (fun o ho => by have := hs o ho; unfold lim; omega) σ).mono fun r σ' h' => ⟨h'.1.trans (bytes_long h), h'.2⟩

set_option maxHeartbeats 400000 in
set_option maxRecDepth 20000 in
theorem c_back (nl c nl' c' : Bool) (l : List OV) (b : List UInt8) (n : UInt32) (σ : St) : VCalls Try.prog 3 [.sl nl c 2 (osv l), .sl nl' c' 1 (bv b), .int .u32 n.toNat] σ fun r σ' => r = .bool true ∧ σ' = σ := by
  refine vcalls_intro (C := cfg Try.prog [] [] []) (cfg_ok mixed) Try.func3 rfl rfl rfl rfl rfl ?_
  simp -implicitDefEqProofs only [go_sem]
  refine vgo_call rfl rfl rfl rfl (c_shown10 σ) ?_
  simp -implicitDefEqProofs only [go_sem]
  refine vgo_call rfl rfl rfl rfl (c_few nl c l σ) ?_
  cases hf : few l
  · simp -implicitDefEqProofs only [go_sem]
  simp -implicitDefEqProofs only [go_sem, bv_length]
  rcases Nat.lt_or_ge 1496 b.length with h1 | h1
  · have c1 : decide ((1496 : Int) < (b.length : Int)) = true := by simp; omega
    simp -implicitDefEqProofs only [go_sem, c1]
  have c1 : decide ((1496 : Int) < (b.length : Int)) = false := by simp; omega
  obtain ⟨hl, hs⟩ := few_small hf
  have hb : b.length ≤ lim := by unfold lim; omega
  simp -implicitDefEqProofs only [go_sem, c1]
  rcases Nat.lt_or_ge 1496 (encL l).length with h2 | h2
  · refine vgo_call rfl rfl rfl rfl (c_bytesLong nl c l (by omega) hs h2 σ) ?_
    simp -implicitDefEqProofs only [go_sem]
    refine vgo_call rfl rfl rfl ?_ (c_readV nl' c' b hb σ) ?_
    · exact isVal_readW _
    rcases parse_cases b nl' with hp | ⟨m, hp, he, hm⟩
    · rw [hp]
      simp -implicitDefEqProofs only [readW_none, Int.cast_ofNat_Int, go_sem]
      refine vgo_call rfl rfl rfl rfl (c_four' n σ) ?_
      simp -implicitDefEqProofs only [go_sem]
      refine vgo_call rfl rfl rfl rfl (c_number' _ _ _ (by simp [fourB, lim]) σ) ?_
      simp -implicitDefEqProofs only [go_sem, numU_self]
    · rw [hp, readW_some]
      simp -implicitDefEqProofs only [go_sem]
      refine vgo_call rfl rfl rfl rfl (c_bytesOk _ _ m hm (by rw [he]; exact h1) σ) ?_
      simp -implicitDefEqProofs only [go_sem]
      refine vgo_call rfl rfl rfl rfl (c_row _ _ _ _ _ _ (by rw [he]; exact hb) σ) ?_
      simp -implicitDefEqProofs only [go_sem, he]
      refine vgo_call rfl rfl rfl rfl (c_four' n σ) ?_
      simp -implicitDefEqProofs only [go_sem]
      refine vgo_call rfl rfl rfl rfl (c_number' _ _ _ (by simp [fourB, lim]) σ) ?_
      simp -implicitDefEqProofs only [go_sem, numU_self]
  · refine vgo_call rfl rfl rfl rfl (c_bytesOk nl c l hs h2 σ) ?_
    simp -implicitDefEqProofs only [go_sem]
    refine vgo_call rfl rfl rfl ?_ (c_readE l.isEmpty false l hs (by unfold lim; omega) σ) ?_
    · exact isVal_readW _
    rw [readW_some]
    simp -implicitDefEqProofs only [go_sem]
    refine vgo_call rfl rfl rfl rfl (c_same _ _ _ _ l (l.map (normO l.isEmpty)) (by unfold lim; omega) (fun o ho => by have := hs o ho; unfold lim; omega) σ) ?_
    simp -implicitDefEqProofs only [go_sem, same_norm]
    refine vgo_call rfl rfl rfl ?_ (c_readV nl' c' b hb σ) ?_
    · exact isVal_readW _
    rcases parse_cases b nl' with hp | ⟨m, hp, he, hm⟩
    · rw [hp]
      simp -implicitDefEqProofs only [readW_none, Int.cast_ofNat_Int, go_sem]
      refine vgo_call rfl rfl rfl rfl (c_four' n σ) ?_
      simp -implicitDefEqProofs only [go_sem]
      refine vgo_call rfl rfl rfl rfl (c_number' _ _ _ (by simp [fourB, lim]) σ) ?_
      simp -implicitDefEqProofs only [go_sem, numU_self]
    · rw [hp, readW_some]
      simp -implicitDefEqProofs only [go_sem]
      refine vgo_call rfl rfl rfl rfl (c_bytesOk _ _ m hm (by rw [he]; exact h1) σ) ?_
      simp -implicitDefEqProofs only [go_sem]
      refine vgo_call rfl rfl rfl rfl (c_row _ _ _ _ _ _ (by rw [he]; exact hb) σ) ?_
      simp -implicitDefEqProofs only [go_sem, he]
      refine vgo_call rfl rfl rfl rfl (c_four' n σ) ?_
      simp -implicitDefEqProofs only [go_sem]
      refine vgo_call rfl rfl rfl rfl (c_number' _ _ _ (by simp [fourB, lim]) σ) ?_
      simp -implicitDefEqProofs only [go_sem, numU_self]

end Go.VL

/- The law OptsNumbers, over values. Conditions: none. -/
namespace Go.VL
open Go.Proofs

theorem numU_app (l : List UInt8) (n : UInt32) : numU (l ++ fourB n) = n := by
  apply UInt32.toNat_inj.1
  rw [numU_toNat]
  have := n.toNat_lt
  have h : ∀ (l m : List UInt8), valN (l ++ m) = m.foldl (fun acc b => acc * 256 + b.toNat) (valN l) := fun l m => by simp [valN]
  rw [h]
  simp only [fourB, List.foldl_cons, List.foldl_nil, UInt8.toNat_ofNat']
  omega

theorem fourB_lt (a b : UInt32) : strLt ⟨(fourB a).toArray⟩ ⟨(fourB b).toArray⟩ = decide (a.toNat < b.toNat) := by
  unfold strLt
  simp only [ByteArray.toList_eq, fourB]
  have ha := a.toNat_lt
  have hb := b.toNat_lt
  have hbe : ∀ m n : Nat, (UInt8.ofNat m == UInt8.ofNat n) = decide (m % 256 = n % 256) := fun m n => by
    rw [Bool.eq_iff_iff]
    simp only [beq_iff_eq, decide_eq_true_eq, ← UInt8.toNat_inj, UInt8.toNat_ofNat']
  have hlt : ∀ m n : Nat, (decide (UInt8.ofNat m < UInt8.ofNat n)) = decide (m % 256 < n % 256) := fun m n => by
    rw [Bool.eq_iff_iff]
    simp only [decide_eq_true_eq, UInt8.lt_iff_toNat_lt, UInt8.toNat_ofNat']
  simp only [Op.bytesLess, hbe, hlt]
  rw [Bool.eq_iff_iff]
  simp only [Bool.or_eq_true, Bool.and_eq_true, decide_eq_true_eq, Bool.false_eq_true, and_false, or_false]
  have d2 : ∀ n : Nat, n / 65536 = n / 256 / 256 := fun n => by rw [Nat.div_div_eq_div_mul]
  have d3 : ∀ n : Nat, n / 16777216 = n / 256 / 256 / 256 := fun n => by rw [Nat.div_div_eq_div_mul, Nat.div_div_eq_div_mul]
  rw [d2, d2, d3, d3]
  omega

set_option maxRecDepth 20000 in
theorem c_numbers (nl c : Bool) (a b : UInt32) (l : List UInt8) (σ : St) : VCalls Try.prog 6 [.int .u32 a.toNat, .int .u32 b.toNat, .sl nl c 1 (bv l)] σ fun r σ' => r = .bool true ∧ σ' = σ := by
  refine vcalls_intro (C := cfg Try.prog [] [] [35]) (cfg_ok mixed) Try.func6 rfl rfl rfl rfl rfl ?_
  simp -implicitDefEqProofs only [go_sem]
  refine vgo_call rfl rfl rfl rfl (c_shown10 σ) ?_
  simp -implicitDefEqProofs only [go_sem, bv_length]
  rcases Nat.lt_or_ge 100 l.length with h1 | h1
  · have c1 : decide ((100 : Int) < (l.length : Int)) = true := by simp; omega
    simp -implicitDefEqProofs only [go_sem, c1]
  have c1 : decide ((100 : Int) < (l.length : Int)) = false := by simp; omega
  simp -implicitDefEqProofs only [go_sem, c1]
  refine vgo_call rfl rfl rfl rfl (c_four' a σ) ?_
  simp -implicitDefEqProofs only [go_sem]
  refine vgo_call rfl rfl rfl rfl (c_four' b σ) ?_
  have l4 : ∀ n : UInt32, ((fourB n).length : Int) = 4 := fun n => rfl
  simp -implicitDefEqProofs only [go_sem, bv_length, l4]
  have l4' : ∀ n : UInt32, (fourB n).length = 4 := fun n => rfl
  have hcat : bv l ++ bv (fourB a) = bv (l ++ fourB a) := by simp [bv]
  refine ⟨by unfold lim; omega, by omega, by rw [l4']; unfold lim; omega, ?_⟩
  rw [hcat]
  refine vgo_call rfl rfl rfl rfl (c_number' _ _ _ (by simp [l4', lim]; omega) _) ?_
  have e1 : (((numU (l ++ fourB a)).toNat : Int) == (a.toNat : Int)) = true := by rw [numU_app]; simp
  simp -implicitDefEqProofs only [go_sem, e1]
  refine ⟨fourB a, rfl, fourB b, rfl, ?_⟩
  have e2 : (decide (a.toNat < b.toNat) == strLt ⟨(fourB a).toArray⟩ ⟨(fourB b).toArray⟩) = true := by rw [fourB_lt]; simp
  simp -implicitDefEqProofs only [go_sem, e2]
  refine vgo_call rfl rfl rfl rfl (c_number' _ _ _ (by rw [l4']; unfold lim; omega) _) ?_
  simp -implicitDefEqProofs only [go_sem]
  refine vgo_call rfl rfl rfl rfl (c_four' _ _) ?_
  simp -implicitDefEqProofs only [go_sem]
  refine vgo_call rfl rfl rfl rfl (c_row _ _ _ _ _ _ (by rw [l4']; unfold lim; omega) _) ?_
  simp -implicitDefEqProofs only [go_sem, numU_fourB, set_at, List.take_left]

end Go.VL

/- The law OptsJoined, over values. Conditions: none. -/
namespace Go.VL
open Go.Proofs

theorem encL_app (a b : List OV) : encL (a ++ b) = encL a ++ encL b := by simp [encL]

set_option maxRecDepth 20000 in
theorem c_joined (nl c nl' c' : Bool) (a b : List OV) (σ : St) : VCalls Try.prog 4 [.sl nl c 2 (osv a), .sl nl' c' 2 (osv b)] σ fun r σ' => r = .bool true ∧ σ' = σ := by
  refine vcalls_intro (C := cfg Try.prog [] [] [39, 85]) (cfg_ok mixed) Try.func4 rfl rfl rfl rfl rfl ?_
  simp -implicitDefEqProofs only [go_sem]
  refine vgo_call rfl rfl rfl rfl (c_shown10 σ) ?_
  simp -implicitDefEqProofs only [go_sem]
  refine vgo_call rfl rfl rfl rfl (c_few nl c a σ) ?_
  cases hf : few a
  · simp -implicitDefEqProofs only [go_sem]
  simp -implicitDefEqProofs only [go_sem]
  refine vgo_call rfl rfl rfl rfl (c_few nl' c' b σ) ?_
  cases hf' : few b
  · simp -implicitDefEqProofs only [go_sem]
  obtain ⟨hl, hs⟩ := few_small hf
  obtain ⟨hl', hs'⟩ := few_small hf'
  have hsb : ∀ o ∈ a ++ b, o.d.length ≤ 253 := fun o ho => by
    rcases List.mem_append.1 ho with h | h
    · exact hs o h
    · exact hs' o h
  have hcat : osv a ++ osv b = osv (a ++ b) := by simp [osv]
  have hle : (encL (a ++ b)).length = (encL a).length + (encL b).length := by rw [encL_app, List.length_append]
  have hlab : (a ++ b).length ≤ 60 := by rw [List.length_append]; omega
  simp -implicitDefEqProofs only [go_sem]
  rcases Nat.lt_or_ge 1496 (encL a).length with h1 | h1
  · refine vgo_call rfl rfl rfl rfl (c_bytesLong nl c a (by omega) hs h1 σ) ?_
    simp -implicitDefEqProofs only [go_sem]
    rcases Nat.lt_or_ge 1496 (encL b).length with h2 | h2
    · refine vgo_call rfl rfl rfl rfl (c_bytesLong nl' c' b (by omega) hs' h2 σ) ?_
      simp -implicitDefEqProofs only [go_sem, osv_length, hcat]
      refine ⟨by unfold lim; omega, by omega, by unfold lim; omega, ?_⟩
      refine vgo_call rfl rfl rfl rfl (c_bytesLong _ _ (a ++ b) (by omega) hsb (by omega) _) ?_
      simp -implicitDefEqProofs only [go_sem, Int.cast_ofNat_Int, List.take_left]
    · refine vgo_call rfl rfl rfl rfl (c_bytesOk nl' c' b hs' h2 σ) ?_
      simp -implicitDefEqProofs only [go_sem, osv_length, hcat]
      refine ⟨by unfold lim; omega, by omega, by unfold lim; omega, ?_⟩
      refine vgo_call rfl rfl rfl rfl (c_bytesLong _ _ (a ++ b) (by omega) hsb (by omega) _) ?_
      simp -implicitDefEqProofs only [go_sem, Int.cast_ofNat_Int, List.take_left]
  · refine vgo_call rfl rfl rfl rfl (c_bytesOk nl c a hs h1 σ) ?_
    simp -implicitDefEqProofs only [go_sem]
    rcases Nat.lt_or_ge 1496 (encL b).length with h2 | h2
    · refine vgo_call rfl rfl rfl rfl (c_bytesLong nl' c' b (by omega) hs' h2 σ) ?_
      simp -implicitDefEqProofs only [go_sem, osv_length, hcat]
      refine ⟨by unfold lim; omega, by omega, by unfold lim; omega, ?_⟩
      refine vgo_call rfl rfl rfl rfl (c_bytesLong _ _ (a ++ b) (by omega) hsb (by omega) _) ?_
      simp -implicitDefEqProofs only [go_sem, Int.cast_ofNat_Int, List.take_left]
    · refine vgo_call rfl rfl rfl rfl (c_bytesOk nl' c' b hs' h2 σ) ?_
      simp -implicitDefEqProofs only [go_sem, osv_length, hcat]
      refine ⟨by unfold lim; omega, by omega, by unfold lim; omega, ?_⟩
      have hw : IntKind.i64.wrap (((encL a).length : Int) + ((encL b).length : Int)) = (((encL (a ++ b)).length : Nat) : Int) := by
        rw [hle, wrap_ok (by omega) (by omega)]; omega
      rcases Nat.lt_or_ge 1496 (encL (a ++ b)).length with h3 | h3
      · refine vgo_call rfl rfl rfl rfl (c_bytesLong _ _ (a ++ b) (by omega) hsb h3 _) ?_
        have c1 : decide ((1496 : Int) < ((encL (a ++ b)).length : Int)) = true := by simp; omega
        simp -implicitDefEqProofs only [go_sem, Int.cast_ofNat_Int, List.take_left, bv_length, hw, c1]
      · refine vgo_call rfl rfl rfl rfl (c_bytesOk _ _ (a ++ b) hsb h3 _) ?_
        have c1 : decide ((1496 : Int) < ((encL (a ++ b)).length : Int)) = false := by simp; omega
        simp -implicitDefEqProofs only [go_sem, bv_length, hw, c1]
        refine vgo_call rfl rfl rfl ?_ (c_readE _ _ (a ++ b) hsb (by unfold lim; omega) _) ?_
        · exact isVal_readW _
        rw [readW_some]
        simp -implicitDefEqProofs only [go_sem, bv_length]
        have hcb : bv (encL a) ++ bv (encL b) = bv (encL (a ++ b)) := by rw [encL_app]; simp [bv]
        refine ⟨by unfold lim; omega, by omega, by unfold lim; omega, ?_⟩
        rw [hcb]
        refine vgo_call rfl rfl rfl rfl (c_row _ _ _ _ _ _ (by unfold lim; omega) _) ?_
        simp -implicitDefEqProofs only [go_sem]
        refine vgo_call rfl rfl rfl rfl (c_same _ _ _ _ _ _ (by simp; unfold lim; omega) (fun o ho => ?_) _) ?_
        · obtain ⟨q, hq, rfl⟩ := List.mem_map.1 ho
          have := hsb q hq
          show q.d.length ≤ lim
          unfold lim; omega
        have hsn : ∀ nl, same ((a ++ b).map (normO nl)) (a ++ b) = true := fun nl => by
          generalize a ++ b = l
          induction l with
          | nil => rfl
          | cons o l ih => simp [same, ih, eqO, normO]
        simp -implicitDefEqProofs only [go_sem, hsn, List.take_left, List.append_assoc]

end Go.VL

/- The law OptsDrops, over values. Conditions: none. -/
namespace Go.VL
open Go.Proofs

theorem dropO_nil (t : UInt8) : dropO [] t = [] := rfl
theorem c_dropN (nl c : Bool) (l : List OV) (t : UInt8) (hl : l.length < lim) (hn : nl = true → l = []) (σ : St) : VCalls Try.prog 21 [.sl nl c 2 (osv l), .int .u8 t.toNat] σ fun r σ' => r = .sl nl false 2 (osv (dropO l t)) ∧ σ' = σ :=
  (c_drop nl c l t hl σ).mono fun r σ' h => ⟨h.1.trans (by
    cases nl
    · rfl
    · rw [hn rfl]; rfl), h.2⟩

theorem eqOr (o : OV) : eqO o o = true := by simp [eqO]
theorem sameR : ∀ l : List OV, same l l = true
  | [] => rfl
  | o :: l => by simp [same, eqOr, sameR l]
theorem dropO_comm (l : List OV) (s t : UInt8) : dropO (dropO l s) t = dropO (dropO l t) s := by
  unfold dropO
  rw [List.filter_filter, List.filter_filter]
  congr 1
  funext o
  exact Bool.and_comm _ _
theorem dropO_mem {l : List OV} {t : UInt8} {o : OV} (h : o ∈ dropO l t) : o ∈ l ∧ (o.t == t) = false := by
  unfold dropO at h
  rw [List.mem_filter] at h
  exact ⟨h.1, by simpa using h.2⟩
theorem dropO_len (l : List OV) (t : UInt8) : (dropO l t).length ≤ l.length := List.length_filter_le _ _
theorem putO_drop (l : List OV) (o : OV) : putO (dropO l o.t) o = dropO l o.t ++ [o] := putO_none (by
  unfold noneO
  rw [List.all_eq_true]
  intro x hx
  show (!(x.t == o.t)) = true
  rw [(dropO_mem hx).2]
  rfl)
theorem dropO_put (l : List OV) (o : OV) : dropO (dropO l o.t ++ [o]) o.t = dropO l o.t := by
  have h : (dropO l o.t).filter (fun x => x.t != o.t) = dropO l o.t := List.filter_eq_self.2 fun x hx => by
    have := (dropO_mem hx).2
    simpa using this
  unfold dropO at h ⊢
  rw [List.filter_append, h]
  simp

set_option maxRecDepth 20000 in
theorem c_drops (nl c : Bool) (l : List OV) (s t : UInt8) (o : OV) (hn : nl = true → l = []) (σ : St) : VCalls Try.prog 5 [.agg [.sl nl c 2 (osv l), .int .u8 s.toNat, .int .u8 t.toNat, .int .u8 o.t.toNat, .sl o.nl o.c 1 (bv o.d)]] σ fun r σ' => r = .bool true ∧ σ' = σ := by
  refine vcalls_intro (C := cfg Try.prog [] [] []) (cfg_ok mixed) Try.func5 rfl rfl rfl rfl rfl ?_
  simp -implicitDefEqProofs only [go_sem]
  refine vgo_call rfl rfl rfl rfl (c_shown10 σ) ?_
  simp -implicitDefEqProofs only [go_sem]
  refine vgo_call rfl rfl rfl rfl (c_few nl c l σ) ?_
  cases hf : few l
  · simp -implicitDefEqProofs only [go_sem]
  simp -implicitDefEqProofs only [go_sem, bv_length]
  rcases Nat.lt_or_ge 253 o.d.length with h1 | h1
  · have c1 : decide ((253 : Int) < (o.d.length : Int)) = true := by simp; omega
    simp -implicitDefEqProofs only [go_sem, c1]
  have c1 : decide ((253 : Int) < (o.d.length : Int)) = false := by simp; omega
  obtain ⟨hl, hs⟩ := few_small hf
  simp -implicitDefEqProofs only [go_sem, c1]
  have hd : ∀ t, (dropO l t).length < lim := fun t => by have := dropO_len l t; unfold lim; omega
  have hn1 : ∀ t, nl = true → dropO l t = [] := fun t h => by rw [hn h]; rfl
  refine vgo_call rfl rfl rfl rfl (c_dropN nl c l s (by unfold lim; omega) hn σ) ?_
  simp -implicitDefEqProofs only [go_sem]
  refine vgo_call rfl rfl rfl rfl (c_dropN nl false _ t (hd s) (hn1 s) σ) ?_
  simp -implicitDefEqProofs only [go_sem]
  refine vgo_call rfl rfl rfl rfl (c_dropN nl c l t (by unfold lim; omega) hn σ) ?_
  simp -implicitDefEqProofs only [go_sem]
  refine vgo_call rfl rfl rfl rfl (c_dropN nl false _ s (hd t) (hn1 t) σ) ?_
  simp -implicitDefEqProofs only [go_sem]
  refine w_walk2 [] [0, 1, 2, 3, 4, 5, 6] [42, 43, 44, 45, 46, 47, 10] [0, 0, 2, 7, 0, 31, 63] rfl rfl rfl rfl ?_
  simp -implicitDefEqProofs only [go_sem]
  refine vdgo_call rfl rfl rfl rfl (c_dropN nl c l o.t (by unfold lim; omega) hn σ) ?_
  simp -implicitDefEqProofs only [go_sem]
  refine vdgo_call rfl rfl rfl rfl (c_put nl false _ o (hd o.t) σ) ?_
  simp -implicitDefEqProofs only [go_sem]
  rw [putO_drop]
  have hdt := hd o.t
  have hmem : ∀ x ∈ dropO l o.t, (x.t == o.t) = false := fun x hx => (dropO_mem hx).2
  have hdp := dropO_put l o
  have hdl := dropO_len l o.t
  have hds : ∀ x ∈ dropO l o.t, x.d.length ≤ lim := fun x hx => by have := hs x (dropO_mem hx).1; unfold lim; omega
  unfold lim at hdt
  generalize hdd : dropO l o.t = d at hdt hmem hdp hdl hds
  have hpl : (d ++ [o]).length = d.length + 1 := by simp
  refine w_loop (fun i => i ≤ d.length + 1) (fun i => [(12, .int .i64 i), (11, .int .i64 (bif Nat.ble i d.length then 0 else 1)), (10, .sl false false 2 (osv (d ++ [o]))), (6, .cell [.int .u8 o.t.toNat, .sl o.nl o.c 1 (bv o.d)]), (7, .bool true),
    (8, .sl nl false 2 (osv (dropO (dropO l s) t))), (9, .sl nl false 2 (osv (dropO (dropO l t) s))), (3, .sl nl c 2 (osv l))]) (fun _ => σ) (fun i => d.length + 1 - i) 0 (Nat.zero_le _) ?_ rfl ?_
  · simp -implicitDefEqProofs only [go_sem]
    exact ⟨rfl, rfl⟩
  intro i hi
  rcases Nat.lt_or_ge i (d.length + 1) with h | h
  · have hi1 : i < (d ++ [o]).length := by omega
    have hlt : decide (i < (d ++ [o]).length) = true := by simp; omega
    have hw : IntKind.i64.wrap ((i : Int) + 1) = ((i + 1 : Nat) : Int) := wrap_ok (by omega) (by omega)
    simp -implicitDefEqProofs only [go_sem, osv_length, hlt]
    refine w_walk2 [] [0, 1, 2, 3, 4, 5, 6, 7] [54, 55, 56, 57, 58, 59, 60, 61] [0, 0, 3, 7, 15, 0, 32, 127] rfl rfl rfl rfl ?_
    simp -implicitDefEqProofs only [go_sem, osv_length, hi1, ov_getD hi1, toNat_beq]
    rcases Nat.lt_or_ge i d.length with h2 | h2
    · have e1 : ((d ++ [o])[i].t == o.t) = false := by
        rw [List.getElem_append_left h2]
        exact hmem _ (List.getElem_mem h2)
      have b1 : Nat.ble i d.length = true := Nat.ble_eq_true_of_le (by omega)
      have b2 : Nat.ble (i + 1) d.length = true := Nat.ble_eq_true_of_le (by omega)
      simp -implicitDefEqProofs only [go_sem, e1]
      refine l_next (i + 1) (by omega) (by omega) ?_ rfl
      simp -implicitDefEqProofs only [go_sem, hw, b1, b2]
    · have hid : i = d.length := by omega
      subst hid
      have e1 : ((d ++ [o])[d.length].t == o.t) = true := by simp
      have b1 : Nat.ble d.length d.length = true := Nat.ble_eq_true_of_le (by omega)
      have b2 : Nat.ble (d.length + 1) d.length = false := by
        cases hb : Nat.ble (d.length + 1) d.length with
        | false => rfl
        | true => have := Nat.le_of_ble_eq_true hb; omega
      have hw1 : IntKind.i64.wrap 1 = 1 := rfl
      simp -implicitDefEqProofs only [go_sem, e1, b1]
      refine l_next (d.length + 1) (by omega) (by omega) ?_ rfl
      simp -implicitDefEqProofs only [go_sem, hw, b2, hw1]
  · have hid : i = d.length + 1 := by omega
    subst hid
    have b2 : Nat.ble (d.length + 1) d.length = false := by
      cases hb : Nat.ble (d.length + 1) d.length with
      | false => rfl
      | true => have := Nat.le_of_ble_eq_true hb; omega
    have hlt : decide (d.length + 1 < (d ++ [o]).length) = false := by simp
    simp -implicitDefEqProofs only [go_sem, osv_length, hlt, b2]
    refine l_exit ?_
    simp -implicitDefEqProofs only [go_sem]
    refine w_walk2 [] [0, 1, 2, 3, 4, 5, 6, 7, 8, 9, 10, 11, 12, 13, 14, 15, 16, 17, 18, 19, 20, 21, 22, 23, 24, 25, 26, 27, 28, 29, 30, 31, 32, 33, 34, 35, 36] [64, 65, 66, 67, 68, 69, 70, 71, 72, 73, 74, 75, 76, 77, 78, 79, 80, 81, 82, 83, 84, 85, 86, 87, 88, 89, 90, 91, 92, 93, 94, 95, 96, 97, 98, 99, 2] [0, 1, 3, 3, 15, 31, 63, 127, 255, 511, 1023, 2047, 4095, 8191, 16383, 32767, 65535, 65535, 196607, 458751, 1048575, 2097151, 65535, 8388607, 16777215, 33554431, 67108863, 67108863, 201326591, 536870911, 67108863, 67108863, 2214592511, 8589934591, 17179869183, 34359738367, 68719476735] rfl rfl rfl rfl ?_
    simp -implicitDefEqProofs only [go_sem]
    have hss : ∀ x ∈ dropO (dropO l s) t, x.d.length ≤ lim := fun x hx => by have := hs x (dropO_mem (dropO_mem hx).1).1; unfold lim; omega
    refine vdgo_call rfl rfl rfl rfl (c_same _ _ _ _ _ _ (by have := dropO_len (dropO l s) t; have := dropO_len l s; unfold lim; omega) hss σ) ?_
    have hsm : same (dropO (dropO l s) t) (dropO (dropO l t) s) = true := by rw [dropO_comm]; exact sameR _
    have hp1 : ((0 : Int) < ((d ++ [o]).length : Int)) = True := by simp
    have hw2 : IntKind.i64.wrap (((d ++ [o]).length : Int) - 1) = (d.length : Int) := by
      rw [hpl, show (((d.length + 1 : Nat) : Int) - 1) = (d.length : Int) by omega]
      exact wrap_ok (by omega) (by omega)
    have hlp : d.length < (d ++ [o]).length := by omega
    have hge : (osv (d ++ [o])).getD d.length .undef = ov o := by rw [osv_getD hlp]; simp
    simp -implicitDefEqProofs only [go_sem, hsm, osv_length, hp1, hw2, hlp, hge, ov]
    refine vdgo_call rfl rfl rfl rfl (c_one o o (by unfold lim; omega) σ) ?_
    simp -implicitDefEqProofs only [go_sem, eqOr]
    refine vdgo_call rfl rfl rfl rfl (c_drop false false (d ++ [o]) o.t (by unfold lim; omega) σ) ?_
    rw [hdp]
    simp -implicitDefEqProofs only [go_sem, copyV]
    refine vdgo_call rfl rfl rfl rfl (c_dropN nl c l o.t (by unfold lim; omega) hn σ) ?_
    rw [hdd]
    simp -implicitDefEqProofs only [go_sem]
    refine vdgo_call rfl rfl rfl rfl (c_same _ _ _ _ _ _ (by unfold lim; omega) hds σ) ?_
    simp -implicitDefEqProofs only [go_sem, sameR]

end Go.VL
