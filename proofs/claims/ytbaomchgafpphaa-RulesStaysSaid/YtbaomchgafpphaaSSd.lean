/- Contracts of this program's functions over values, joined texts. Conditions: none. -/
import Derived.Test.YtbaomchgafpphaaSSc
set_option linter.unusedVariables false
set_option linter.unusedSimpArgs false
/- The law RulesAddress, over values. Conditions: none. -/
namespace Go.VL
open Go.Proofs

theorem filter_nil {p : OV → Bool} {l : List OV} (h : (l.filter p).isEmpty = true) {o : OV} (ho : o ∈ l) : p o = false := by
  rw [List.isEmpty_iff, List.filter_eq_nil_iff] at h
  have := h o ho
  simpa using this

/-- Where all is agreed to, nothing is odd, and nothing should be otherwise. -/
theorem ansP_ack {r : RV} {l : List OV} {naks : Int} (h : (ansP r l naks).1 = 2) : (∀ o ∈ l, isK r o = true ∧ notO r o = false) ∧ (r.ip = true → l = [] → 3 ≤ naks) := by
  unfold ansP at h
  cases h1 : (refL r l (decide (3 ≤ naks))).isEmpty
  · rw [h1] at h; simp at h
  · rw [h1] at h
    simp only [Bool.not_true, cond_false] at h
    have hodd : (oddL r l).isEmpty = true := by
      unfold refL at h1
      cases hb : (decide (3 ≤ naks) && (oddL r l).isEmpty)
      · rw [hb] at h1; exact h1
      · simp only [Bool.and_eq_true] at hb; exact hb.2
    have has : (asL r l).isEmpty = true := by
      unfold refL at h1
      rw [hodd, Bool.and_true] at h1
      cases hb : decide (3 ≤ naks)
      · rw [hb] at h
        cases ht : (toL r l).isEmpty
        · rw [ht] at h; simp at h
        · unfold toL at ht
          rw [List.isEmpty_iff, List.append_eq_nil_iff, List.map_eq_nil_iff] at ht
          rw [ht.1]; rfl
      · rw [hb] at h1; exact h1
    refine ⟨fun o ho => ?_, fun hi hl => ?_⟩
    · have q1 := filter_nil hodd ho
      have q2 := filter_nil has ho
      simp only [Bool.not_eq_false'] at q1
      rw [q1, Bool.true_and] at q2
      exact ⟨q1, q2⟩
    · subst hl
      cases hb : decide (3 ≤ naks)
      · rw [hb] at h
        unfold toL at h
        rw [hi] at h
        simp [asL] at h
      · simpa using hb

theorem ansP_code (r : RV) (l : List OV) (naks : Int) : (ansP r l naks).1 = 2 ∨ (ansP r l naks).1 = 3 ∨ (ansP r l naks).1 = 4 := by
  unfold ansP
  cases !(refL r l (decide (3 ≤ naks))).isEmpty
  · cases !decide (3 ≤ naks) && !(toL r l).isEmpty
    · exact .inl rfl
    · exact .inr (.inl rfl)
  · exact .inr (.inr rfl)

theorem not_facts {r : RV} {o : OV} (hk : isK r o = true) (hn : notO r o = false) : (r.ip = true → (numU o.d != r.addr) = false) ∧ (r.ip = false → (o.t == 5) = true → (numU o.d == 0) = false ∧ (numU o.d == r.magic) = false) ∧ (r.ip = false → (o.t == 1) = true → decide (numU o.d < 64) = false) := by
  unfold isK at hk
  unfold notO at hn
  refine ⟨fun hi => ?_, fun hi ht => ?_, fun hi ht => ?_⟩
  · unfold kOf at hk hn
    rw [hi] at hk hn
    simp only [cond_true] at hk hn
    cases h3 : o.t == 3
    · rw [h3] at hk; cases hk
    · rw [h3] at hn; exact hn
  · have e : o.t = 5 := by simpa using ht
    unfold kOf at hn
    rw [hi, e] at hn
    have hn' : (numU o.d == 0 || numU o.d == r.magic) = false := hn
    simpa using hn'
  · have e : o.t = 1 := by simpa using ht
    unfold kOf at hn
    rw [hi, e] at hn
    exact hn

theorem ansV_form (nl c : Bool) (x : UInt8 × List OV) : ∃ nl' c', ansV nl c x = .tup [.int .u8 x.1.toNat, .sl nl' c' 2 (osv x.2)] := by
  unfold ansV
  cases x.1 == 2
  · exact ⟨false, false, rfl⟩
  · exact ⟨nl, c, rfl⟩
theorem toNat_bne2 (a : UInt8) : ((a.toNat : Int) != 2) = (a != 2) := toNat_bne a 2
theorem toNat_beq2 (a : UInt8) : ((a.toNat : Int) == 2) = (a == 2) := toNat_beq a 2
theorem toNat_beq3 (a : UInt8) : ((a.toNat : Int) == 3) = (a == 3) := toNat_beq a 3
theorem toNat_beq5 (a : UInt8) : ((a.toNat : Int) == 5) = (a == 5) := toNat_beq a 5
theorem toNat_beq1 (a : UInt8) : ((a.toNat : Int) == 1) = (a == 1) := toNat_beq a 1

set_option maxHeartbeats 4000000 in
set_option maxRecDepth 20000 in
theorem c_rulesAddress (r : RV) (nl c : Bool) (l : List OV) (naks : Int) (σ : St) : VCalls Try.prog 9 [rv r, .sl nl c 2 (osv l), .int .i64 naks] σ fun x σ' => x = .bool true ∧ σ' = σ := by
  refine vcalls_intro (C := cfg Try.prog [] [] []) (cfg_ok mixed) Try.func9 rfl rfl rfl rfl rfl ?_
  simp only [go_sem, rv, rvC]
  refine vgo_call rfl rfl rfl rfl (c_shown13 σ) ?_
  simp only [go_sem]
  refine vgo_call rfl rfl rfl rfl (c_few nl c l σ) ?_
  cases hf : few l
  · simp only [go_sem]
  · obtain ⟨hl, hd⟩ := few_small hf
    have hl30 := (few_spec hf).1
    simp only [go_sem]
    refine vgo_call rfl rfl rfl rfl (c_answer r nl c l naks hl hd σ) ?_
    obtain ⟨nl', c', hw⟩ := ansV_form nl c (ansP r l naks)
    simp only [hw, go_sem, toNat_bne2]
    cases hc : (ansP r l naks).1 != 2
    · have hc2 : (ansP r l naks).1 = 2 := by simpa using hc
      obtain ⟨hall, hip⟩ := ansP_ack hc2
      simp only [go_sem]
      refine w_loop (fun i => i ≤ l.length) (fun i => [(10, .int .i64 i), (1, .sl nl c 2 (osv l)), (2, .int .i64 naks), (3, .ip (rvC r)), (7, .bool true)]) (fun _ => σ) (fun i => l.length - i) 0 (Nat.zero_le _) ?_ rfl ?_
      · simp only [go_sem, rvC]
        rfl
      intro i hi
      rcases Nat.lt_or_ge i l.length with h | h
      · have hw : IntKind.i64.wrap ((i : Int) + 1) = ((i + 1 : Nat) : Int) := wrap_ok (by omega) (by omega)
        obtain ⟨hk, hno⟩ := hall l[i] (List.getElem_mem h)
        obtain ⟨f1, f2, f3⟩ := not_facts hk hno
        simp only [go_sem, osv_length, h, ov_getD h, rvC]
        refine vgo_call rfl rfl rfl rfl (c_rnumber' _ _ _ (hd _ (List.getElem_mem h)) σ) ?_
        simp only [go_sem]
        refine w_walk2 [] [0, 1, 2, 3, 4, 5, 6, 7, 8, 9, 10, 11, 12, 13, 14, 15, 16, 17, 18, 19, 20, 21, 22, 23, 24, 25, 26, 27, 28, 29, 30, 31, 32, 33, 34, 35, 36, 37, 38, 39, 40, 41, 42, 43, 44, 45, 46, 47, 48, 49, 50, 51, 52, 53, 54, 55, 56, 57] [47, 48, 49, 50, 51, 52, 53, 54, 55, 56, 57, 58, 59, 60, 61, 62, 63, 64, 65, 66, 67, 68, 69, 70, 71, 72, 73, 74, 75, 76, 77, 78, 79, 80, 81, 82, 83, 84, 85, 86, 87, 88, 89, 90, 91, 92, 93, 94, 95, 96, 97, 98, 99, 100, 101, 102, 103, 104] [0, 1, 0, 0, 12, 28, 63, 127, 255, 511, 1023, 2047, 4095, 4095, 12287, 32767, 65535, 131071, 262143, 524287, 1048575, 2097151, 4194303, 8388607, 8388607, 33554431, 67108863, 134217727, 268435455, 536870911, 1073741823, 2147483647, 4294967295, 8589934591, 17179869183, 17179869183, 51539607551, 137438953471, 274877906943, 549755813887, 1099511627775, 2199023255551, 4398046511103, 8796093022207, 17592186044415, 35184372088831, 70368744177663, 70368744177663, 281474976710655, 562949953421311, 1125899906842623, 2251799813685247, 4503599627370495, 9007199254740991, 18014398509481983, 36028797018963967, 72057594037927935, 144115188075855871] rfl rfl rfl rfl ?_
        simp only [go_sem, osv_length, h, ov_getD h]
        refine vdgo_call rfl rfl rfl rfl (c_known r.ip l[i] _) ?_
        rw [← isK_known, hk]
        cases hi : r.ip
        · simp only [go_sem, osv_length, h, ov_getD h, toNat_beq5]
          cases h5 : l[i].t == 5
          · simp only [go_sem, osv_length, h, ov_getD h, toNat_beq1]
            cases h1 : l[i].t == 1
            · simp only [go_sem]
              refine l_next (i + 1) h (by omega) ?_ rfl
              simp only [go_sem, hw, rvC, hi]
            · simp only [go_sem, toNat32_lt64, f3 hi h1]
              refine l_next (i + 1) h (by omega) ?_ rfl
              simp only [go_sem, hw, rvC, hi]
          · have h1 : (l[i].t == 1) = false := by
              have e : l[i].t = 5 := by simpa using h5
              rw [e]; rfl
            simp only [go_sem, toNat32_beq0, toNat32_beq, (f2 hi h5).1, (f2 hi h5).2, osv_length, h, ov_getD h, toNat_beq1, h1]
            refine l_next (i + 1) h (by omega) ?_ rfl
            simp only [go_sem, hw, rvC, hi]
        · simp only [go_sem, toNat32_bne, f1 hi]
          refine l_next (i + 1) h (by omega) ?_ rfl
          simp only [go_sem, hw, rvC, hi]
      · have hn : ¬ (i < l.length) := by omega
        simp only [go_sem, osv_length, hn]
        refine l_exit ?_
        cases hi : r.ip
        · simp only [go_sem, rvC, hi]
        · simp only [go_sem, rvC, hi, osv_length, pos_len]
          cases he : l.isEmpty
          · simp only [go_sem]
          · have hb : (3 ≤ naks) = True := eq_true (hip hi (List.isEmpty_iff.1 he))
            simp only [go_sem, hb]
    · have h34 : (ansP r l naks).1 = 3 ∨ (ansP r l naks).1 = 4 := (ansP_code r l naks).resolve_left (by simpa using hc)
      simp only [go_sem, toNat_beq3]
      rcases h34 with h34 | h34
      · have e : ((ansP r l naks).1 == 3) = true := by rw [h34]; rfl
        simp only [go_sem, e]
      · have e : ((ansP r l naks).1 == 3) = false := by rw [h34]; rfl
        have e' : ((ansP r l naks).1 == 4) = true := by rw [h34]; rfl
        simp only [go_sem, e, toNat_beq4, e']

end Go.VL

/- The law RulesAsk, over values. Conditions: none. -/
namespace Go.VL
open Go.Proofs

/-- Where nothing is odd, and nothing should be otherwise, all is agreed to. -/
theorem ansP_of_ok {r : RV} {l : List OV} {naks : Int} (h : ∀ o ∈ l, isK r o = true ∧ notO r o = false) (hi : r.ip = true → 3 ≤ naks ∨ (l.find? (knownB true)).isSome = true) : ansP r l naks = (2, l) := by
  have hodd : oddL r l = [] := List.filter_eq_nil_iff.2 fun o ho => by rw [(h o ho).1]; simp
  have has : asL r l = [] := List.filter_eq_nil_iff.2 fun o ho => by rw [(h o ho).2]; simp
  have href : refL r l (decide (3 ≤ naks)) = [] := by
    unfold refL
    rw [hodd, has]
    cases decide (3 ≤ naks) <;> rfl
  unfold ansP
  rw [href]
  simp only [List.isEmpty_nil, Bool.not_true, cond_false]
  cases hb : decide (3 ≤ naks)
  · have hto : toL r l = [] := by
      unfold toL
      rw [has]
      cases hp : r.ip
      · rfl
      · rcases hi hp with hq | hq
        · rw [decide_eq_true hq] at hb; cases hb
        · cases hf : l.find? (knownB true) with
          | none => rw [hf] at hq; cases hq
          | some o => rfl
    rw [hto]
    rfl
  · rfl

theorem isK_addr (n m : UInt32) : isK ⟨true, 0, 0, m, 0⟩ (numO 3 4 n) = true := rfl
theorem notO_addr (n : UInt32) : notO ⟨true, 0, 0, n, 0⟩ (numO 3 4 n) = false := by
  show (numU (fourB n) != n) = false
  rw [numU_fourB]
  simp
theorem sh_askIp (r : RV) (hi : r.ip = true) : rAsk r = [numO 3 4 r.ours] := by unfold rAsk; rw [hi]; rfl
def authO : OV := { t := 3, nl := false, c := true, d := [194, 35, 5] }
theorem sh_askLcp (r : RV) (hi : r.ip = false) : rAsk r = [authO, numO 5 4 r.magic] := by unfold rAsk; rw [hi]; rfl
theorem drop_ask (n : UInt32) : dropO [authO, numO 5 4 n] 3 = [numO 5 4 n] := rfl
theorem find_ask (n : UInt32) : findO [authO, numO 5 4 n] 3 = some authO := rfl
theorem numO_small (t : UInt8) (k : Nat) (n : UInt32) : smallD [numO t k n] := by
  intro o h
  simp at h
  subst h
  simp [numO, fourB, lim]
  omega

theorem ansP_magic (m o : UInt32) : ansP ⟨false, o, 9, 0, 0⟩ [numO 5 4 m] 0 = bif m != o && m != 0 then (2, [numO 5 4 m]) else (3, [numO 5 4 9]) := by
  have hk : isK ⟨false, o, 9, 0, 0⟩ (numO 5 4 m) = true := rfl
  have hn : notO ⟨false, o, 9, 0, 0⟩ (numO 5 4 m) = (m == 0 || m == o) := by
    show (numU (fourB m) == 0 || numU (fourB m) == o) = _
    rw [numU_fourB]
  cases hb : (m == 0 || m == o)
  · have e : (m != o && m != 0) = true := by
      simp only [bne]
      simp only [Bool.or_eq_false_iff] at hb
      rw [hb.1, hb.2]; rfl
    rw [e]
    exact ansP_of_ok (fun x hx => by simp at hx; subst hx; exact ⟨hk, by rw [hn, hb]⟩) fun h => by cases h
  · have e : (m != o && m != 0) = false := by
      simp only [bne]
      rcases Bool.or_eq_true_iff.1 hb with h | h <;> rw [h] <;> simp
    rw [e]
    rw [hb] at hn
    have hodd : oddL ⟨false, o, 9, 0, 0⟩ [numO 5 4 m] = [] := by simp [oddL, hk]
    have has : asL ⟨false, o, 9, 0, 0⟩ [numO 5 4 m] = [numO 5 4 m] := by simp [asL, hk, hn]
    have hto : toL ⟨false, o, 9, 0, 0⟩ [numO 5 4 m] = [numO 5 4 9] := by unfold toL; rw [has]; rfl
    have href : refL ⟨false, o, 9, 0, 0⟩ [numO 5 4 m] (decide ((3 : Int) ≤ 0)) = [] := by unfold refL; rw [hodd]; rfl
    unfold ansP
    rw [href, hto]
    rfl

set_option maxHeartbeats 4000000 in
set_option maxRecDepth 20000 in
theorem c_rulesAsk (r : RV) (other : UInt32) (σ : St) : VCalls Try.prog 11 [rv r, .int .u32 other.toNat] σ fun x σ' => x = .bool true ∧ σ' = σ := by
  refine vcalls_intro (C := cfg Try.prog [] [] []) (cfg_ok mixed) Try.func11 rfl rfl rfl rfl rfl ?_
  simp only [go_sem, rv, rvC]
  refine vgo_call rfl rfl rfl rfl (c_shown13 σ) ?_
  simp only [go_sem]
  refine vgo_call rfl rfl rfl rfl (c_ask r σ) ?_
  cases hi : r.ip
  · have ha := sh_askLcp r hi
    simp only [go_sem, ha]
    refine vgo_call rfl rfl rfl rfl (c_rfind false true [authO, numO 5 4 r.magic] 3 (by simp [lim]) σ) ?_
    simp only [go_sem, find_ask, resO, ov]
    refine vgo_call rfl rfl rfl rfl (c_rdrop false true [authO, numO 5 4 r.magic] 3 (by simp [lim]) σ) ?_
    simp only [go_sem, drop_ask, rowO]
    refine vgo_call rfl rfl rfl rfl (c_answer ⟨false, other, 9, 0, 0⟩ false false [numO 5 4 r.magic] 0 (by simp [lim]) (numO_small _ _ _) σ) ?_
    rw [ansP_magic]
    cases hg : (r.magic != other && r.magic != 0)
    · have e : ansV false false (3, [numO 5 4 9]) = .tup [.int .u8 3, .sl false false 2 (osv [numO 5 4 9])] := rfl
      have e1 : (bv authO.d).length = 3 := rfl
      have hq : numU (numO 5 4 9).d = 9 := numU_fourB 9
      have eo : (osv [numO 5 4 9]).getD 0 .undef = .agg [.int .u8 5, .sl false true 1 (bv (fourB 9))] := rfl
      have e9 : ((9 : UInt32).toNat : Int) = 9 := rfl
      cases hg1 : r.magic != other
      · simp only [go_sem, e, osv_length, e1, Int.cast_ofNat_Int, toNat32_bne, eo, hg1]
        refine vgo_call rfl rfl rfl rfl (c_rnumber' false true (fourB 9) (by simp [fourB_length, lim]) σ) ?_
        rw [numU_fourB]
        simp only [e9, go_sem]
      · rw [hg1, Bool.true_and] at hg
        have hz : ((r.magic.toNat : Int) != 0) = (r.magic != 0) := toNat32_bne r.magic 0
        simp only [go_sem, e, osv_length, e1, Int.cast_ofNat_Int, toNat32_bne, eo, hg1, hz, hg]
        refine vgo_call rfl rfl rfl rfl (c_rnumber' false true (fourB 9) (by simp [fourB_length, lim]) σ) ?_
        rw [numU_fourB]
        simp only [e9, go_sem]
    · have e : ansV false false (2, [numO 5 4 r.magic]) = .tup [.int .u8 2, .sl false false 2 (osv [numO 5 4 r.magic])] := rfl
      have e1 : (bv authO.d).length = 3 := rfl
      simp only [Bool.and_eq_true] at hg
      have hz : ((r.magic.toNat : Int) != 0) = (r.magic != 0) := toNat32_bne r.magic 0
      simp only [go_sem, e, osv_length, e1, Int.cast_ofNat_Int, toNat32_bne, hg.1, hz, hg.2]
  · have ha := sh_askIp r hi
    have hf : [numO 3 4 r.ours].find? (knownB true) = some (numO 3 4 r.ours) := rfl
    have hnum : numU (numO 3 4 r.ours).d = r.ours := numU_fourB r.ours
    have hans : ansP ⟨true, 0, 0, r.ours, 0⟩ [numO 3 4 r.ours] 0 = (2, [numO 3 4 r.ours]) := ansP_of_ok (fun x hx => by simp at hx; subst hx; exact ⟨isK_addr _ _, notO_addr _⟩) fun _ => .inr rfl
    have e : ansV false true (2, [numO 3 4 r.ours]) = .tup [.int .u8 2, .sl false true 2 (osv [numO 3 4 r.ours])] := rfl
    simp only [go_sem, ha]
    refine vgo_call rfl rfl rfl rfl (c_address false true [numO 3 4 r.ours] (by simp [lim]) (numO_small _ _ _) σ) ?_
    simp only [go_sem, hf, numV, hnum]
    refine vgo_call rfl rfl rfl rfl (c_answer ⟨true, 0, 0, r.ours, 0⟩ false true [numO 3 4 r.ours] 0 (by simp [lim]) (numO_small _ _ _) σ) ?_
    simp only [hans, e, go_sem]

end Go.VL
