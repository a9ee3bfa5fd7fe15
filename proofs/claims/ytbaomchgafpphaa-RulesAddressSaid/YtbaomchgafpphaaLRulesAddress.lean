/- RulesAddress: at every rule, every row of options and every number of refusals the law answers true, and leaves its arguments as they were. Conditions: none. -/
import Derived.Test.YtbaomchgafpphaaSSc
set_option linter.unusedVariables false
set_option linter.unusedSimpArgs false
/- The law RulesAddress, over values. Conditions: none. -/
namespace Go.VL
open Go.Proofs

theorem filter_nil {p : OV → Bool} {l : List OV} (h : (l.filter p).isEmpty = true) {o : OV} (ho : o ∈ l) : p o = false := by
  rw [List.isEmpty_iff, List.filter_eq_nil_iff] at h
  have := h o ho
  simpa using this

/-- Where all is agreed to, nothing is odd, and nothing should be otherwise. -/
theorem ansP_ack {r : RV} {l : List OV} {naks : Int} (h : (ansP r l naks).1 = 2) : (∀ o ∈ l, isK r o = true ∧ notO r o = false) ∧ (r.ip = true → l = [] → 3 ≤ naks) := by
  unfold ansP at h
  cases h1 : (refL r l (decide (3 ≤ naks))).isEmpty
  · rw [h1] at h; simp at h
  · rw [h1] at h
    simp only [Bool.not_true, cond_false] at h
    have hodd : (oddL r l).isEmpty = true := by
      unfold refL at h1
      cases hb : (decide (3 ≤ naks) && (oddL r l).isEmpty)
      · rw [hb] at h1; exact h1
      · simp only [Bool.and_eq_true] at hb; exact hb.2
    have has : (asL r l).isEmpty = true := by
      unfold refL at h1
      rw [hodd, Bool.and_true] at h1
      cases hb : decide (3 ≤ naks)
      · rw [hb] at h
        cases ht : (toL r l).isEmpty
        · rw [ht] at h; simp at h
        · unfold toL at ht
          rw [List.isEmpty_iff, List.append_eq_nil_iff, List.map_eq_nil_iff] at ht
          rw [ht.1]; rfl
      · rw [hb] at h1; exact h1
    refine ⟨fun o ho => ?_, fun hi hl => ?_⟩
    · have q1 := filter_nil hodd ho
      have q2 := filter_nil has ho
      simp only [Bool.not_eq_false'] at q1
      rw [q1, Bool.true_and] at q2
      exact ⟨q1, q2⟩
    · subst hl
      cases hb : decide (3 ≤ naks)
      · rw [hb] at h
        unfold toL at h
        rw [hi] at h
        simp [asL] at h
      · simpa using hb

theorem ansP_code (r : RV) (l : List OV) (naks : Int) : (ansP r l naks).1 = 2 ∨ (ansP r l naks).1 = 3 ∨ (ansP r l naks).1 = 4 := by
  unfold ansP
  cases !(refL r l (decide (3 ≤ naks))).isEmpty
  · cases !decide (3 ≤ naks) && !(toL r l).isEmpty
    · exact .inl rfl
    · exact .inr (.inl rfl)
  · exact .inr (.inr rfl)

theorem not_facts {r : RV} {o : OV} (hk : isK r o = true) (hn : notO r o = false) : (r.ip = true → (numU o.d != r.addr) = false) ∧ (r.ip = false → (o.t == 5) = true → (numU o.d == 0) = false ∧ (numU o.d == r.magic) = false) ∧ (r.ip = false → (o.t == 1) = true → decide (numU o.d < 64) = false) := by
  unfold isK at hk
  unfold notO at hn
  refine ⟨fun hi => ?_, fun hi ht => ?_, fun hi ht => ?_⟩
  · unfold kOf at hk hn
    rw [hi] at hk hn
    simp only [cond_true] at hk hn
    cases h3 : o.t == 3
    · rw [h3] at hk; cases hk
    · rw [h3] at hn; exact hn
  · have e : o.t = 5 := by simpa using ht
    unfold kOf at hn
    rw [hi, e] at hn
    have hn' : (numU o.d == 0 || numU o.d == r.magic) = false := hn
    simpa using hn'
  · have e : o.t = 1 := by simpa using ht
    unfold kOf at hn
    rw [hi, e] at hn
    exact hn

theorem ansV_form (nl c : Bool) (x : UInt8 × List OV) : ∃ nl' c', ansV nl c x = .tup [.int .u8 x.1.toNat, .sl nl' c' 2 (osv x.2)] := by
  unfold ansV
  cases x.1 == 2
  · exact ⟨false, false, rfl⟩
  · exact ⟨nl, c, rfl⟩
theorem toNat_bne2 (a : UInt8) : ((a.toNat : Int) != 2) = (a != 2) := toNat_bne a 2
theorem toNat_beq2 (a : UInt8) : ((a.toNat : Int) == 2) = (a == 2) := toNat_beq a 2
theorem toNat_beq3 (a : UInt8) : ((a.toNat : Int) == 3) = (a == 3) := toNat_beq a 3
theorem toNat_beq5 (a : UInt8) : ((a.toNat : Int) == 5) = (a == 5) := toNat_beq a 5
theorem toNat_beq1 (a : UInt8) : ((a.toNat : Int) == 1) = (a == 1) := toNat_beq a 1

set_option maxHeartbeats 4000000 in
set_option maxRecDepth 20000 in
theorem c_rulesAddress (r : RV) (nl c : Bool) (l : List OV) (naks : Int) (σ : St) : VCalls Try.prog 9 [rv r, .sl nl c 2 (osv l), .int .i64 naks] σ fun x σ' => x = .bool true ∧ σ' = σ := by
  refine vcalls_intro (C := cfg Try.prog [] [] []) (cfg_ok mixed) Try.func9 rfl rfl rfl rfl rfl ?_
  simp only [go_sem, rv, rvC]
  refine vgo_call rfl rfl rfl rfl (c_shown13 σ) ?_
  simp only [go_sem]
  refine vgo_call rfl rfl rfl rfl (c_few nl c l σ) ?_
  cases hf : few l
  · simp only [go_sem]
  · obtain ⟨hl, hd⟩ := few_small hf
    have hl30 := (few_spec hf).1
    simp only [go_sem]
    refine vgo_call rfl rfl rfl rfl (c_answer r nl c l naks hl hd σ) ?_
    obtain ⟨nl', c', hw⟩ := ansV_form nl c (ansP r l naks)
    simp only [hw, go_sem, toNat_bne2]
    cases hc : (ansP r l naks).1 != 2
    · have hc2 : (ansP r l naks).1 = 2 := by simpa using hc
      obtain ⟨hall, hip⟩ := ansP_ack hc2
      simp only [go_sem]
      refine w_loop (fun i => i ≤ l.length) (fun i => [(10, .int .i64 i), (1, .sl nl c 2 (osv l)), (2, .int .i64 naks), (3, .ip (rvC r)), (7, .bool true)]) (fun _ => σ) (fun i => l.length - i) 0 (Nat.zero_le _) ?_ rfl ?_
      · simp only [go_sem, rvC]
        rfl
      intro i hi
      rcases Nat.lt_or_ge i l.length with h | h
      · have hw : IntKind.i64.wrap ((i : Int) + 1) = ((i + 1 : Nat) : Int) := wrap_ok (by omega) (by omega)
        obtain ⟨hk, hno⟩ := hall l[i] (List.getElem_mem h)
        obtain ⟨f1, f2, f3⟩ := not_facts hk hno
        simp only [go_sem, osv_length, h, ov_getD h, rvC]
        refine vgo_call rfl rfl rfl rfl (c_rnumber' _ _ _ (hd _ (List.getElem_mem h)) σ) ?_
        simp only [go_sem]
        refine w_walk2 [] [0, 1, 2, 3, 4, 5, 6, 7, 8, 9, 10, 11, 12, 13, 14, 15, 16, 17, 18, 19, 20, 21, 22, 23, 24, 25, 26, 27, 28, 29, 30, 31, 32, 33, 34, 35, 36, 37, 38, 39, 40, 41, 42, 43, 44, 45, 46, 47, 48, 49, 50, 51, 52, 53, 54, 55, 56, 57] [47, 48, 49, 50, 51, 52, 53, 54, 55, 56, 57, 58, 59, 60, 61, 62, 63, 64, 65, 66, 67, 68, 69, 70, 71, 72, 73, 74, 75, 76, 77, 78, 79, 80, 81, 82, 83, 84, 85, 86, 87, 88, 89, 90, 91, 92, 93, 94, 95, 96, 97, 98, 99, 100, 101, 102, 103, 104] [0, 1, 0, 0, 12, 28, 63, 127, 255, 511, 1023, 2047, 4095, 4095, 12287, 32767, 65535, 131071, 262143, 524287, 1048575, 2097151, 4194303, 8388607, 8388607, 33554431, 67108863, 134217727, 268435455, 536870911, 1073741823, 2147483647, 4294967295, 8589934591, 17179869183, 17179869183, 51539607551, 137438953471, 274877906943, 549755813887, 1099511627775, 2199023255551, 4398046511103, 8796093022207, 17592186044415, 35184372088831, 70368744177663, 70368744177663, 281474976710655, 562949953421311, 1125899906842623, 2251799813685247, 4503599627370495, 9007199254740991, 18014398509481983, 36028797018963967, 72057594037927935, 144115188075855871] rfl rfl rfl rfl ?_
        simp only [go_sem, osv_length, h, ov_getD h]
        refine vdgo_call rfl rfl rfl rfl (c_known r.ip l[i] _) ?_
        rw [← isK_known, hk]
        cases hi : r.ip
        · simp only [go_sem, osv_length, h, ov_getD h, toNat_beq5]
          cases h5 : l[i].t == 5
          · simp only [go_sem, osv_length, h, ov_getD h, toNat_beq1]
            cases h1 : l[i].t == 1
            · simp only [go_sem]
              refine l_next (i + 1) h (by omega) ?_ rfl
              simp only [go_sem, hw, rvC, hi]
            · simp only [go_sem, toNat32_lt64, f3 hi h1]
              refine l_next (i + 1) h (by omega) ?_ rfl
              simp only [go_sem, hw, rvC, hi]
          · have h1 : (l[i].t == 1) = false := by
              have e : l[i].t = 5 := by simpa using h5
              rw [e]; rfl
            simp only [go_sem, toNat32_beq0, toNat32_beq, (f2 hi h5).1, (f2 hi h5).2, osv_length, h, ov_getD h, toNat_beq1, h1]
            refine l_next (i + 1) h (by omega) ?_ rfl
            simp only [go_sem, hw, rvC, hi]
        · simp only [go_sem, toNat32_bne, f1 hi]
          refine l_next (i + 1) h (by omega) ?_ rfl
          simp only [go_sem, hw, rvC, hi]
      · have hn : ¬ (i < l.length) := by omega
        simp only [go_sem, osv_length, hn]
        refine l_exit ?_
        cases hi : r.ip
        · simp only [go_sem, rvC, hi]
        · simp only [go_sem, rvC, hi, osv_length, pos_len]
          cases he : l.isEmpty
          · simp only [go_sem]
          · have hb : (3 ≤ naks) = True := eq_true (hip hi (List.isEmpty_iff.1 he))
            simp only [go_sem, hb]
    · have h34 : (ansP r l naks).1 = 3 ∨ (ansP r l naks).1 = 4 := (ansP_code r l naks).resolve_left (by simpa using hc)
      simp only [go_sem, toNat_beq3]
      rcases h34 with h34 | h34
      · have e : ((ansP r l naks).1 == 3) = true := by rw [h34]; rfl
        simp only [go_sem, e]
      · have e : ((ansP r l naks).1 == 3) = false := by rw [h34]; rfl
        have e' : ((ansP r l naks).1 == 4) = true := by rw [h34]; rfl
        simp only [go_sem, e, toNat_beq4, e']

end Go.VL

/- RulesAddress: at every rule, every row of options and every number of refusals the law answers true, and leaves its arguments as they were. Conditions: none. -/
namespace Go.Proofs.Ytbaomchgafpphaa
open Go.VL Go.ChangeShapes Go.WideShapes Go.RowKit

theorem rulesAddress_calls (vs : List V) (h : argsV [shRule, shOpts, .int .i64] vs) : VCalls Try.prog 9 vs [] fun r _ => r = .bool true := by
  obtain ⟨c1, r1, rfl, h1, c2, r2, rfl, h2, c3, r3, rfl, ⟨n, rfl, _⟩, rfl⟩ := h
  obtain ⟨r, hr⟩ := rule_of h1
  obtain ⟨nl, l, rfl⟩ := opts_of h2
  show VCalls _ _ [.agg c1, _, _] _ _
  rw [hr]
  exact (c_rulesAddress r nl false l n []).mono fun _ _ h => h.1

theorem rulesAddress_lifted (os : Os) (started : os.Started) (H : Type) (enc : TypeId × Value → H) :
    ReturnsInHanded {} Try.checked os 9 .any (Rows.rulesAddressSpec.pre6 enc Try.prog Try.f9 Rows.rulesAddressRow.domain false) (Rows.rulesAddressSpec.post enc Try.prog Try.f9 false true false false) := by
  refine returnsInHanded_of_change_sized (C := Try.checked) own started (by kernel_rfl) Try.func9
    (ChangeSpec.witness6 (enc := enc) (C := Try.checked) false ⟨#[], #[.agg #[.bool false, .int .u32 0, .int .u32 0, .int .u32 0, .int .u32 0], .slice none 0 0, .int .i64 0], []⟩ 8 (by kernel_rfl) (by kernel_rfl) (by kernel_rfl) (by kernel_rfl)) ?_
  intro W base args ds gs before hval0 hW hcnd hsz0 _
  have hW' := hW
  obtain ⟨p, q, hA0, hV, rfl, hfz, hnd⟩ := hW
  obtain ⟨rfl, rfl⟩ := trodVars_none hV
  have hval : ∀ (j : Nat) t v, (Try.f9.params.toList)[j]? = some t → args.toList[j]? = some v → Value.okWide Try.prog W .any base t v := fun j t v h1 h2 => hval0 j t v (by simpa using h1) (by simpa using h2)
  refine (law_calls (ss := [shRule, shOpts, .int .i64]) (by kernel_rfl) rulesAddress_calls hval hA0).mono fun e W' ⟨he, bel⟩ => ?_
  subst he
  have hb := again_of' laidOut bel (by kernel_rfl) hA0
  obtain ⟨v0, vs0, d0, ds0, p0, q0, e0a, rfl, e0b, h0, r0⟩ := trodAll_cons (show DataW.TrodAll enc Try.prog W 0 (fun _ => true) true [47, 22, 3] args.toList ds p from hA0)
  obtain ⟨v1, vs1, d1, ds1, p1, q1, e1a, rfl, e1b, h1, r1⟩ := trodAll_cons r0
  obtain ⟨v2, vs2, d2, ds2, p2, q2, e2a, rfl, e2b, h2, r2⟩ := trodAll_cons r1
  obtain ⟨_, rfl, _⟩ := trodAll_nil r2
  exact ⟨_, rfl, _, _, _, [], _, [], hW', trodAll_mk1 (shut_bool Try.underlying4 _), hb, rfl, bel.frame _, fun h => by cases h⟩

theorem rulesAddress_holds : Rows.RulesAddressSaid :=
  OpenClaim.holds_of_wide 9 Try.f9 rfl rfl rfl rfl rfl rfl rfl ⟨rfl, rfl, rfl, rfl, rfl⟩ rfl rfl rfl rfl rfl (by kernel_rfl) Try.func9 (by kernel_rfl)
    (of_decide_eq_true (by kernel_rfl)) (by unfold Func.isWrapper; first | (rw [if_pos (by decide +kernel)]; kernel_rfl) | (rw [if_neg (by decide +kernel)]; exact ⟨rfl, rfl⟩))
    (fun os started H enc _ => rulesAddress_lifted os started H enc)
#print axioms rulesAddress_holds

end Go.Proofs.Ytbaomchgafpphaa
