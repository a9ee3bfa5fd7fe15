/- RulesStays: at every rule, every code and every row of options the law answers true, and leaves its arguments as they were. Conditions: none. -/
import Derived.Test.YtbaomchgafpphaaSSd
import Derived.Test.YtbaomchgafpphaaSSc
set_option linter.unusedVariables false
set_option linter.unusedSimpArgs false
/- The law RulesStays, over values. Conditions: none. -/
namespace Go.VL
open Go.Proofs

/-- What is asked for behind an answer, as a row, and whether the answer may be. -/
structure TurnR where
  nl : Bool
  c : Bool
  l : List OV
  may : Bool
def turnR (r : RV) (code : UInt8) (l : List OV) : TurnR :=
  bif !r.ip && (findO l 3).isSome then ⟨false, true, rAsk r, false⟩ else
  bif code == 4 then ⟨false, false, keepO (inO l) (rAsk r), true⟩ else
  bif code != 3 then ⟨false, true, rAsk r, false⟩ else
  bif !r.ip && (findO l 5).isSome && (findO (rAsk r) 5).isSome then ⟨false, false, putO (rAsk r) (numO 5 4 r.other), true⟩ else
  ⟨false, true, rAsk r, true⟩
theorem turnV_R (r : RV) (code : UInt8) (l : List OV) : turnV r false true (rAsk r) code l = .tup [.sl (turnR r code l).nl (turnR r code l).c 2 (osv (turnR r code l).l), .bool (turnR r code l).may] := by
  unfold turnV turnR
  cases (!r.ip && (findO l 3).isSome)
  · cases code == 4
    · cases code != 3
      · cases (!r.ip && (findO l 5).isSome && (findO (rAsk r) 5).isSome) <;> rfl
      · rfl
    · rfl
  · rfl

/-- What is told of it. -/
structure TurnOk (r : RV) (code : UInt8) (l : List OV) (x : TurnR) : Prop where
  had : ∀ o ∈ x.l, (findO (rAsk r) o.t).isSome = true
  same : x.may = false → x.l = rAsk r
  auth : r.ip = false → (findO x.l 3).isSome = true
  len : x.l.length ≤ (rAsk r).length
  may : (x.may == (code == 3 || code == 4)) = true ∨ (x.may = false ∧ r.ip = false)
  small : smallD x.l

theorem find_self (l : List OV) (o : OV) (h : o ∈ l) : (findO l o.t).isSome = true := by
  rw [findO_eq, List.find?_isSome]
  exact ⟨o, h, by simp⟩

theorem turn_ok (r : RV) (code : UInt8) (l : List OV) : TurnOk r code l (turnR r code l) := by
  have hsm : smallD (rAsk r) := fun o ho => by have := (rAsk_small r).2 o ho; unfold lim; omega
  have asks : ∀ may, (may = false → True) → ((may == (code == 3 || code == 4)) = true ∨ (may = false ∧ r.ip = false)) → ∀ nl c, TurnOk r code l ⟨nl, c, rAsk r, may⟩ := by
    intro may _ hm nl c
    refine ⟨fun o ho => find_self _ o ho, fun _ => rfl, fun hi => ?_, Nat.le_refl _, hm, hsm⟩
    rw [sh_askLcp r hi]; rfl
  unfold turnR
  cases h1 : (!r.ip && (findO l 3).isSome)
  · cases h4 : code == 4
    · cases h3 : code != 3
      · have hc3 : (code == 3) = true := by simpa [bne] using h3
        cases h5 : (!r.ip && (findO l 5).isSome && (findO (rAsk r) 5).isSome)
        · exact asks true (fun _ => trivial) (.inl (by rw [hc3]; rfl)) _ _
        · have hi : r.ip = false := by
            cases hi : r.ip with
            | false => rfl
            | true => rw [hi] at h5; simp at h5
          have ha := sh_askLcp r hi
          have hp : putO (rAsk r) (numO 5 4 r.other) = [authO, numO 5 4 r.other] := by rw [ha]; rfl
          refine ⟨fun o ho => ?_, fun h => (by cases h), fun _ => ?_, ?_, .inl (by rw [hc3]; rfl), ?_⟩
          · simp only [cond_true, cond_false, hp] at ho
            rw [ha]
            simp at ho
            rcases ho with rfl | rfl <;> rfl
          · simp only [cond_true, cond_false, hp]; rfl
          · simp only [cond_true, cond_false, hp]; rw [ha]; simp
          · simp only [cond_true, cond_false, hp]
            intro o ho
            simp at ho
            rcases ho with rfl | rfl <;> simp [authO, numO, fourB, lim]
      · have hc3 : (code == 3) = false := by simpa [bne] using h3
        exact asks false (fun _ => trivial) (.inl (by rw [hc3, h4]; rfl)) _ _
    · refine ⟨fun o ho => ?_, fun h => (by cases h), fun hi => ?_, List.length_filter_le _ _, .inl (by rw [h4, Bool.or_true]; rfl), fun o ho => hsm o (List.mem_filter.1 ho).1⟩
      · exact find_self _ o (List.mem_filter.1 ho).1
      · have ha := sh_askLcp r hi
        have h3 : (findO l 3).isSome = false := by
          rw [hi] at h1
          simpa using h1
        have hin : inO l authO = false := h3
        simp only [cond_true, cond_false]
        rw [ha]
        unfold keepO
        rw [List.filter_cons_of_pos (by rw [hin]; rfl)]
        rfl
  · have hi : r.ip = false := by
      cases hi : r.ip with
      | false => rfl
      | true => rw [hi] at h1; simp at h1
    exact asks false (fun _ => trivial) (.inr ⟨rfl, hi⟩) _ _

set_option maxHeartbeats 4000000 in
set_option maxRecDepth 20000 in
theorem c_rulesStays (r : RV) (code : UInt8) (nl c : Bool) (l : List OV) (σ : St) : VCalls Try.prog 12 [rv r, .int .u8 code.toNat, .sl nl c 2 (osv l)] σ fun x σ' => x = .bool true ∧ σ' = σ := by
  refine vcalls_intro (C := cfg Try.prog [] [] []) (cfg_ok mixed) Try.func12 rfl rfl rfl rfl rfl ?_
  simp only [go_sem, rv, rvC]
  refine vgo_call rfl rfl rfl rfl (c_shown13 σ) ?_
  simp only [go_sem]
  refine vgo_call rfl rfl rfl rfl (c_few nl c l σ) ?_
  cases hf : few l
  · simp only [go_sem]
  · obtain ⟨hl, hd⟩ := few_small hf
    have hask := rAsk_small r
    have hlim : (rAsk r).length < lim := by unfold lim; omega
    obtain ⟨t1, t2, t3, t4, t5, t6⟩ := turn_ok r code l
    have hxl : (turnR r code l).l.length ≤ 2 := by omega
    simp only [go_sem]
    refine vgo_call rfl rfl rfl rfl (c_ask r σ) ?_
    simp only [go_sem]
    refine vgo_call rfl rfl rfl (by rw [turnV_R]; rfl) (c_turn r false true nl c (rAsk r) l code hlim (Nat.le_of_lt hl) σ) ?_
    simp only [turnV_R, go_sem]
    generalize turnR r code l = X at *
    refine w_loop (fun i => i ≤ X.l.length) (fun i => [(11, .int .i64 i), (9, .sl X.nl X.c 2 (osv X.l)), (8, .sl false true 2 (osv (rAsk r))), (10, .bool X.may), (1, .int .u8 code.toNat), (3, .ip (rvC r)), (7, .bool true)]) (fun _ => σ) (fun i => X.l.length - i) 0 (Nat.zero_le _) ?_ rfl ?_
    · simp only [go_sem, rvC]
      rfl
    intro i hi
    rcases Nat.lt_or_ge i X.l.length with h | h
    · have hw : IntKind.i64.wrap ((i : Int) + 1) = ((i + 1 : Nat) : Int) := wrap_ok (by omega) (by omega)
      have hh := t1 X.l[i] (List.getElem_mem h)
      simp only [go_sem, osv_length, h, ov_getD h, rvC]
      refine vgo_call rfl rfl rfl (resO_val _) (c_rfind false true (rAsk r) X.l[i].t (Nat.le_of_lt hlim) σ) ?_
      cases hq : findO (rAsk r) X.l[i].t with
      | none => rw [hq] at hh; cases hh
      | some y =>
        simp only [go_sem, resO, ov]
        refine l_next (i + 1) h (by omega) ?_ rfl
        simp only [go_sem, hw, rvC]
    · have hn : ¬ (i < X.l.length) := by omega
      simp only [go_sem, osv_length, hn, rvC]
      refine l_exit ?_
      simp only [go_sem]
      refine vgo_call rfl rfl rfl (resO_val _) (c_rfind X.nl X.c X.l 3 (by unfold lim; omega) σ) ?_
      have hle : ((X.l.length : Nat) : Int) ≤ ((rAsk r).length : Int) := by omega
      have hss : X.may = false → same X.l (rAsk r) = true := fun e => by rw [t2 e]; exact same_refl _
      have hxd : smallD X.l := fun o ho => by
        exact t6 o ho
      cases h3 : findO X.l 3 with
      | none =>
        simp only [go_sem, resO, ov, zeroO, rvC]
        cases hmay : X.may
        · simp only [go_sem]
          refine vgo_call rfl rfl rfl rfl (c_same' X.nl X.c false true X.l (rAsk r) (by unfold lim; omega) hxd σ) ?_
          rw [hss hmay]
          rw [hmay] at t5
          simp only [go_sem]
          cases hi : r.ip
          · exfalso; have := t3 hi; rw [h3] at this; cases this
          · simp only [go_sem, osv_length, hle, toNat_beq3]
            cases hc3 : code == 3 <;> cases hc4 : code == 4 <;> rw [hc3, hc4] at t5 <;> simp only [go_sem, toNat_beq4, hc3, hc4]
            all_goals (exfalso; rcases t5 with t5 | ⟨t5, t7⟩ <;> first | (simp at t5; done) | (rw [hi] at t7; cases t7))
        · rw [hmay] at t5
          simp only [go_sem]
          cases hi : r.ip
          · exfalso; have := t3 hi; rw [h3] at this; cases this
          · simp only [go_sem, osv_length, hle, toNat_beq3]
            cases hc3 : code == 3 <;> cases hc4 : code == 4 <;> rw [hc3, hc4] at t5 <;> simp only [go_sem, toNat_beq4, hc3, hc4]
            all_goals (exfalso; rcases t5 with t5 | ⟨t5, t7⟩ <;> first | (simp at t5; done) | (rw [hi] at t7; cases t7))
      | some y =>
        simp only [go_sem, resO, ov, zeroO, rvC]
        cases hmay : X.may
        · simp only [go_sem]
          refine vgo_call rfl rfl rfl rfl (c_same' X.nl X.c false true X.l (rAsk r) (by unfold lim; omega) hxd σ) ?_
          rw [hss hmay]
          rw [hmay] at t5
          simp only [go_sem]
          cases hi : r.ip
          all_goals simp only [go_sem, osv_length, hle, toNat_beq3]
          all_goals cases hc3 : code == 3 <;> cases hc4 : code == 4 <;> rw [hc3, hc4] at t5 <;> simp only [go_sem, toNat_beq4, hc3, hc4]
          all_goals (exfalso; rcases t5 with t5 | ⟨t5, t7⟩ <;> first | (simp at t5; done) | (rw [hi] at t7; cases t7))
        · rw [hmay] at t5
          simp only [go_sem]
          cases hi : r.ip
          all_goals simp only [go_sem, osv_length, hle, toNat_beq3]
          all_goals cases hc3 : code == 3 <;> cases hc4 : code == 4 <;> rw [hc3, hc4] at t5 <;> simp only [go_sem, toNat_beq4, hc3, hc4]
          all_goals (exfalso; rcases t5 with t5 | ⟨t5, t7⟩ <;> first | (simp at t5; done) | (rw [hi] at t7; cases t7))

end Go.VL

/- RulesStays: at every rule, every code and every row of options the law answers true, and leaves its arguments as they were. Conditions: none. -/
namespace Go.Proofs.Ytbaomchgafpphaa
open Go.VL Go.ChangeShapes Go.WideShapes Go.RowKit

theorem rulesStays_calls (vs : List V) (h : argsV [shRule, .int .u8, shOpts] vs) : VCalls Try.prog 12 vs [] fun r _ => r = .bool true := by
  obtain ⟨c1, r1, rfl, h1, c2, r2, rfl, ⟨n, rfl, hn⟩, c3, r3, rfl, h3, rfl⟩ := h
  obtain ⟨r, hr⟩ := rule_of h1
  obtain ⟨b, rfl⟩ := wf_u8 hn
  obtain ⟨nl, l, rfl⟩ := opts_of h3
  show VCalls _ _ [.agg c1, _, _] _ _
  rw [hr]
  exact (c_rulesStays r b nl false l []).mono fun _ _ h => h.1

theorem rulesStays_lifted (os : Os) (started : os.Started) (H : Type) (enc : TypeId × Value → H) :
    ReturnsInHanded {} Try.checked os 12 .any (Rows.rulesStaysSpec.pre6 enc Try.prog Try.f12 Rows.rulesStaysRow.domain false) (Rows.rulesStaysSpec.post enc Try.prog Try.f12 false true false false) := by
  refine returnsInHanded_of_change_sized (C := Try.checked) own started (by kernel_rfl) Try.func12
    (ChangeSpec.witness6 (enc := enc) (C := Try.checked) false ⟨#[], #[.agg #[.bool false, .int .u32 0, .int .u32 0, .int .u32 0, .int .u32 0], .int .u8 0, .slice none 0 0], []⟩ 8 (by kernel_rfl) (by kernel_rfl) (by kernel_rfl) (by kernel_rfl)) ?_
  intro W base args ds gs before hval0 hW hcnd hsz0 _
  have hW' := hW
  obtain ⟨p, q, hA0, hV, rfl, hfz, hnd⟩ := hW
  obtain ⟨rfl, rfl⟩ := trodVars_none hV
  have hval : ∀ (j : Nat) t v, (Try.f12.params.toList)[j]? = some t → args.toList[j]? = some v → Value.okWide Try.prog W .any base t v := fun j t v h1 h2 => hval0 j t v (by simpa using h1) (by simpa using h2)
  refine (law_calls (ss := [shRule, .int .u8, shOpts]) (by kernel_rfl) rulesStays_calls hval hA0).mono fun e W' ⟨he, bel⟩ => ?_
  subst he
  have hb := again_of' laidOut bel (by kernel_rfl) hA0
  obtain ⟨v0, vs0, d0, ds0, p0, q0, e0a, rfl, e0b, h0, r0⟩ := trodAll_cons (show DataW.TrodAll enc Try.prog W 0 (fun _ => true) true [47, 5, 22] args.toList ds p from hA0)
  obtain ⟨v1, vs1, d1, ds1, p1, q1, e1a, rfl, e1b, h1, r1⟩ := trodAll_cons r0
  obtain ⟨v2, vs2, d2, ds2, p2, q2, e2a, rfl, e2b, h2, r2⟩ := trodAll_cons r1
  obtain ⟨_, rfl, _⟩ := trodAll_nil r2
  exact ⟨_, rfl, _, _, _, [], _, [], hW', trodAll_mk1 (shut_bool Try.underlying4 _), hb, rfl, bel.frame _, fun h => by cases h⟩

theorem rulesStays_holds : Rows.RulesStaysSaid :=
  OpenClaim.holds_of_wide 12 Try.f12 rfl rfl rfl rfl rfl rfl rfl ⟨rfl, rfl, rfl, rfl, rfl⟩ rfl rfl rfl rfl rfl (by kernel_rfl) Try.func12 (by kernel_rfl)
    (of_decide_eq_true (by kernel_rfl)) (by unfold Func.isWrapper; first | (rw [if_pos (by decide +kernel)]; kernel_rfl) | (rw [if_neg (by decide +kernel)]; exact ⟨rfl, rfl⟩))
    (fun os started H enc _ => rulesStays_lifted os started H enc)
#print axioms rulesStays_holds

end Go.Proofs.Ytbaomchgafpphaa
