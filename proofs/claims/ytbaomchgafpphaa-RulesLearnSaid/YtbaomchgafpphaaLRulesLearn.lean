/- RulesLearn: at every row of options the law answers true, and leaves its arguments as they were. Conditions: none. -/
import Derived.Test.YtbaomchgafpphaaSSd
import Derived.Test.YtbaomchgafpphaaSSc
set_option linter.unusedVariables false
set_option linter.unusedSimpArgs false
/- The law RulesLearn, over values. Conditions: none. -/
namespace Go.VL
open Go.Proofs

def knL (l : List OV) : List OV := l.filter fun o => knownB false o
theorem knL_take {l : List OV} {i : Nat} (h : i < l.length) : knL (l.take (i + 1)) = knL (l.take i) ++ (bif knownB false l[i] then [l[i]] else []) := filt_take h
theorem knL_length (l : List OV) (i : Nat) : (knL (l.take i)).length ≤ i := Nat.le_trans (List.length_filter_le _ _) (by simp; omega)

theorem find_knL (t : UInt8) (l : List OV) : (knL l).find? (knownT t) = l.find? (knownT t) := by
  unfold knL
  rw [List.find?_filter]
  have : (fun a => decide (knownB false a = true ∧ knownT t a = true)) = knownT t := by
    funext o
    unfold knownT
    cases knownB false o <;> cases o.t == t <;> rfl
  rw [this]
theorem learn_knL (l : List OV) : learnV (knL l) = learnV l := by
  unfold learnV
  rw [find_knL, find_knL, find_knL, find_knL, find_knL]

def mruN (l : List OV) : Int := match l.find? (knownT 1) with | some o => ((numU o.d).toNat : Int) | none => 1500
def accN (l : List OV) : Int := match l.find? (knownT 2) with | some o => ((numU o.d).toNat : Int) | none => 4294967295
def magN (l : List OV) : Int := match l.find? (knownT 5) with | some o => ((numU o.d).toNat : Int) | none => 0
def pfcN (l : List OV) : Bool := (l.find? (knownT 7)).isSome
def acfN (l : List OV) : Bool := (l.find? (knownT 8)).isSome
theorem learn_def (l : List OV) : learnV l = .agg [.int .i64 (mruN l), .int .u32 (accN l), .int .u32 (magN l), .bool (pfcN l), .bool (acfN l)] := rfl
theorem learn_empty {l : List OV} (h : knL l = []) : mruN l = 1500 ∧ accN l = 4294967295 ∧ magN l = 0 ∧ pfcN l = false ∧ acfN l = false := by
  have e : ∀ t, l.find? (knownT t) = none := fun t => by rw [← find_knL, h]; rfl
  unfold mruN accN magN pfcN acfN
  rw [e, e, e, e, e]
  exact ⟨rfl, rfl, rfl, rfl, rfl⟩

theorem mru_bound (l : List OV) : 0 ≤ mruN l ∧ mruN l ≤ 65535 := by
  unfold mruN
  cases h : l.find? (knownT 1) with
  | none => simp
  | some o =>
    simp only
    have hp := List.find?_some h
    unfold knownT knownB at hp
    have ht : (o.t == 1) = true := by
      cases hq : o.t == 1
      · rw [hq, Bool.and_false] at hp; cases hp
      · rfl
    rw [ht] at hp
    have hl : o.d.length = 2 := by simpa using hp
    match hd : o.d, hl with
    | [a, b], _ =>
      rw [numU_toNat]
      have ha := a.toNat_lt
      have hb := b.toNat_lt
      simp only [valN, List.foldl_cons, List.foldl_nil]
      omega

set_option maxHeartbeats 4000000 in
set_option maxRecDepth 20000 in
theorem c_rulesLearn (nl c : Bool) (l : List OV) (σ : St) : VCalls Try.prog 10 [.sl nl c 2 (osv l)] σ fun x σ' => x = .bool true ∧ σ' = σ := by
  refine vcalls_intro (C := cfg Try.prog [] [] []) (cfg_ok mixed) Try.func10 rfl rfl rfl rfl rfl ?_
  simp only [go_sem]
  refine vgo_call rfl rfl rfl rfl (c_shown13 σ) ?_
  simp only [go_sem]
  refine vgo_call rfl rfl rfl rfl (c_few nl c l σ) ?_
  cases hf : few l
  · simp only [go_sem]
  · obtain ⟨hl, hd⟩ := few_small hf
    have hl30 := (few_spec hf).1
    simp only [go_sem]
    refine loop_adopt 4 2 σ.length rfl rfl ?_
    refine w_loop (fun i => i ≤ l.length) (fun i => [(5, .int .i64 i), (0, .sl nl c 2 (osv l)), (3, .bool true), (4, .rsl σ.length (knL (l.take i)).length 0 (knL (l.take i)).length)])
      (fun i => σ ++ [.arr (knL (l.take i)).isEmpty (knL (l.take i)).length 2 (osv (knL (l.take i)))]) (fun i => l.length - i) 0 (Nat.zero_le _) ?_ ?_ ?_
    · simp only [go_sem]
      exact ⟨rfl, rfl⟩
    · simp [knL, osv]
    intro i hi
    rcases Nat.lt_or_ge i l.length with h | h
    · have hw : IntKind.i64.wrap ((i : Int) + 1) = ((i + 1 : Nat) : Int) := wrap_ok (by omega) (by omega)
      have hkl := knL_length l i
      simp only [go_sem, osv_length, h, ov_getD h]
      refine vgo_call rfl rfl rfl rfl (c_known false l[i] _) ?_
      cases hk : knownB false l[i]
      · simp only [go_sem]
        refine l_next (i + 1) h (by omega) ?_ ?_
        · simp only [go_sem, hw, knL_take h, hk, List.append_nil]
        · simp only [knL_take h, hk, go_sem, List.append_nil]
      · simp only [go_sem, osv_length, h, ov_getD h]
        refine ⟨by unfold lim; omega, l_next (i + 1) h (by omega) ?_ ?_⟩
        · simp only [go_sem, hw, knL_take h, hk, List.length_append]
        · simp only [knL_take h, hk, go_sem, osv_app, isEmpty_app, List.length_append]
    · have hn : ¬ (i < l.length) := by omega
      have hk2 : (knL l).length ≤ l.length := List.length_filter_le _ _
      have hkd : smallD (knL l) := fun o ho => hd o (List.mem_filter.1 ho).1
      simp only [go_sem, osv_length, hn]
      rw [List.take_of_length_le h]
      refine l_exit' (.freeze _ _ 4 σ.length (knL l).length 0 (knL l).length 2 (knL l).isEmpty (osv (knL l)) rfl (get_at _ _)) ?_
      simp only [go_sem, osv_take]
      refine vgo_call rfl rfl rfl rfl (c_learn nl c l (Nat.le_of_lt hl) hd _) ?_
      have hv := learn_def l
      have hb1 : (0 ≤ mruN l) = True := eq_true (mru_bound l).1
      have hb2 : (mruN l ≤ 65535) = True := eq_true (mru_bound l).2
      simp only [hv, go_sem]
      refine w_walk3 [] [0, 1, 2, 3, 4, 5, 6, 7, 8, 9, 10, 11, 12, 13, 14, 15, 16, 17, 18, 19, 20, 21, 22, 23, 24, 25, 26, 27] [32, 33, 34, 35, 36, 37, 38, 39, 40, 41, 42, 43, 44, 45, 46, 47, 48, 49, 50, 51, 52, 53, 54, 55, 56, 57, 58, 2] [0, 1, 3, 3, 11, 31, 63, 127, 255, 511, 1023, 2047, 4095, 8191, 16383, 32767, 65535, 131071, 262143, 524287, 1048575, 2097151, 4194303, 4194303, 16777215, 33554431, 67108863, 134217727] [2] rfl rfl rfl rfl rfl ?_
      simp only [go_sem]
      refine vdgo_call rfl rfl rfl rfl (c_learn _ _ (knL l) (by unfold lim; omega) hkd _) ?_
      rw [learn_knL, hv]
      simp only [mk, go_sem, hb1, hb2, osv_length, pos_len]
      cases he : (knL l).isEmpty
      · simp only [go_sem]
      · obtain ⟨m1, m2, m3, m4, m5⟩ := learn_empty (List.isEmpty_iff.1 he)
        simp only [mk, go_sem, m1, m2, m3, m4, m5]

end Go.VL

/- RulesLearn: at every row of options the law answers true, and leaves its arguments as they were. Conditions: none. -/
namespace Go.Proofs.Ytbaomchgafpphaa
open Go.VL Go.ChangeShapes Go.WideShapes Go.RowKit

theorem rulesLearn_calls (vs : List V) (h : argsV [shOpts] vs) : VCalls Try.prog 10 vs [] fun r _ => r = .bool true := by
  obtain ⟨c2, r2, rfl, h2, rfl⟩ := h
  obtain ⟨nl, l, rfl⟩ := opts_of h2
  exact (c_rulesLearn nl false l []).mono fun _ _ h => h.1

theorem rulesLearn_lifted (os : Os) (started : os.Started) (H : Type) (enc : TypeId × Value → H) :
    ReturnsInHanded {} Try.checked os 10 .any (Rows.rulesLearnSpec.pre6 enc Try.prog Try.f10 Rows.rulesLearnRow.domain false) (Rows.rulesLearnSpec.post enc Try.prog Try.f10 false true false false) := by
  refine returnsInHanded_of_change_sized (C := Try.checked) own started (by kernel_rfl) Try.func10
    (ChangeSpec.witness6 (enc := enc) (C := Try.checked) false ⟨#[], #[.slice none 0 0], []⟩ 8 (by kernel_rfl) (by kernel_rfl) (by kernel_rfl) (by kernel_rfl)) ?_
  intro W base args ds gs before hval0 hW hcnd hsz0 _
  have hW' := hW
  obtain ⟨p, q, hA0, hV, rfl, hfz, hnd⟩ := hW
  obtain ⟨rfl, rfl⟩ := trodVars_none hV
  have hval : ∀ (j : Nat) t v, (Try.f10.params.toList)[j]? = some t → args.toList[j]? = some v → Value.okWide Try.prog W .any base t v := fun j t v h1 h2 => hval0 j t v (by simpa using h1) (by simpa using h2)
  refine (law_calls (ss := [shOpts]) (by kernel_rfl) rulesLearn_calls hval hA0).mono fun e W' ⟨he, bel⟩ => ?_
  subst he
  have hb := again_of' laidOut bel (by kernel_rfl) hA0
  obtain ⟨v0, vs0, d0, ds0, p0, q0, e0a, rfl, e0b, h0, r0⟩ := trodAll_cons (show DataW.TrodAll enc Try.prog W 0 (fun _ => true) true [22] args.toList ds p from hA0)
  obtain ⟨_, rfl, _⟩ := trodAll_nil r0
  exact ⟨_, rfl, _, _, _, [], _, [], hW', trodAll_mk1 (shut_bool Try.underlying4 _), hb, rfl, bel.frame _, fun h => by cases h⟩

theorem rulesLearn_holds : Rows.RulesLearnSaid :=
  OpenClaim.holds_of_wide 10 Try.f10 rfl rfl rfl rfl rfl rfl rfl ⟨rfl, rfl, rfl, rfl, rfl⟩ rfl rfl rfl rfl rfl (by kernel_rfl) Try.func10 (by kernel_rfl)
    (of_decide_eq_true (by kernel_rfl)) (by unfold Func.isWrapper; first | (rw [if_pos (by decide +kernel)]; kernel_rfl) | (rw [if_neg (by decide +kernel)]; exact ⟨rfl, rfl⟩))
    (fun os started H enc _ => rulesLearn_lifted os started H enc)
#print axioms rulesLearn_holds

end Go.Proofs.Ytbaomchgafpphaa
