/- Contracts of this program's functions over values, joined texts. Conditions: none. -/
import Derived.Test.YtbaomchgafpphaaSSb
import Derived.Test.YtbaomchgafpphaaVVc
import Derived.Test.YtbaomchgafpphaaRows
import Derived.ProofKit
import Derived.WalkKit
set_option linter.unusedVariables false
set_option linter.unusedSimpArgs false
/- The document's examples, at the head of the laws on rules. Conditions: none. -/
namespace Go.VL
open Go.Proofs

def oP (t : UInt8) : OV := { t := t, nl := true, c := false, d := [] }
theorem small0 (t : UInt8) : smallD [oP t] := by intro o h; simp at h; subst h; exact Nat.zero_le _
theorem smallNil : smallD [] := by intro o h; cases h

theorem sh_ans : ansV false true (ansP ⟨false, 1, 2, 0, 0⟩ [oP 7] 0) = .tup [.int .u8 2, .sl false true 2 (osv [oP 7])] := by kernel_rfl
theorem sh_nak : ansV true false (ansP ⟨true, 0, 0, 9, 0⟩ [] 0) = .tup [.int .u8 3, .sl false false 2 (osv [numO 3 4 9])] := by kernel_rfl
theorem sh_addr : [numO 3 4 9].find? (knownB true) = some (numO 3 4 9) := by kernel_rfl
theorem sh_num : (numU (numO 3 4 9).d).toNat = 9 := by kernel_rfl
theorem sh_ask : rAsk ⟨false, 5, 0, 0, 0⟩ = [⟨3, false, true, [194, 35, 5]⟩, numO 5 4 5] := by kernel_rfl
theorem sh_turn : turnV ⟨false, 0, 7, 0, 0⟩ false true (rAsk ⟨false, 5, 0, 0, 0⟩) 3 [oP 5] = .tup [.sl false false 2 (osv [⟨3, false, true, [194, 35, 5]⟩, numO 5 4 7]), .bool true] := by kernel_rfl
theorem sh_learn1 : learnV [oP 7] = .agg [.int .i64 1500, .int .u32 4294967295, .int .u32 0, .bool true, .bool false] := by kernel_rfl
theorem sh_learn0 : learnV [] = .agg [.int .i64 1500, .int .u32 4294967295, .int .u32 0, .bool false, .bool false] := by kernel_rfl
theorem sh_osv : osv [⟨3, false, true, [194, 35, 5]⟩, numO 5 4 7] = [.agg [.int .u8 3, .sl false true 1 [.int .u8 194, .int .u8 35, .int .u8 5]], .agg [.int .u8 5, .sl false true 1 [.int .u8 0, .int .u8 0, .int .u8 0, .int .u8 7]]] := by kernel_rfl

set_option maxHeartbeats 1000000 in
set_option maxRecDepth 20000 in
theorem c_shown13 (σ : St) : VCalls Try.prog 24 [] σ fun x σ' => x = .bool true ∧ σ' = σ := by
  refine vcalls_intro (C := cfg Try.prog [] [] []) (cfg_ok mixed) Try.func24 rfl rfl rfl rfl rfl ?_
  simp only [go_sem]
  refine vgo_call rfl rfl rfl rfl ((c_answer ⟨false, 1, 2, 0, 0⟩ false true [oP 7] 0 (by simp [lim]) (small0 7) σ).ne ⟨.refl _, NE.slL ⟨NE.aggL ⟨.refl _, .nil _ _ _ _, trivial⟩, trivial⟩, .refl _, trivial⟩) ?_
  simp only [sh_ans, go_sem]
  refine vgo_call rfl rfl rfl rfl ((c_answer ⟨true, 0, 0, 9, 0⟩ true false [] 0 (by simp [lim]) smallNil σ).ne ⟨.refl _, .nil _ _ _ _, .refl _, trivial⟩) ?_
  simp only [sh_nak, go_sem]
  refine vgo_call rfl rfl rfl rfl (c_address false false [numO 3 4 9] (by simp [lim]) (by intro o h; simp at h; subst h; simp [lim, numO, fourB]) σ) ?_
  simp only [sh_addr, sh_num, numV, go_sem]
  refine vgo_call rfl rfl rfl rfl (c_ask ⟨false, 5, 0, 0, 0⟩ σ) ?_
  simp only [go_sem]
  refine vgo_call rfl rfl rfl rfl ((c_turn ⟨false, 0, 7, 0, 0⟩ false true false true (rAsk ⟨false, 5, 0, 0, 0⟩) [oP 5] 3 (by simp [sh_ask, lim]) (by simp [lim]) σ).ne ⟨.refl _, .refl _, .refl _, NE.slL ⟨NE.aggL ⟨.refl _, .nil _ _ _ _, trivial⟩, trivial⟩, trivial⟩) ?_
  simp only [sh_turn, sh_osv, osv_length, Int.cast_ofNat_Int, go_sem]
  refine vgo_call rfl rfl rfl rfl (c_learn false true [oP 7] (by simp [lim]) (small0 7) σ) ?_
  simp only [sh_learn1, go_sem]
  refine vgo_call rfl rfl rfl rfl ((c_learn true false [] (by simp [lim]) smallNil σ).ne ⟨.nil _ _ _ _, trivial⟩) ?_
  simp only [sh_learn0, go_sem]

end Go.VL

/- The laws on rules: what they share. Conditions: none. -/
namespace Go.VL
open Go.Proofs

theorem few_spec {l : List OV} (h : few l = true) : l.length ≤ 30 ∧ ∀ o ∈ l, o.d.length ≤ 253 := by
  unfold few at h
  simp only [Bool.and_eq_true, decide_eq_true_eq, List.all_eq_true] at h
  exact ⟨h.1, fun o ho => by simpa [smallO] using h.2 o ho⟩
theorem few_small {l : List OV} (h : few l = true) : l.length < lim ∧ smallD l := by
  obtain ⟨h1, h2⟩ := few_spec h
  unfold lim
  exact ⟨by omega, fun o ho => by have := h2 o ho; unfold lim; omega⟩
theorem eqO_refl (o : OV) : eqO o o = true := by simp [eqO]
theorem same_refl : ∀ l : List OV, same l l = true
  | [] => rfl
  | o :: l => by simp [same, eqO_refl, same_refl l]
theorem ansP_small {r : RV} {l : List OV} {naks : Int} (hl : l.length < lim) (hd : smallD l) : (ansP r l naks).2.length ≤ lim ∧ smallD (ansP r l naks).2 := by
  have h1 : ∀ p : OV → Bool, (l.filter p).length ≤ l.length := fun p => List.length_filter_le _ _
  have d1 : ∀ p : OV → Bool, smallD (l.filter p) := fun p o ho => hd o (List.mem_filter.1 ho).1
  have n4 : ∀ t k n, (numO t k n).d.length ≤ lim := fun t k n => by simp [numO, fourB, lim]; omega
  unfold ansP
  have href : (refL r l (decide (3 ≤ naks))).length ≤ lim ∧ smallD (refL r l (decide (3 ≤ naks))) := by
    unfold refL oddL asL
    cases (decide (3 ≤ naks) && (l.filter fun o => !isK r o).isEmpty)
    · exact ⟨by have := h1 fun o => !isK r o; simp only [cond_false]; omega, d1 _⟩
    · exact ⟨by have := h1 fun o => isK r o && notO r o; simp only [cond_true]; omega, d1 _⟩
  have hto : (toL r l).length ≤ lim ∧ smallD (toL r l) := by
    unfold toL
    constructor
    · have := h1 fun o => isK r o && notO r o
      unfold asL
      cases (r.ip && (l.find? (knownB true)).isNone) <;> simp <;> omega
    · intro o ho
      rcases List.mem_append.1 ho with ho | ho
      · obtain ⟨x, hx, rfl⟩ := List.mem_map.1 ho
        unfold fixO
        cases kOf r x.t with
        | none => exact d1 _ x hx
        | some k => exact n4 _ _ _
      · cases hb : (r.ip && (l.find? (knownB true)).isNone)
        · rw [hb] at ho; cases ho
        · rw [hb] at ho; simp at ho; subst ho; exact n4 _ _ _
  cases (!(refL r l (decide (3 ≤ naks))).isEmpty)
  · cases (!decide (3 ≤ naks) && !(toL r l).isEmpty)
    · exact ⟨Nat.le_of_lt hl, hd⟩
    · exact hto
  · exact href

theorem c_same' (nl c nl' c' : Bool) (l l' : List OV) (hl : l.length ≤ lim) (hd : smallD l) (σ : St) : VCalls Try.prog 17 [.sl nl c 2 (osv l), .sl nl' c' 2 (osv l')] σ fun r σ' => r = .bool (same l l') ∧ σ' = σ := c_same nl c nl' c' l l' hl hd σ

theorem rAsk_small (r : RV) : (rAsk r).length ≤ 2 ∧ ∀ o ∈ rAsk r, o.d.length ≤ 4 := by
  unfold rAsk
  cases r.ip
  · simp [numO, fourB]
  · simp [numO, fourB]

end Go.VL

/- The laws' arguments, as values. Conditions: none. -/
namespace Go.VL
open Go.Proofs

def shBytes : Sh := .sl (.int .u8)
def shOpt : Sh := .st (.pair (.int .u8) (.pair shBytes .nil))
def shOpts : Sh := .sl shOpt
def shU32 : Sh := .int .u32
def shRule : Sh := .st (.pair .bool (.pair shU32 (.pair shU32 (.pair shU32 (.pair shU32 .nil)))))

theorem wf_u8 {n : Int} (h : (Lit.int .u8 n).wf = true) : ∃ b : UInt8, n = (b.toNat : Int) := by
  have h' : 0 ≤ n ∧ n ≤ 255 := by simpa [Lit.wf, IntKind.min, IntKind.max, IntKind.signed, IntKind.bits] using h
  refine ⟨UInt8.ofNat n.toNat, ?_⟩
  simp
  omega
theorem wf_u32 {n : Int} (h : (Lit.int .u32 n).wf = true) : ∃ b : UInt32, n = (b.toNat : Int) := by
  have h' : 0 ≤ n ∧ n ≤ 4294967295 := by simpa [Lit.wf, IntKind.min, IntKind.max, IntKind.signed, IntKind.bits] using h
  refine ⟨UInt32.ofNat n.toNat, ?_⟩
  simp
  omega

theorem bytes_of {cs : List V} (h : shV shBytes cs) : ∃ nl l, cs = [.sl nl false 1 (bv l)] := by
  rcases h with rfl | ⟨es, rfl, _, h⟩
  · exact ⟨true, [], rfl⟩
  · have key : ∀ es : List V, (∀ x ∈ es, isAggV x = false ∧ shV (.int .u8) x.cells) → ∃ l, es = bv l := by
      intro es
      induction es with
      | nil => exact fun _ => ⟨[], rfl⟩
      | cons x es ih =>
        intro h
        obtain ⟨l, rfl⟩ := ih fun y hy => h y (by simp [hy])
        obtain ⟨h1, n, h2, h3⟩ := h x (by simp)
        obtain ⟨b, rfl⟩ := wf_u8 h3
        refine ⟨b :: l, ?_⟩
        cases x with
        | agg cs => simp [isAggV] at h1
        | _ => simp only [V.cells, List.cons.injEq, and_true] at h2; rw [h2]; rfl
    obtain ⟨l, rfl⟩ := key es h
    exact ⟨false, l, rfl⟩

theorem opt_of {cs : List V} (h : shV shOpt cs) : ∃ o, V.agg cs = ov o := by
  obtain ⟨x, y, rfl, ⟨n, rfl, h1⟩, z, w, rfl, h2, rfl⟩ := h
  obtain ⟨b, rfl⟩ := wf_u8 h1
  obtain ⟨nl, l, rfl⟩ := bytes_of h2
  exact ⟨⟨b, nl, false, l⟩, rfl⟩

theorem opts_of {cs : List V} (h : shV shOpts cs) : ∃ nl l, cs = [.sl nl false 2 (osv l)] := by
  rcases h with rfl | ⟨es, rfl, _, h⟩
  · exact ⟨true, [], rfl⟩
  · have key : ∀ es : List V, (∀ x ∈ es, isAggV x = true ∧ shV shOpt x.cells) → ∃ l, es = osv l := by
      intro es
      induction es with
      | nil => exact fun _ => ⟨[], rfl⟩
      | cons x es ih =>
        intro h
        obtain ⟨l, rfl⟩ := ih fun y hy => h y (by simp [hy])
        obtain ⟨h1, h2⟩ := h x (by simp)
        cases x with
        | agg cs =>
          obtain ⟨o, ho⟩ := opt_of h2
          exact ⟨o :: l, by simp only [osv, List.map_cons]; rw [← ho]; rfl⟩
        | _ => simp [isAggV] at h1
    obtain ⟨l, rfl⟩ := key es h
    exact ⟨false, l, rfl⟩

theorem rule_of {cs : List V} (h : shV shRule cs) : ∃ r, V.agg cs = rv r := by
  obtain ⟨x, y, rfl, ⟨ip, rfl⟩, x, y, rfl, ⟨n1, rfl, h1⟩, x, y, rfl, ⟨n2, rfl, h2⟩, x, y, rfl, ⟨n3, rfl, h3⟩, x, y, rfl, ⟨n4, rfl, h4⟩, rfl⟩ := h
  obtain ⟨a1, rfl⟩ := wf_u32 h1
  obtain ⟨a2, rfl⟩ := wf_u32 h2
  obtain ⟨a3, rfl⟩ := wf_u32 h3
  obtain ⟨a4, rfl⟩ := wf_u32 h4
  exact ⟨⟨ip, a1, a2, a3, a4⟩, rfl⟩

end Go.VL
namespace Go.Proofs.Ytbaomchgafpphaa
open Go.VL Go.ChangeShapes Go.WideShapes Go.RowKit

theorem own : ownKnob Try.prog.godebug = none := by kernel_rfl
theorem laidOut : laidOutB Try.prog = true := by kernel_rfl

end Go.Proofs.Ytbaomchgafpphaa
