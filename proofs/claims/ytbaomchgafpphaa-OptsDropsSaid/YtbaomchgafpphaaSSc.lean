/- The laws' arguments, as values. Conditions: none. -/
import Derived.Test.YtbaomchgafpphaaVVc
import Derived.Test.YtbaomchgafpphaaSSb
import Derived.Test.YtbaomchgafpphaaRows
import Derived.ProofKit
import Derived.WalkKit
set_option linter.unusedVariables false
set_option linter.unusedSimpArgs false
namespace Go.VL
open Go.Proofs

def shBytes : Sh := .sl (.int .u8)
def shOpt : Sh := .st (.pair (.int .u8) (.pair shBytes .nil))
def shOpts : Sh := .sl shOpt
def shU32 : Sh := .int .u32

theorem wf_u8 {n : Int} (h : (Lit.int .u8 n).wf = true) : ∃ b : UInt8, n = (b.toNat : Int) := by
  have h' : 0 ≤ n ∧ n ≤ 255 := by simpa [Lit.wf, IntKind.min, IntKind.max, IntKind.signed, IntKind.bits] using h
  refine ⟨UInt8.ofNat n.toNat, ?_⟩
  simp
  omega
theorem wf_u32 {n : Int} (h : (Lit.int .u32 n).wf = true) : ∃ b : UInt32, n = (b.toNat : Int) := by
  have h' : 0 ≤ n ∧ n ≤ 4294967295 := by simpa [Lit.wf, IntKind.min, IntKind.max, IntKind.signed, IntKind.bits] using h
  refine ⟨UInt32.ofNat n.toNat, ?_⟩
  simp
  omega

theorem bytes_of {cs : List V} (h : shV shBytes cs) : ∃ nl l, cs = [.sl nl false 1 (bv l)] := by
  rcases h with rfl | ⟨es, rfl, _, h⟩
  · exact ⟨true, [], rfl⟩
  · have key : ∀ es : List V, (∀ x ∈ es, isAggV x = false ∧ shV (.int .u8) x.cells) → ∃ l, es = bv l := by
      intro es
      induction es with
      | nil => exact fun _ => ⟨[], rfl⟩
      | cons x es ih =>
        intro h
        obtain ⟨l, rfl⟩ := ih fun y hy => h y (by simp [hy])
        obtain ⟨h1, n, h2, h3⟩ := h x (by simp)
        obtain ⟨b, rfl⟩ := wf_u8 h3
        refine ⟨b :: l, ?_⟩
        cases x with
        | agg cs => simp [isAggV] at h1
        | _ => simp only [V.cells, List.cons.injEq, and_true] at h2; rw [h2]; rfl
    obtain ⟨l, rfl⟩ := key es h
    exact ⟨false, l, rfl⟩

theorem opt_of {cs : List V} (h : shV shOpt cs) : ∃ o, V.agg cs = ov o := by
  obtain ⟨x, y, rfl, ⟨n, rfl, h1⟩, z, w, rfl, h2, rfl⟩ := h
  obtain ⟨b, rfl⟩ := wf_u8 h1
  obtain ⟨nl, l, rfl⟩ := bytes_of h2
  exact ⟨⟨b, nl, false, l⟩, rfl⟩

theorem opts_of {cs : List V} (h : shV shOpts cs) : ∃ nl l, cs = [.sl nl false 2 (osv l)] ∧ (nl = true → l = []) := by
  rcases h with rfl | ⟨es, rfl, _, h⟩
  · exact ⟨true, [], rfl, fun _ => rfl⟩
  · have key : ∀ es : List V, (∀ x ∈ es, isAggV x = true ∧ shV shOpt x.cells) → ∃ l, es = osv l := by
      intro es
      induction es with
      | nil => exact fun _ => ⟨[], rfl⟩
      | cons x es ih =>
        intro h
        obtain ⟨l, rfl⟩ := ih fun y hy => h y (by simp [hy])
        obtain ⟨h1, h2⟩ := h x (by simp)
        cases x with
        | agg cs =>
          obtain ⟨o, ho⟩ := opt_of h2
          exact ⟨o :: l, by simp only [osv, List.map_cons]; rw [← ho]; rfl⟩
        | _ => simp [isAggV] at h1
    obtain ⟨l, rfl⟩ := key es h
    exact ⟨false, l, rfl, fun h => (by cases h)⟩

def shDrops : Sh := .st (.pair shOpts (.pair (.int .u8) (.pair (.int .u8) (.pair shOpt .nil))))
theorem drops_of {cs : List V} (h : shV shDrops cs) : ∃ nl l, ∃ s t : UInt8, ∃ o : OV, cs = [.sl nl false 2 (osv l), .int .u8 s.toNat, .int .u8 t.toNat, .int .u8 o.t.toNat, .sl o.nl o.c 1 (bv o.d)] ∧ (nl = true → l = []) := by
  obtain ⟨x, y, rfl, h1, x, y, rfl, ⟨n1, rfl, h2⟩, x, y, rfl, ⟨n2, rfl, h3⟩, x, y, rfl, h4, rfl⟩ := h
  obtain ⟨nl, l, rfl, hn⟩ := opts_of h1
  obtain ⟨s, rfl⟩ := wf_u8 h2
  obtain ⟨t, rfl⟩ := wf_u8 h3
  obtain ⟨o, ho⟩ := opt_of h4
  refine ⟨nl, l, s, t, o, ?_, hn⟩
  unfold ov at ho
  cases ho
  rfl

end Go.VL
namespace Go.Proofs.Ytbaomchgafpphaa
open Go.VL Go.ChangeShapes Go.WideShapes Go.RowKit

theorem own : ownKnob Try.prog.godebug = none := by kernel_rfl
theorem laidOut : laidOutB Try.prog = true := by kernel_rfl

end Go.Proofs.Ytbaomchgafpphaa
