/- Contracts of this program's functions over values, joined texts. Conditions: none. -/
import Derived.Test.YtonjofnphkghcaaGreatDoorVVc
import Derived.Test.YtonjofnphkghcaaGreatDoorSSa
import Derived.Test.YtonjofnphkghcaaGreatDoorSSb
import Derived.Test.YtonjofnphkghcaaGreatDoorRows
import Derived.Test.YtonjofnphkghcaaGreatDoorCards
import Derived.Test.YtonjofnphkghcaaGreatDoorTie
import Derived.ProofKit
import Derived.WalkKit
import Derived.LaidMore
import Derived.Lay
import Derived.SevenTiedAt
import Derived.Stop.Joined
import Derived.Test.YtonjofnphkghcaaGreatDoorSSm
set_option linter.unusedVariables false
set_option linter.unusedSimpArgs false
/- The laws' arguments, as values; what the listed package variables hold. Conditions: none. -/
namespace Go.VL
open Go.Proofs

def shBytes : Sh := .sl (.int .u8)
def shOpt : Sh := .st (.pair (.int .u8) (.pair shBytes .nil))
def shOpts : Sh := .sl shOpt
def shU32 : Sh := .int .u32
def shI64 : Sh := .int .i64
def shU8 : Sh := .int .u8
def shRule : Sh := .st (.pair .bool (.pair shU32 (.pair shU32 (.pair shU32 (.pair shU32 .nil)))))
def shAuto : Sh := .st (.pair shI64 (.pair shI64 (.pair shI64 (.pair shU8 .nil))))
def shNego : Sh := .st (.pair shAuto (.pair shRule (.pair shOpts (.pair shI64 (.pair shOpts .nil)))))
theorem wf_u8 {n : Int} (h : (Lit.int .u8 n).wf = true) : ∃ b : UInt8, n = (b.toNat : Int) := by
  have h' : 0 ≤ n ∧ n ≤ 255 := by simpa [Lit.wf, IntKind.min, IntKind.max, IntKind.signed, IntKind.bits] using h
  refine ⟨UInt8.ofNat n.toNat, ?_⟩
  simp
  omega
theorem wf_u32 {n : Int} (h : (Lit.int .u32 n).wf = true) : ∃ b : UInt32, n = (b.toNat : Int) := by
  have h' : 0 ≤ n ∧ n ≤ 4294967295 := by simpa [Lit.wf, IntKind.min, IntKind.max, IntKind.signed, IntKind.bits] using h
  refine ⟨UInt32.ofNat n.toNat, ?_⟩
  simp
  omega

theorem bytes_of {cs : List V} (h : shV shBytes cs) : ∃ nl l, cs = [.sl nl false 1 (bv l)] := by
  rcases h with rfl | ⟨es, rfl, _, h⟩
  · exact ⟨true, [], rfl⟩
  · have key : ∀ es : List V, (∀ x ∈ es, isAggV x = false ∧ shV (.int .u8) x.cells) → ∃ l, es = bv l := by
      intro es
      induction es with
      | nil => exact fun _ => ⟨[], rfl⟩
      | cons x es ih =>
        intro h
        obtain ⟨l, rfl⟩ := ih fun y hy => h y (by simp [hy])
        obtain ⟨h1, n, h2, h3⟩ := h x (by simp)
        obtain ⟨b, rfl⟩ := wf_u8 h3
        refine ⟨b :: l, ?_⟩
        cases x with
        | agg cs => simp [isAggV] at h1
        | _ => simp only [V.cells, List.cons.injEq, and_true] at h2; rw [h2]; rfl
    obtain ⟨l, rfl⟩ := key es h
    exact ⟨false, l, rfl⟩

theorem opt_of {cs : List V} (h : shV shOpt cs) : ∃ o, V.agg cs = ov o := by
  obtain ⟨x, y, rfl, ⟨n, rfl, h1⟩, z, w, rfl, h2, rfl⟩ := h
  obtain ⟨b, rfl⟩ := wf_u8 h1
  obtain ⟨nl, l, rfl⟩ := bytes_of h2
  exact ⟨⟨b, nl, false, l⟩, rfl⟩

theorem opts_of {cs : List V} (h : shV shOpts cs) : ∃ nl l, cs = [.sl nl false 2 (osv l)] ∧ (nl = true → l = []) := by
  rcases h with rfl | ⟨es, rfl, _, h⟩
  · exact ⟨true, [], rfl, fun _ => rfl⟩
  · have key : ∀ es : List V, (∀ x ∈ es, isAggV x = true ∧ shV shOpt x.cells) → ∃ l, es = osv l := by
      intro es
      induction es with
      | nil => exact fun _ => ⟨[], rfl⟩
      | cons x es ih =>
        intro h
        obtain ⟨l, rfl⟩ := ih fun y hy => h y (by simp [hy])
        obtain ⟨h1, h2⟩ := h x (by simp)
        cases x with
        | agg cs =>
          obtain ⟨o, ho⟩ := opt_of h2
          exact ⟨o :: l, by simp only [osv, List.map_cons]; rw [← ho]; rfl⟩
        | _ => simp [isAggV] at h1
    obtain ⟨l, rfl⟩ := key es h
    exact ⟨false, l, rfl, fun h => by cases h⟩

theorem rule_of {cs : List V} (h : shV shRule cs) : ∃ r, cs = rvC r := by
  obtain ⟨x, y, rfl, ⟨ip, rfl⟩, x, y, rfl, ⟨n1, rfl, h1⟩, x, y, rfl, ⟨n2, rfl, h2⟩, x, y, rfl, ⟨n3, rfl, h3⟩, x, y, rfl, ⟨n4, rfl, h4⟩, rfl⟩ := h
  obtain ⟨a1, rfl⟩ := wf_u32 h1
  obtain ⟨a2, rfl⟩ := wf_u32 h2
  obtain ⟨a3, rfl⟩ := wf_u32 h3
  obtain ⟨a4, rfl⟩ := wf_u32 h4
  exact ⟨⟨ip, a1, a2, a3, a4⟩, rfl⟩
theorem auto_of {cs : List V} (h : shV shAuto cs) : ∃ a, cs = auC a := by
  obtain ⟨x, y, rfl, ⟨n1, rfl, _⟩, x, y, rfl, ⟨n2, rfl, _⟩, x, y, rfl, ⟨n3, rfl, _⟩, x, y, rfl, ⟨n4, rfl, h4⟩, rfl⟩ := h
  obtain ⟨a4, rfl⟩ := wf_u8 h4
  exact ⟨⟨n1, n2, n3, a4⟩, rfl⟩
theorem nego_of {cs : List V} (h : shV shNego cs) : ∃ n, cs = ngC n ∧ n.ps = 2 ∧ (n.on = true → n.ours = []) := by
  obtain ⟨x, y, rfl, h1, x, y, rfl, h2, x, y, rfl, h3, x, y, rfl, ⟨k, rfl, _⟩, x, y, rfl, h5, rfl⟩ := h
  obtain ⟨a, rfl⟩ := auto_of h1
  obtain ⟨r, rfl⟩ := rule_of h2
  obtain ⟨on, ours, rfl, hon⟩ := opts_of h3
  obtain ⟨pn, peer, rfl, _⟩ := opts_of h5
  exact ⟨⟨a, r, ours, on, false, k, peer, pn, false, 2⟩, rfl, rfl, hon⟩
section
open Go.ChangeShapes Go.WideShapes Go.Deep Go.RowKit
variable {H : Type} {enc : TypeId × Value → H} {P : Program}
/-- A law's call, out of what is shown of it over values, where the package variables that it looks at hold what they are laid with. -/
theorem law_calls_g {f : FuncId} {ss : List Sh} {ts : List TypeId} (hs : shTs P ss ts = true) (hc : ∀ vs, argsV ss vs → VCalls P f vs [] fun r _ => r = .bool true) {W : World} (hg : GLO (Bad (fun _ => False) []) W) {base : Nat} {args : Array Value} {ds : List (DataW H)} {p : List MemPlace}
    (hv : ∀ (j : Nat) t v, ts[j]? = some t → args.toList[j]? = some v → Value.okWide P W .any base t v) (h : DataW.TrodAll enc P W 0 (fun _ => true) true ts args.toList ds p) (hsz : (DataW.weightsEach P (ts ++ []) (ds ++ [])).all (· ≤ reachBytes) = true) :
    Calls P f args W fun e W' => e = .returned (.bool true) ∧ Below W.heap.size W W' := by
  rw [List.append_nil, List.append_nil] at hsz
  obtain ⟨vs, h1, h2⟩ := args_of hs hv h hsz
  have hR : Rel (fun _ => False) [] [] W := ⟨rfl, fun i j b c d h => (by simp at h), fun i b c h => (by simp at h), fun b h => h.elim, fun i o bm h => (by simp at h), hg⟩
  have := (hc vs h1).2 _ [] W args.toList hR h2
  rw [Array.toArray_toList] at this
  refine this.mono fun e W' ⟨r, u, m', σ', h3, h4, h5, h6, h7⟩ => ?_
  subst h7
  rw [h3, h4.bool_inv]
  exact ⟨rfl, h6.below⟩
end
end Go.VL
namespace Go.Proofs.YtonjofnphkghcaaGreatDoor
open Go.VL Go.ChangeShapes Go.WideShapes Go.RowKit

theorem own : ownKnob Tryz.prog.godebug = none := by kernel_rfl
theorem laidOut : laidOutB Tryz.prog = true := by kernel_rfl

def laidL : List (String × DataW Unit) := [("unicode.White_Space", Rows.laid_unicode_White_Space), ("strings.asciiSpace", Rows.laid_strings_asciiSpace)]
def spaceZ : List Int := (List.range 256).map fun i => bif (Nat.ble 9 i && Nat.ble i 13) || Nat.beq i 32 then 1 else 0
theorem space_data : (Rows.laid_strings_asciiSpace : DataW Unit) = .agg (spaceZ.map fun n => .lit (.int .u8 n)) := by kernel_rfl
theorem space_cell {W : World} (h : laidMetH Tryz.prog laidL W) (r : Nat) (hr : r < 256) : W.cell? ⟨0, r, none⟩ = some (.int .u8 (spaceZ.getD r 0)) := by
  rw [MakeChecks.laidMetH_plain _ _ _ (by kernel_rfl)] at h
  obtain ⟨ps, ⟨_, _, _, _, _, _, _, _, _, _, h2, _⟩, _, _⟩ := h
  obtain ⟨g, t, cs, fuel, p, q, hg, ht, hv, hd, _, _⟩ := h2
  obtain rfl := Option.some.inj ((show Tryz.prog.globalNamed "strings.asciiSpace" = some 0 by kernel_rfl).symm.trans hg)
  obtain rfl := Option.some.inj ((show (Tryz.prog.globals[0]?).map (·.type) = some 271 by kernel_rfl).symm.trans ht)
  rw [space_data] at hd
  obtain ⟨xs, m, _, ex, _, hl, hel⟩ := DataW.trod_array Tryz.underlying271 hd
  have c5 : Tryz.prog.cellsOf 5 = 1 := by kernel_rfl
  have hE := hel r hr
  rw [c5, Nat.mul_one, List.getElem?_eq_getElem (by omega)] at hE
  obtain ⟨z, e1, e2, _⟩ := DataW.trod_int Tryz.underlying5 hE
  have hlen : spaceZ.length = 256 := by kernel_rfl
  have e3 : (xs.map (·.1)) = spaceZ.map fun n => .lit (.int .u8 n) := (DataW.agg.inj (Prod.mk.inj ex).1).symm
  have e4 : (xs.map (·.1))[r]? = (spaceZ.map fun n => (DataW.lit (.int .u8 n) : DataW Unit))[r]? := by rw [e3]
  rw [List.getElem?_map, List.getElem?_map, List.getElem?_eq_getElem (by omega : r < xs.length), List.getElem?_eq_getElem (by omega : r < spaceZ.length), e2] at e4
  have hz : z = spaceZ.getD r 0 := by
    simp only [Option.map_some, Option.some.injEq, DataW.lit.injEq, Lit.int.injEq, true_and] at e4
    rw [e4, List.getD, List.getElem?_eq_getElem (by omega : r < spaceZ.length)]; rfl
  rw [World.var?_cell hg hv r, ← hz]
  have : cs.toList[r]? = some (.int .u8 z) := by
    have h0 : ((cs.toList.drop r).take 1)[0]? = some (.int .u8 z) := by rw [e1]; rfl
    simpa using h0
  simpa using this
theorem globs_space : globs 0 = some (spaceZ.map fun n => .int .u8 n) := by
  unfold spaceZ
  rw [List.map_map]
  show some _ = some _
  congr 1
theorem glo_of {W : World} (h : laidMetH Tryz.prog laidL W) : GLO (Bad (fun _ => False) []) W := by
  intro g cs hg
  match g, hg with
  | 0, hg =>
    rw [globs_space] at hg
    obtain rfl := Option.some.inj hg
    have hlen : spaceZ.length = 256 := by kernel_rfl
    have hB : ∀ b, ¬ Bad (fun _ => False) ([] : Mp) b := by
      rintro b (h | ⟨i, c, h⟩)
      · exact h
      · simp at h
    have h0 := space_cell h 0 (by decide)
    refine .ip _ ⟨0, 0, none⟩ (fun j => .int .u8 (spaceZ.getD j 0)) (fun _ => hB _) (fun _ => ?_) (fun j hj => ?_) fun r v hr => ?_
    · unfold World.cell? at h0
      cases hh : W.heap[0]? with
      | none => simp [hh] at h0
      | some o => exact (Array.getElem?_eq_some_iff.1 hh).1
    · rw [List.length_map, hlen] at hj
      have := space_cell h j hj
      have e : (⟨0, 0, none⟩ : Addr).add j = ⟨0, j, none⟩ := by
        by_cases hz : j = 0
        · subst hz; rfl
        · simp [Addr.add, hz]
      rw [e]
      exact this
    · rw [List.getElem?_map] at hr
      cases hq : spaceZ[r]? with
      | none => rw [hq] at hr; cases hr
      | some z =>
        rw [hq] at hr
        obtain rfl := Option.some.inj hr
        rw [List.getD, hq]
        exact .int _ _
  | g + 1, hg => cases hg

end Go.Proofs.YtonjofnphkghcaaGreatDoor

/- Links, frames and lines, as a law's arguments. Conditions: none. -/
namespace Go.VL
open Go.Proofs

def shU16 : Sh := .int .u16
def shU64 : Sh := .int .u64
def shB16 : Sh := .arr 16 shU8
def shLine : Sh := .st (.pair shBytes (.pair .bool .nil))
def shAuth : Sh := .st (.pair shI64 (.pair shI64 (.pair shI64 (.pair shU8 (.pair shB16 (.pair .str (.pair shB16 .nil)))))))
def shMeter : Sh := .st (.pair shU64 (.pair shU64 (.pair shI64 .nil)))
def shLink : Sh := .st (.pair shI64 (.pair shLine (.pair shNego (.pair shNego (.pair shAuth (.pair shMeter (.pair shI64 (.pair shU32 .nil))))))))
def shJudges : Sh := .st (.pair shLink (.pair shB16 (.pair .str (.pair shU16 (.pair shU32 .nil)))))
theorem wf_u16 {n : Int} (h : (Lit.int .u16 n).wf = true) : ∃ b : UInt16, n = (b.toNat : Int) := by
  have h' : 0 ≤ n ∧ n ≤ 65535 := by simpa [Lit.wf, IntKind.min, IntKind.max, IntKind.signed, IntKind.bits] using h
  refine ⟨UInt16.ofNat n.toNat, ?_⟩
  simp
  omega
theorem wf_u64 {n : Int} (h : (Lit.int .u64 n).wf = true) : ∃ b : UInt64, n = (b.toNat : Int) := by
  have h' : 0 ≤ n ∧ n ≤ 18446744073709551615 := by simpa [Lit.wf, IntKind.min, IntKind.max, IntKind.signed, IntKind.bits] using h
  refine ⟨UInt64.ofNat n.toNat, ?_⟩
  simp
  omega
theorem b16_of {cs : List V} (h : shV shB16 cs) : ∃ x, cs = b16C x := by
  obtain ⟨ps, rfl, hl, h⟩ := h
  have key : ∀ ps : List (List V), (∀ x ∈ ps, shV shU8 x) → ∃ bs : List UInt8, ps.flatten = bv bs ∧ bs.length = ps.length := by
    intro ps
    induction ps with
    | nil => exact fun _ => ⟨[], rfl, rfl⟩
    | cons p ps ih =>
      intro h
      obtain ⟨bs, h1, h2⟩ := ih fun x hx => h x (by simp [hx])
      obtain ⟨n, rfl, h3⟩ := h p (by simp)
      obtain ⟨b, rfl⟩ := wf_u8 h3
      exact ⟨b :: bs, by rw [List.flatten_cons, h1]; rfl, by simp [h2]⟩
  obtain ⟨bs, h1, h2⟩ := key ps h
  rw [hl] at h2
  rw [h1]
  match bs, h2 with
  | [b0, b1, b2, b3, b4, b5, b6, b7, b8, b9, b10, b11, b12, b13, b14, b15], _ => exact ⟨⟨b0, b1, b2, b3, b4, b5, b6, b7, b8, b9, b10, b11, b12, b13, b14, b15⟩, rfl⟩
theorem bytes_of' {cs : List V} (h : shV shBytes cs) : ∃ nl l, cs = [.sl nl false 1 (bv l)] ∧ (nl = true → l = []) := by
  rcases h with rfl | ⟨es, rfl, h1, h⟩
  · exact ⟨true, [], rfl, fun _ => rfl⟩
  · obtain ⟨nl, l, e⟩ := bytes_of (.inr ⟨es, rfl, h1, h⟩)
    simp only [List.cons.injEq, V.sl.injEq, and_true, true_and] at e
    obtain ⟨rfl, _, rfl⟩ := e
    exact ⟨false, l, rfl, fun h => by cases h⟩
theorem line_of {cs : List V} (h : shV shLine cs) : ∃ l, cs = lnC l ∧ l.sz = 1 := by
  obtain ⟨x, y, rfl, h1, x, y, rfl, ⟨b, rfl⟩, rfl⟩ := h
  obtain ⟨nl, l, rfl, _⟩ := bytes_of' h1
  exact ⟨⟨l, nl, false, 1, b⟩, rfl, rfl⟩
theorem auth_of {cs : List V} (h : shV shAuth cs) : ∃ a, cs = auhC a := by
  obtain ⟨x, y, rfl, ⟨n1, rfl, _⟩, x, y, rfl, ⟨n2, rfl, _⟩, x, y, rfl, ⟨n3, rfl, _⟩, x, y, rfl, ⟨n4, rfl, h4⟩, x, y, rfl, h5, x, y, rfl, ⟨s, rfl, _⟩, x, y, rfl, h7, rfl⟩ := h
  obtain ⟨a4, rfl⟩ := wf_u8 h4
  obtain ⟨v, rfl⟩ := b16_of h5
  obtain ⟨p, rfl⟩ := b16_of h7
  exact ⟨⟨n1, n2, n3, a4, v, s, p⟩, rfl⟩
theorem meter_of {cs : List V} (h : shV shMeter cs) : ∃ m, cs = meC m := by
  obtain ⟨x, y, rfl, ⟨n1, rfl, h1⟩, x, y, rfl, ⟨n2, rfl, h2⟩, x, y, rfl, ⟨n3, rfl, _⟩, rfl⟩ := h
  obtain ⟨a1, rfl⟩ := wf_u64 h1
  obtain ⟨a2, rfl⟩ := wf_u64 h2
  exact ⟨⟨a1, a2, n3⟩, rfl⟩
/-- A link that a law is given. -/
structure GivK (k : LinkV) : Prop where
  z : k.line.sz = 1
  l : k.l.ps = 2
  n : k.n.ps = 2
  lo : k.l.on = true → k.l.ours = []
  no : k.n.on = true → k.n.ours = []
theorem link_of {cs : List V} (h : shV shLink cs) : ∃ k, cs = lkC k ∧ GivK k := by
  obtain ⟨x, y, rfl, ⟨n1, rfl, _⟩, x, y, rfl, h2, x, y, rfl, h3, x, y, rfl, h4, x, y, rfl, h5, x, y, rfl, h6, x, y, rfl, ⟨n7, rfl, _⟩, x, y, rfl, ⟨n8, rfl, h8⟩, rfl⟩ := h
  obtain ⟨a8, rfl⟩ := wf_u32 h8
  obtain ⟨ln, rfl, z2⟩ := line_of h2
  obtain ⟨l, rfl, z3, o3⟩ := nego_of h3
  obtain ⟨n, rfl, z4, o4⟩ := nego_of h4
  obtain ⟨a, rfl⟩ := auth_of h5
  obtain ⟨m, rfl⟩ := meter_of h6
  exact ⟨⟨n1, ln, l, n, a, m, n7, a8⟩, rfl, z2, z3, z4, o3, o4⟩
end Go.VL
