/- Contracts of this program's functions over values, joined texts. Conditions: none. -/
import Derived.Test.YtmeoignpknjdeaaVVc
import Derived.Test.YtmeoignpknjdeaaSSb
import Derived.Test.YtmeoignpknjdeaaRows
import Derived.ProofKit
import Derived.WalkKit
set_option linter.unusedVariables false
set_option linter.unusedSimpArgs false
/- The laws' arguments, as values. Conditions: none. -/
namespace Go.VL
open Go.Proofs

def shSess : Sh := .st (.pair (.int .i64) (.pair (.int .i64) (.pair (.int .u32) (.pair .str (.pair (.int .u64) (.pair (.int .u64) .nil))))))
def shItem : Sh := .st (.pair (.int .i64) (.pair (.int .i64) (.pair (.int .u64) (.pair (.int .u64) (.pair (.int .i64) .nil)))))
def shLock : Sh := .st (.pair .str (.pair (.int .i64) (.pair (.int .i64) .nil)))
def shBook : Sh := .st (.pair (.int .i64) (.pair (.sl shSess) (.pair (.sl shItem) (.pair (.sl shLock) .nil))))
def shAct : Sh := .st (.pair (.int .i64) (.pair (.int .i64) (.pair (.int .i64) (.pair (.int .u32) (.pair .str (.pair (.int .u64) (.pair (.int .u64) (.pair (.int .i64) (.pair (.int .i64) .nil)))))))))
def shI64 : Sh := .int .i64

theorem u32_lt {n : Int} (h : (Lit.int .u32 n).wf = true) : 0 ≤ n ∧ n < 4294967296 := by
  have h' : 0 ≤ n ∧ n ≤ 4294967295 := by simpa [Lit.wf, IntKind.min, IntKind.max, IntKind.signed, IntKind.bits] using h
  omega

theorem sess_of {cs : List V} (h : shV shSess cs) : ∃ s, V.agg cs = sv s := by
  obtain ⟨x, y, rfl, ⟨n1, rfl, _⟩, x, y, rfl, ⟨n2, rfl, _⟩, x, y, rfl, ⟨n3, rfl, _⟩, x, y, rfl, ⟨n4, rfl, _⟩, x, y, rfl, ⟨n5, rfl, _⟩, x, y, rfl, ⟨n6, rfl, _⟩, rfl⟩ := h
  exact ⟨⟨n1, n2, n3, n4, n5, n6⟩, rfl⟩
theorem item_of {cs : List V} (h : shV shItem cs) : ∃ s, V.agg cs = iv s := by
  obtain ⟨x, y, rfl, ⟨n1, rfl, _⟩, x, y, rfl, ⟨n2, rfl, _⟩, x, y, rfl, ⟨n3, rfl, _⟩, x, y, rfl, ⟨n4, rfl, _⟩, x, y, rfl, ⟨n5, rfl, _⟩, rfl⟩ := h
  exact ⟨⟨n1, n2, n3, n4, n5⟩, rfl⟩
theorem lock_of {cs : List V} (h : shV shLock cs) : ∃ s, V.agg cs = lv s := by
  obtain ⟨x, y, rfl, ⟨n1, rfl, _⟩, x, y, rfl, ⟨n2, rfl, _⟩, x, y, rfl, ⟨n3, rfl, _⟩, rfl⟩ := h
  exact ⟨⟨n1, n2, n3⟩, rfl⟩
theorem act_of {cs : List V} (h : shV shAct cs) : ∃ o, V.agg cs = pv o ∧ o.addr < 4294967296 := by
  obtain ⟨x, y, rfl, ⟨n1, rfl, _⟩, x, y, rfl, ⟨n2, rfl, _⟩, x, y, rfl, ⟨n3, rfl, _⟩, x, y, rfl, ⟨n4, rfl, h4⟩, x, y, rfl, ⟨n5, rfl, _⟩, x, y, rfl, ⟨n6, rfl, _⟩, x, y, rfl, ⟨n7, rfl, _⟩, x, y, rfl, ⟨n8, rfl, _⟩, x, y, rfl, ⟨n9, rfl, _⟩, rfl⟩ := h
  exact ⟨⟨n1, n2, n3, n4, n5, n6, n7, n8, n9⟩, rfl, (u32_lt h4).2⟩
theorem row_of {α : Type} {e : Sh} {m : α → V} (he : e.isAgg = true) (hm : ∀ cs, shV e cs → ∃ s, V.agg cs = m s) {cs : List V} (h : shV (.sl e) cs) : ∃ nl, ∃ l : List α, cs = [.sl nl false e.size (l.map m)] ∧ (nl = true → l = []) ∧ l.length ≤ reachBytes := by
  rcases h with rfl | ⟨es, rfl, hl, h⟩
  · exact ⟨true, [], rfl, fun _ => rfl, Nat.zero_le _⟩
  · have key : ∀ es : List V, (∀ x ∈ es, isAggV x = e.isAgg ∧ shV e x.cells) → ∃ l : List α, es = l.map m := by
      intro es
      induction es with
      | nil => exact fun _ => ⟨[], rfl⟩
      | cons x es ih =>
        intro h
        obtain ⟨l, rfl⟩ := ih fun y hy => h y (by simp [hy])
        obtain ⟨h1, h2⟩ := h x (by simp)
        cases x with
        | agg cs =>
          obtain ⟨o, ho⟩ := hm _ h2
          exact ⟨o :: l, by simp only [List.map_cons]; rw [← ho]; rfl⟩
        | _ => rw [he] at h1; cases h1
    obtain ⟨l, rfl⟩ := key es h
    exact ⟨false, l, rfl, fun h => (by cases h), by simpa using hl⟩

theorem rowQ_of {α : Type} {e : Sh} {m : α → V} {Q : α → Prop} (he : e.isAgg = true) (hm : ∀ cs, shV e cs → ∃ s, V.agg cs = m s ∧ Q s) {cs : List V} (h : shV (.sl e) cs) : ∃ nl, ∃ l : List α, cs = [.sl nl false e.size (l.map m)] ∧ (nl = true → l = []) ∧ l.length ≤ reachBytes ∧ ∀ s ∈ l, Q s := by
  rcases h with rfl | ⟨es, rfl, hl, h⟩
  · exact ⟨true, [], rfl, fun _ => rfl, Nat.zero_le _, fun s h => by cases h⟩
  · have key : ∀ es : List V, (∀ x ∈ es, isAggV x = e.isAgg ∧ shV e x.cells) → ∃ l : List α, es = l.map m ∧ ∀ s ∈ l, Q s := by
      intro es
      induction es with
      | nil => exact fun _ => ⟨[], rfl, fun s h => by cases h⟩
      | cons x es ih =>
        intro h
        obtain ⟨l, rfl, hq⟩ := ih fun y hy => h y (by simp [hy])
        obtain ⟨h1, h2⟩ := h x (by simp)
        cases x with
        | agg cs =>
          obtain ⟨o, ho, hQ⟩ := hm _ h2
          refine ⟨o :: l, by simp only [List.map_cons]; rw [← ho]; rfl, fun s hs => ?_⟩
          rcases List.mem_cons.1 hs with rfl | hs
          · exact hQ
          · exact hq s hs
        | _ => rw [he] at h1; cases h1
    obtain ⟨l, rfl, hq⟩ := key es h
    exact ⟨false, l, rfl, fun h => (by cases h), by simpa using hl, hq⟩

theorem book_of {cs : List V} (h : shV shBook cs) : ∃ b, V.agg cs = bkv b ∧ BOK b ∧ b.ol.length < 4611686018427387904 ∧ b.il.length < 4611686018427387904 ∧ b.ll.length < 4611686018427387904 := by
  obtain ⟨x, y, rfl, ⟨n1, rfl, _⟩, x, y, rfl, h1, x, y, rfl, h2, x, y, rfl, h3, rfl⟩ := h
  obtain ⟨on, ol, rfl, o1, o2⟩ := row_of (m := sv) rfl (fun _ => sess_of) h1
  obtain ⟨inl, il, rfl, i1, i2⟩ := row_of (m := iv) rfl (fun _ => item_of) h2
  obtain ⟨ln, ll, rfl, l1, l2⟩ := row_of (m := lv) rfl (fun _ => lock_of) h3
  have hr : reachBytes < 4611686018427387904 := by decide
  exact ⟨⟨n1, ol, on, il, inl, ll, ln⟩, rfl, ⟨o1, i1, l1⟩, by show ol.length < _; omega, by show il.length < _; omega, by show ll.length < _; omega⟩

end Go.VL
namespace Go.Proofs.Ytmeoignpknjdeaa
open Go.VL Go.ChangeShapes Go.WideShapes Go.RowKit

theorem own : ownKnob Try.prog.godebug = none := by kernel_rfl
theorem laidOut : laidOutB Try.prog = true := by kernel_rfl

end Go.Proofs.Ytmeoignpknjdeaa

/- What is done to a right book's locks. Conditions: none. -/
namespace Go.VL
open Go.Proofs

theorem idx_find {α : Type} {p : α → Bool} {l : List α} {x : α} (h : l.find? p = some x) : ∃ k, ∃ hk : k < l.length, idxL p l = k ∧ l[k] = x := by
  rcases idxL_cases p l with h' | ⟨i, h1, h2, h3⟩
  · rw [find_none h'] at h; cases h
  · rw [find_at h1 h2 h3] at h
    exact ⟨i, h1, idxL_at h1 h2 h3, Option.some.inj h⟩
theorem idx_find_none {α : Type} {p : α → Bool} {l : List α} (h : l.find? p = none) : idxL p l = -1 := by
  rcases idxL_cases p l with h' | ⟨i, h1, h2, h3⟩
  · exact idxL_none h'
  · rw [find_at h1 h2 h3] at h; cases h
theorem find_uniq {α : Type} {p : α → Bool} {x : α} : ∀ {l : List α}, x ∈ l → p x = true → (∀ y ∈ l, p y = true → y = x) → l.find? p = some x
  | y :: l, hx, hp, hu => by
    rw [List.find?_cons]
    cases e : p y with
    | true => rw [hu y (by simp) e]
    | false =>
      rcases List.mem_cons.1 hx with rfl | hx
      · rw [hp] at e; cases e
      · exact find_uniq hx hp fun z hz => hu z (by simp [hz])
theorem usL_iff {u : ByteArray} {x : LV} : usL u x = true ↔ x.user = u := by unfold usL; exact decide_eq_true_iff

theorem lock_idx {b : BV} (R : RightF b) {i : Nat} (h : i < b.ll.length) : idxL (usL b.ll[i].user) b.ll = i := by
  have := R.lock i h
  unfold lockB at this
  simp only [Bool.and_eq_true, beq_iff_eq] at this
  exact this.2
theorem lock_uniq {b : BV} (R : RightF b) {i k : Nat} (h : i < b.ll.length) (hk : k < b.ll.length) (e : b.ll[k].user = b.ll[i].user) : k = i := by
  have h1 := lock_idx R h
  have h2 := lock_idx R hk
  rw [e, h1] at h2
  omega
theorem lock_mem_uniq {b : BV} (R : RightF b) {i : Nat} (h : i < b.ll.length) {y : LV} (hy : y ∈ b.ll) (e : y.user = b.ll[i].user) : y = b.ll[i] := by
  obtain ⟨k, hk, rfl⟩ := List.mem_iff_getElem.1 hy
  have := lock_uniq R h hk e
  subst this
  rfl
theorem lock_find {b : BV} (R : RightF b) {i : Nat} (h : i < b.ll.length) : b.ll.find? (usL b.ll[i].user) = some b.ll[i] :=
  find_uniq (List.getElem_mem h) (usL_iff.2 rfl) fun y hy e => lock_mem_uniq R h hy (usL_iff.1 e)

/-- What becomes of a lock. -/
def cntP (b : BV) (o : PV) (l : LV) : Prop :=
  ((applyP b o).2 = 0 ∧ o.kind = 5 ∧ o.user = l.user ∧ (applyP b o).1.ll.find? (usL l.user) = none) ∨
  ((applyP b o).2 = 0 ∧ o.kind = 4 ∧ o.user = l.user ∧ (applyP b o).1.ll.find? (usL l.user) = some (failL l o)) ∨
  (¬((applyP b o).2 = 0 ∧ o.kind = 5 ∧ o.user = l.user) ∧ ¬((applyP b o).2 = 0 ∧ o.kind = 4 ∧ o.user = l.user) ∧ (applyP b o).1.ll.find? (usL l.user) = some l)

theorem counts {b : BV} (R : RightF b) (o : PV) {i : Nat} (h : i < b.ll.length) : cntP b o b.ll[i] := by
  have same : (applyP b o).1.ll = b.ll → ¬((applyP b o).2 = 0 ∧ o.kind = 5) → ¬((applyP b o).2 = 0 ∧ o.kind = 4) → cntP b o b.ll[i] := fun e h1 h2 =>
    .inr (.inr ⟨fun h => h1 ⟨h.1, h.2.1⟩, fun h => h2 ⟨h.1, h.2.1⟩, by rw [e]; exact lock_find R h⟩)
  cases e0 : mayB o
  · have he : applyP b o = (b, 1) := by unfold applyP; rw [e0]; rfl
    exact same (by rw [he]) (by rw [he]; exact fun h => absurd (show (1 : Int) = 0 from h.1) (by decide)) (by rw [he]; exact fun h => absurd (show (1 : Int) = 0 from h.1) (by decide))
  have hk := e0
  simp only [mayB, Bool.and_eq_true, decide_eq_true_eq] at hk
  rcases kind_cases hk.1.1 hk.1.2 with h' | h' | h' | h' | h' | h'
  · refine same ?_ (by omega) (by omega)
    unfold applyP
    rw [e0, if_neg (by decide), if_pos h']
    split <;> rfl
  · refine same ?_ (by omega) (by omega)
    unfold applyP
    rw [e0, if_neg (by decide), if_neg (by omega), if_pos h']
    split <;> rfl
  · refine same ?_ (by omega) (by omega)
    unfold applyP
    rw [e0, if_neg (by decide), if_neg (by omega), if_neg (by omega), if_pos h']
    split <;> rfl
  · have he : applyP b o = if failE b o = 0 then ({ b with ll := if (b.ll.find? (usL o.user)).isSome then failRow b o else b.ll ++ [⟨o.user, 1, o.t⟩], ln := false }, 0) else (b, failE b o) := by
      unfold applyP
      rw [e0, if_neg (by decide), if_neg (by omega), if_neg (by omega), if_neg (by omega), if_pos h']
    by_cases hE : failE b o = 0
    · rw [if_pos hE] at he
      by_cases hu : o.user = b.ll[i].user
      · have hI : lkI b o = i := by unfold lkI; rw [hu]; exact lock_idx R h
        have hs : (b.ll.find? (usL o.user)).isSome = true := by rw [hu, lock_find R h]; rfl
        rw [if_pos hs] at he
        refine .inr (.inl ⟨by rw [he], h', hu, ?_⟩)
        rw [he]
        show (failRow b o).find? _ = _
        have hg : failRow b o = b.ll.set i (failL b.ll[i] o) := by
          unfold failRow
          rw [hI]
          simp [h]
        rw [hg]
        refine find_uniq (List.mem_set h _) (usL_iff.2 rfl) fun y hy e => ?_
        obtain ⟨k, hk, hy⟩ := List.mem_iff_getElem.1 hy
        rw [List.getElem_set] at hy
        split at hy
        · exact hy.symm
        · rename_i hne
          exfalso
          have hk' : k < b.ll.length := by simpa using hk
          have := lock_uniq R h hk' (by rw [hy]; exact usL_iff.1 e)
          exact hne this.symm
      · refine .inr (.inr ⟨by omega, fun h => hu h.2.2, ?_⟩)
        rw [he]
        show (if (b.ll.find? (usL o.user)).isSome = true then failRow b o else b.ll ++ [⟨o.user, 1, o.t⟩]).find? _ = _
        cases hf : b.ll.find? (usL o.user) with
        | none =>
          rw [if_neg (by decide), List.find?_append, lock_find R h]
          rfl
        | some x =>
          rw [if_pos (show (some x).isSome = true from rfl)]
          obtain ⟨j, hj, h1, h2⟩ := idx_find hf
          have hx : x.user = o.user := usL_iff.1 (List.find?_some hf)
          have hg : failRow b o = b.ll.set j (failL x o) := by
            unfold failRow lkI
            rw [h1]
            simp [hj, h2]
          have hji : j ≠ i := fun e => by subst e; exact hu (by rw [h2, hx])
          rw [hg]
          refine find_uniq (List.mem_iff_getElem.2 ⟨i, by simpa using h, by rw [List.getElem_set_ne hji]⟩) (usL_iff.2 rfl) fun y hy e => ?_
          rcases List.mem_or_eq_of_mem_set hy with hy | hy
          · exact lock_mem_uniq R h hy (usL_iff.1 e)
          · subst hy
            exfalso
            have := usL_iff.1 e
            exact hu (by rw [← this]; exact hx.symm)
    · rw [if_neg hE] at he
      exact same (by rw [he]) (by omega) (by rw [he]; exact fun h => hE h.1)
  · have he : applyP b o = if passE b o = 0 then ({ b with ll := passRow b o, ln := false }, 0) else (b, passE b o) := by
      unfold applyP
      rw [e0, if_neg (by decide), if_neg (by omega), if_neg (by omega), if_neg (by omega), if_neg (by omega), if_pos h']
    by_cases hE : passE b o = 0
    · rw [if_pos hE] at he
      by_cases hu : o.user = b.ll[i].user
      · have hI : lkI b o = i := by unfold lkI; rw [hu]; exact lock_idx R h
        refine .inl ⟨by rw [he], h', hu, ?_⟩
        rw [he]
        show (passRow b o).find? _ = _
        unfold passRow
        rw [hI]
        show (b.ll.eraseIdx i).find? _ = _
        rw [List.find?_eq_none]
        intro y hy e
        obtain ⟨k, hk, hne, hy⟩ := List.mem_eraseIdx_iff_getElem.1 hy
        exact hne (lock_uniq R h hk (by rw [hy]; exact usL_iff.1 e))
      · refine .inr (.inr ⟨fun h => hu h.2.2, by omega, ?_⟩)
        rw [he]
        show (passRow b o).find? _ = _
        unfold passRow passE at *
        have h0 : 0 ≤ lkI b o := by
          cases hd : decide (lkI b o < 0)
          · simpa using hd
          · rw [hd] at hE; cases hE
        rcases idxL_cases (usL o.user) b.ll with h2 | ⟨j, h1, h2, h3⟩
        · unfold lkI at h0
          rw [idxL_none h2] at h0
          exact absurd h0 (by decide)
        · have hI : lkI b o = j := idxL_at h1 h2 h3
          rw [hI]
          show (b.ll.eraseIdx j).find? _ = _
          have hji : i ≠ j := fun e => by subst e; exact hu (usL_iff.1 h3).symm
          refine find_uniq (List.mem_eraseIdx_iff_getElem.2 ⟨i, h, hji, rfl⟩) (usL_iff.2 rfl) fun y hy e => ?_
          exact lock_mem_uniq R h (List.mem_of_mem_eraseIdx hy) (usL_iff.1 e)
    · rw [if_neg hE] at he
      exact same (by rw [he]) (by rw [he]; exact fun h => hE h.1) (by omega)
  · refine same ?_ (by omega) (by omega)
    unfold applyP
    rw [e0, if_neg (by decide), if_neg (by omega), if_neg (by omega), if_neg (by omega), if_neg (by omega), if_neg (by omega)]

theorem counts_len {b : BV} (R : RightF b) (o : PV) : (applyP b o).1.ll.length ≤ 8 := by
  have hl := R.lks
  unfold applyP
  split
  · exact hl
  split
  · split <;> exact hl
  split
  · split <;> exact hl
  split
  · split <;> exact hl
  split
  · split
    · rename_i hE
      show (if (b.ll.find? (usL o.user)).isSome = true then failRow b o else b.ll ++ [⟨o.user, 1, o.t⟩]).length ≤ 8
      unfold failE at hE
      cases hf : b.ll.find? (usL o.user) with
      | none =>
        rw [hf] at hE
        rw [if_neg (by decide)]
        cases hd : decide (8 ≤ b.ll.length)
        · have := of_decide_eq_false hd
          simp
          omega
        · simp only [hd] at hE
          cases hE
      | some x =>
        rw [if_pos (show (some x).isSome = true from rfl)]
        unfold failRow
        simpa using hl
    · exact hl
  split
  · split
    · show (passRow b o).length ≤ 8
      unfold passRow
      have := List.length_eraseIdx_le b.ll (lkI b o).toNat
      omega
    · exact hl
  · exact hl

end Go.VL

/- Which books are right, said otherwise. Conditions: none. -/
namespace Go.VL
open Go.Proofs

def stP : Option IV → Option SV → Prop
  | none, none => True
  | none, some _ => False
  | some y, none => y.kind = 3
  | some y, some s => y.kind ≠ 3 ∧ y.inn = s.inn ∧ y.out = s.out
def apQ (q s : SV) : Prop := q.id < s.id ∧ q.link ≠ s.link ∧ q.addr ≠ s.addr
def lkOK (l : LV) : Prop := userB l.user = true ∧ 1 ≤ l.n ∧ l.n ≤ 255 ∧ 0 ≤ l.t ∧ l.t ≤ 1000000000
structure RightP (b : BV) : Prop where
  next0 : 0 ≤ b.next
  next1 : b.next ≤ 1000000000
  len : b.il.length + b.ol.length ≤ 60
  lks : b.ll.length ≤ 8
  ses : ∀ s ∈ b.ol, okSB b.next s = true
  pw : b.ol.Pairwise apQ
  line : ∀ (i : Nat) (h : i < b.il.length), lineB b.next (b.il.take i) b.il[i] = true
  st : ∀ id, stP (prevOf id b.il) (b.ol.find? (idS id))
  lkk : ∀ l ∈ b.ll, lkOK l
  lpw : b.ll.Pairwise fun q l => q.user ≠ l.user

theorem pw_id : ∀ {l : List SV}, l.Pairwise apQ → ∀ {y s : SV}, y ∈ l → s ∈ l → y.id = s.id → y = s
  | x :: l, h, y, s, hy, hs, e => by
    rw [List.pairwise_cons] at h
    rcases List.mem_cons.1 hy with h1 | h1
    · rcases List.mem_cons.1 hs with h2 | h2
      · rw [h1, h2]
      · have := (h.1 s h2).1; rw [← h1] at this; omega
    · rcases List.mem_cons.1 hs with h2 | h2
      · have := (h.1 y h1).1; rw [← h2] at this; omega
      · exact pw_id h.2 h1 h2 e
theorem pw_find {l : List SV} (h : l.Pairwise apQ) {s : SV} (hs : s ∈ l) {id : Int} (e : s.id = id) : l.find? (idS id) = some s :=
  find_uniq hs (by simp [idS, e]) fun y hy h' => pw_id h hy hs (by simp [idS] at h'; omega)

theorem RightF.pw {b : BV} (R : RightF b) : b.ol.Pairwise apQ := by
  rw [List.pairwise_iff_getElem]
  intro i j hi hj hij
  have h1 := ids_rise R i j (by omega) hj hij
  have h2 := List.all_eq_true.1 (R.ok j hj).2.2 b.ol[i] (List.mem_iff_getElem.2 ⟨i, by simp; omega, by simp⟩)
  unfold apartB at h2
  simp only [Bool.and_eq_true, Bool.not_eq_true', beq_eq_false_iff_ne] at h2
  exact ⟨h1, h2.1, h2.2⟩
theorem RightF.st {b : BV} (R : RightF b) (id : Int) : stP (prevOf id b.il) (b.ol.find? (idS id)) := by
  rcases last_prev id b.il b.il.length (Nat.le_refl _) with ⟨_, h⟩ | ⟨n, hn, _, h1, h2, h3⟩
  · rw [List.take_length] at h
    rw [h]
    cases hf : b.ol.find? (idS id) with
    | none => trivial
    | some s =>
      have hm := R.mat s (List.mem_of_find?_eq_some hf)
      have hid : s.id = id := by simpa [idS] using List.find?_some hf
      unfold matchB at hm
      rw [hid, h] at hm
      cases hm
  · rw [List.take_length] at h1 h2
    have hE := (R.line n hn).2
    have hid : b.il[n].id = id := by simpa [idI] using h3
    unfold endB at hE
    rw [hid, h1, any_find] at hE
    simp only [beq_self_eq_true, Bool.true_and, Bool.not_eq_true'] at hE
    rw [h2]
    change ((b.ol.find? (idS id)).isSome == (b.il[n].kind == 3)) = false at hE
    cases hf : b.ol.find? (idS id) with
    | none =>
      rw [hf] at hE
      show b.il[n].kind = 3
      simpa using hE
    | some s =>
      rw [hf] at hE
      have hm := R.mat s (List.mem_of_find?_eq_some hf)
      have hid : s.id = id := by simpa [idS] using List.find?_some hf
      unfold matchB at hm
      rw [hid, h2] at hm
      simp only [Bool.and_eq_true, beq_iff_eq] at hm
      exact ⟨by simpa using hE, hm.1, hm.2⟩
theorem RightF.p {b : BV} (R : RightF b) : RightP b where
  next0 := R.next0
  next1 := R.next1
  len := R.len
  lks := R.lks
  ses s hs := by
    obtain ⟨i, hi, rfl⟩ := List.mem_iff_getElem.1 hs
    exact (R.ok i hi).1
  pw := R.pw
  line i h := (R.line i h).1
  st := R.st
  lkk l hl := by
    obtain ⟨i, hi, rfl⟩ := List.mem_iff_getElem.1 hl
    have := R.lock i hi
    unfold lockB at this
    simp only [Bool.and_eq_true, decide_eq_true_eq] at this
    exact ⟨this.1.1.1.1.1, this.1.1.1.1.2, this.1.1.1.2, this.1.1.2, this.1.2⟩
  lpw := by
    rw [List.pairwise_iff_getElem]
    intro i j hi hj hij e
    have := lock_uniq R hj hi e
    omega

theorem RightP.f {b : BV} (R : RightP b) : RightF b where
  next0 := R.next0
  next1 := R.next1
  len := R.len
  lks := R.lks
  ok i h := by
    have hp := List.pairwise_iff_getElem.1 R.pw
    refine ⟨R.ses _ (List.getElem_mem h), ?_, ?_⟩
    · cases i with
      | zero => exact afterB_zero _ _
      | succ i =>
        rw [afterB_succ (by omega)]
        exact decide_eq_true (hp i (i + 1) (by omega) h (by omega)).1
    · rw [List.all_eq_true]
      intro y hy
      obtain ⟨j, hj, rfl⟩ := List.mem_iff_getElem.1 hy
      have hj' : j < i := by simp at hj; omega
      have := hp j i (by omega) h hj'
      unfold apartB
      simp only [List.getElem_take, Bool.and_eq_true, Bool.not_eq_true', beq_eq_false_iff_ne]
      exact this.2
  line i h := by
    refine ⟨R.line i h, ?_⟩
    unfold endB
    rcases last_prev b.il[i].id b.il b.il.length (Nat.le_refl _) with ⟨h1, _⟩ | ⟨n, hn, _, h1, h2, h3⟩
    · rw [List.take_length] at h1
      rw [h1]
      have : ((-1 : Int) == (i : Int)) = false := by simp
      rw [this]
      rfl
    · rw [List.take_length] at h1 h2
      rw [h1]
      by_cases e : n = i
      · subst e
        have hs := R.st b.il[n].id
        rw [h2] at hs
        rw [any_find]
        change (!(((n : Int) == n) && ((b.ol.find? (idS b.il[n].id)).isSome == (b.il[n].kind == 3)))) = true
        cases hf : b.ol.find? (idS b.il[n].id) with
        | none =>
          rw [hf] at hs
          have : b.il[n].kind = 3 := hs
          simp [this]
        | some s =>
          rw [hf] at hs
          have : b.il[n].kind ≠ 3 := hs.1
          simp [this]
      · have : ((n : Int) == (i : Int)) = false := by simp; omega
        rw [this]
        rfl
  mat s hs := by
    have h1 := R.st s.id
    rw [pw_find R.pw hs rfl] at h1
    unfold matchB
    cases hp : prevOf s.id b.il with
    | none => rw [hp] at h1; exact h1.elim
    | some y =>
      rw [hp] at h1
      obtain ⟨_, h2, h3⟩ := h1
      simp [h2, h3]
  lock i h := by
    obtain ⟨h1, h2, h3, h4, h5⟩ := R.lkk _ (List.getElem_mem h)
    have hp := List.pairwise_iff_getElem.1 R.lpw
    unfold lockB
    rw [h1, idxL_at h ?_ (usL_iff.2 rfl)]
    · simp [h2, h3, h4, h5]
    · unfold noneL
      rw [List.all_eq_true]
      intro y hy
      obtain ⟨j, hj, rfl⟩ := List.mem_iff_getElem.1 hy
      have hj' : j < i := by simp at hj; omega
      have := hp j i (by omega) h hj'
      rw [List.getElem_take]
      cases e : usL b.ll[i].user b.ll[j]
      · rfl
      · exact absurd (usL_iff.1 e) this

theorem prevOf_append (id : Int) (l : List IV) (x : IV) : prevOf id (l ++ [x]) = bif idI id x then some x else prevOf id l := by
  unfold prevOf
  rw [List.foldl_append]
  rfl
theorem line_append {n : Int} {l : List IV} {x : IV} (h : ∀ (i : Nat) (h : i < l.length), lineB n (l.take i) l[i] = true) (hx : lineB n l x = true) : ∀ (i : Nat) (h : i < (l ++ [x]).length), lineB n ((l ++ [x]).take i) (l ++ [x])[i] = true := by
  intro i hi
  rcases Nat.lt_or_ge i l.length with h' | h'
  · rw [List.take_append_of_le_length (by omega), List.getElem_append_left h']
    exact h i h'
  · have e : i = l.length := by simp at hi; omega
    subst e
    rw [List.take_left, List.getElem_append_right (Nat.le_refl _)]
    simpa using hx
theorem lineB_mono {n n' : Int} (hn : n ≤ n') {l : List IV} {x : IV} (h : lineB n l x = true) : lineB n' l x = true := by
  unfold lineB at *
  simp only [Bool.and_eq_true, decide_eq_true_eq] at *
  exact ⟨⟨h.1.1, by omega⟩, h.2⟩
theorem okSB_mono {n n' : Int} (hn : n ≤ n') {s : SV} (h : okSB n s = true) : okSB n' s = true := by
  unfold okSB at *
  simp only [Bool.and_eq_true, decide_eq_true_eq] at *
  exact ⟨⟨⟨⟨h.1.1.1.1, by omega⟩, h.1.1.2⟩, h.1.2⟩, h.2⟩
theorem find_set {α : Type} {p : α → Bool} {x : α} (hx : p x = false) : ∀ {l : List α} {i : Nat} (h : i < l.length), p l[i] = false → (l.set i x).find? p = l.find? p
  | y :: l, 0, _, hp => by
    simp only [List.getElem_cons_zero] at hp
    rw [List.set_cons_zero, List.find?_cons, List.find?_cons, hx, hp]
  | y :: l, i + 1, h, hp => by
    rw [List.set_cons_succ, List.find?_cons, List.find?_cons, find_set hx (by simpa using h) (by simpa using hp)]
theorem find_erase {α : Type} {p : α → Bool} : ∀ {l : List α} {i : Nat} (h : i < l.length), p l[i] = false → (l.eraseIdx i).find? p = l.find? p
  | y :: l, 0, _, hp => by
    simp only [List.getElem_cons_zero] at hp
    rw [List.eraseIdx_cons_zero, List.find?_cons, hp]
  | y :: l, i + 1, h, hp => by
    rw [List.eraseIdx_cons_succ, List.find?_cons, List.find?_cons, find_erase (by simpa using h) (by simpa using hp)]

theorem may_facts {o : PV} (h : mayB o = true) : (1 ≤ o.kind ∧ o.kind ≤ 6) ∧ (0 ≤ o.id ∧ o.id ≤ 1000000000) ∧ (0 ≤ o.link ∧ o.link ≤ 7) ∧ (0 ≤ o.t ∧ o.t ≤ 1000000000) ∧ (0 ≤ o.cause ∧ o.cause ≤ 255) ∧ userB o.user = true := by
  unfold mayB btwB at h
  simp only [Bool.and_eq_true, decide_eq_true_eq] at h
  exact h
theorem lines_lt {b : BV} (R : RightP b) {x : IV} (hx : x ∈ b.il) : 0 ≤ x.id ∧ x.id < b.next := by
  obtain ⟨i, hi, rfl⟩ := List.mem_iff_getElem.1 hx
  have := R.line i hi
  unfold lineB at this
  simp only [Bool.and_eq_true, decide_eq_true_eq] at this
  exact this.1
theorem prev_mem {id : Int} {l : List IV} {y : IV} (h : prevOf id l = some y) : y ∈ l ∧ y.id = id := by
  rcases last_prev id l l.length (Nat.le_refl _) with ⟨_, h2⟩ | ⟨n, hn, _, _, h2, h3⟩
  · rw [List.take_length, h] at h2; cases h2
  · rw [List.take_length, h] at h2
    cases h2
    exact ⟨List.getElem_mem hn, by simpa [idI] using h3⟩
theorem prev_next {b : BV} (R : RightP b) : prevOf b.next b.il = none := by
  cases h : prevOf b.next b.il with
  | none => rfl
  | some y =>
    have h1 := prev_mem h
    have h2 := lines_lt R h1.1
    omega
theorem ses_lt {b : BV} (R : RightP b) {s : SV} (hs : s ∈ b.ol) : 0 ≤ s.id ∧ s.id < b.next := by
  have := R.ses s hs
  unfold okSB at this
  simp only [Bool.and_eq_true, decide_eq_true_eq] at this
  exact this.1.1.1
theorem find_next {b : BV} (R : RightP b) : b.ol.find? (idS b.next) = none := by
  rw [List.find?_eq_none]
  intro s hs e
  have := ses_lt R hs
  simp [idS] at e
  omega

theorem openE_facts {b : BV} {o : PV} (h : openE b o = 0) : poolB o.addr = true ∧ (∀ s ∈ b.ol, s.link ≠ o.link ∧ s.addr ≠ o.addr) ∧ b.il.length + b.ol.length + 2 ≤ 60 ∧ b.next < 1000000000 := by
  unfold openE at h
  cases h1 : poolB o.addr
  · rw [h1] at h; cases h
  rw [h1] at h
  cases h2 : busyB b o
  · rw [h2] at h
    simp only [Bool.not_true, cond_false] at h
    refine ⟨rfl, fun s hs => ?_, ?_⟩
    · unfold busyB at h2
      rw [List.any_eq_false] at h2
      have := h2 s hs
      simpa using this
    · cases h3 : !decide (b.il.length + b.ol.length + 2 ≤ 60) || decide (1000000000 ≤ b.next)
      · simp at h3
        omega
      · rw [h3] at h; cases h
  · rw [h2] at h; cases h

theorem right_open {b : BV} (R : RightP b) {o : PV} (hm : mayB o = true) (h : openE b o = 0) : RightP (openP b o) := by
  obtain ⟨h1, h2, h3, h4⟩ := openE_facts h
  obtain ⟨_, _, m3, _, _, m6⟩ := may_facts hm
  have hn0 := R.next0
  constructor
  · show 0 ≤ b.next + 1; omega
  · show b.next + 1 ≤ 1000000000; omega
  · show (b.il ++ [_]).length + (b.ol ++ [_]).length ≤ 60
    simp; omega
  · exact R.lks
  · intro s hs
    rcases List.mem_append.1 hs with hs | hs
    · exact okSB_mono (by show b.next ≤ b.next + 1; omega) (R.ses s hs)
    · rw [List.mem_singleton.1 hs]
      show okSB (b.next + 1) (newS b o) = true
      unfold okSB newS
      simp [m6, h1, m3, hn0]
      omega
  · refine List.pairwise_append.2 ⟨R.pw, List.pairwise_singleton _ _, fun q hq s hs => ?_⟩
    rw [List.mem_singleton.1 hs]
    exact ⟨(ses_lt R hq).2, (h2 q hq).1, (h2 q hq).2⟩
  · refine line_append (fun i h => lineB_mono (by show b.next ≤ b.next + 1; omega) (R.line i h)) ?_
    show lineB (b.next + 1) b.il _ = true
    unfold lineB
    rw [prev_next R]
    simp [startB, hn0]
    omega
  · intro id
    show stP (prevOf id (b.il ++ [_])) ((b.ol ++ [_]).find? (idS id))
    rw [prevOf_append, List.find?_append]
    by_cases e : b.next = id
    · subst e
      rw [find_next R]
      have e1 : idI b.next ⟨1, b.next, 0, 0, 0⟩ = true := by simp [idI]
      have e2 : idS b.next (newS b o) = true := by simp [idS, newS]
      rw [e1, List.find?_cons, e2]
      exact ⟨by show (1 : Int) ≠ 3; decide, rfl, rfl⟩
    · have e1 : idI id ⟨1, b.next, 0, 0, 0⟩ = false := by simp [idI, e]
      have e2 : idS id (newS b o) = false := by simp [idS, newS, e]
      rw [e1, List.find?_cons, e2]
      simpa using R.st id
  · exact R.lkk
  · exact R.lpw

/-- A line more, of an open session. -/
theorem line_more {b : BV} (R : RightP b) {s : SV} (hs : s ∈ b.ol) {x : IV} (e : x.id = s.id) (h1 : s.inn ≤ x.inn) (h2 : s.out ≤ x.out) (hk : (bif x.kind == 2 && x.cause == 0 then true else x.kind == 3 && decide (0 ≤ x.cause) && decide (x.cause ≤ 255)) = true) : lineB b.next b.il x = true := by
  have hst := R.st s.id
  rw [pw_find R.pw hs rfl] at hst
  have hl := ses_lt R hs
  unfold lineB
  rw [e]
  cases hp : prevOf s.id b.il with
  | none => rw [hp] at hst; exact hst.elim
  | some y =>
    rw [hp] at hst
    obtain ⟨k1, k2, k3⟩ := hst
    simp only
    unfold onB
    rw [hk]
    have a1 : (y.kind == 3) = false := by simpa using k1
    have a2 : decide (y.inn ≤ x.inn) = true := decide_eq_true (by omega)
    have a3 : decide (y.out ≤ x.out) = true := decide_eq_true (by omega)
    have a4 : decide (0 ≤ s.id) = true := decide_eq_true hl.1
    have a5 : decide (s.id < b.next) = true := decide_eq_true hl.2
    rw [a1, a2, a3, a4, a5]
    rfl

theorem right_interim {b : BV} (R : RightP b) {o : PV} (h : interimE b o = 0) : RightP { b with ol := interimRow b o, on := false, il := b.il ++ [⟨2, o.id, o.inn, o.out, 0⟩], inl := false } := by
  have hlen : b.il.length + b.ol.length + 1 ≤ 60 := by
    unfold interimE at h
    cases h1 : (!((atP b o).2 == 0))
    · rw [h1] at h
      cases h2 : (!decide (b.il.length + b.ol.length + 1 ≤ 60))
      · simpa using h2
      · rw [h2] at h; cases h
    · rw [h1] at h
      simp only [cond_true] at h
      rw [h] at h1; cases h1
  rcases at_cases b o with e | e | ⟨i, hi, _, k2, k3, k4, _, k6⟩
  · unfold interimE at h; rw [e] at h; cases h
  · unfold interimE at h; rw [e] at h; cases h
  have hrow : interimRow b o = b.ol.set i (setS b.ol[i] o) := by
    unfold interimRow
    rw [k6]
    simp [hi]
  have hid : b.ol[i].id = o.id := by simpa [idS] using k2
  have hpw : (b.ol.set i (setS b.ol[i] o)).Pairwise apQ := by
    have hp := List.pairwise_iff_getElem.1 R.pw
    rw [List.pairwise_iff_getElem]
    intro a c ha hc hac
    have := hp a c (by simpa using ha) (by simpa using hc) hac
    rw [List.getElem_set, List.getElem_set]
    split
    · rename_i e1
      subst e1
      split
      · omega
      · exact this
    · split
      · rename_i e1
        subst e1
        exact this
      · exact this
  rw [hrow]
  constructor
  · exact R.next0
  · exact R.next1
  · show (b.il ++ [_]).length + (b.ol.set i _).length ≤ 60
    simp; omega
  · exact R.lks
  · intro s hs
    rcases List.mem_or_eq_of_mem_set hs with hs | hs
    · exact R.ses s hs
    · rw [hs]
      exact (show okSB b.next b.ol[i] = true from R.ses _ (List.getElem_mem hi))
  · exact hpw
  · exact line_append R.line (line_more R (List.getElem_mem hi) hid.symm k3 k4 rfl)
  · intro id
    show stP (prevOf id (b.il ++ [_])) ((b.ol.set i _).find? (idS id))
    rw [prevOf_append]
    by_cases e : o.id = id
    · subst e
      have e1 : idI o.id ⟨2, o.id, o.inn, o.out, 0⟩ = true := by simp [idI]
      rw [e1, pw_find hpw (s := setS b.ol[i] o) (List.mem_set hi _) hid]
      exact ⟨by show (2 : Int) ≠ 3; decide, rfl, rfl⟩
    · have e1 : idI id ⟨2, o.id, o.inn, o.out, 0⟩ = false := by simp [idI, e]
      rw [e1, find_set (by show (b.ol[i].id == id) = false; rw [hid]; simp [e]) hi (by show (b.ol[i].id == id) = false; rw [hid]; simp [e])]
      exact R.st id
  · exact R.lkk
  · exact R.lpw

theorem right_close {b : BV} (R : RightP b) {o : PV} (hm : mayB o = true) (h : closeE b o = 0) : RightP { b with ol := closeRow b o, on := false, il := b.il ++ [⟨3, o.id, o.inn, o.out, o.cause⟩], inl := false } := by
  obtain ⟨_, _, _, _, m5, _⟩ := may_facts hm
  rcases at_cases b o with e | e | ⟨i, hi, _, k2, k3, k4, _, k6⟩
  · unfold closeE at h; rw [e] at h; cases h
  · unfold closeE at h; rw [e] at h; cases h
  have hrow : closeRow b o = b.ol.eraseIdx i := by unfold closeRow; rw [k6]
  have hid : b.ol[i].id = o.id := by simpa [idS] using k2
  have hl := R.len
  rw [hrow]
  constructor
  · exact R.next0
  · exact R.next1
  · show (b.il ++ [_]).length + (b.ol.eraseIdx i).length ≤ 60
    rw [List.length_eraseIdx, if_pos hi]
    simp; omega
  · exact R.lks
  · exact fun s hs => R.ses s (List.mem_of_mem_eraseIdx hs)
  · exact R.pw.sublist (List.eraseIdx_sublist _ _)
  · exact line_append R.line (line_more R (List.getElem_mem hi) hid.symm k3 k4 (by simp [m5]))
  · intro id
    show stP (prevOf id (b.il ++ [_])) ((b.ol.eraseIdx i).find? (idS id))
    rw [prevOf_append]
    by_cases e : o.id = id
    · subst e
      have e1 : idI o.id ⟨3, o.id, o.inn, o.out, o.cause⟩ = true := by simp [idI]
      have e2 : (b.ol.eraseIdx i).find? (idS o.id) = none := by
        rw [List.find?_eq_none]
        intro y hy e
        obtain ⟨k, hk, hne, hy⟩ := List.mem_eraseIdx_iff_getElem.1 hy
        have hp := List.pairwise_iff_getElem.1 R.pw
        have e' : b.ol[k].id = o.id := by rw [hy]; simpa [idS] using e
        rcases Nat.lt_trichotomy k i with h' | h' | h'
        · have := (hp k i hk hi h').1; omega
        · exact hne h'
        · have := (hp i k hi hk h').1; omega
      rw [e1, e2]
      exact rfl
    · have e1 : idI id ⟨3, o.id, o.inn, o.out, o.cause⟩ = false := by simp [idI, e]
      rw [e1, find_erase hi (by show (b.ol[i].id == id) = false; rw [hid]; simp [e])]
      exact R.st id
  · exact R.lkk
  · exact R.lpw

end Go.VL

/- What is done to a right book leaves it right. Conditions: none. -/
namespace Go.VL
open Go.Proofs

theorem lkOK_new {o : PV} (hm : mayB o = true) : lkOK ⟨o.user, 1, o.t⟩ := by
  obtain ⟨_, _, _, m4, _, m6⟩ := may_facts hm
  exact ⟨m6, by show (1 : Int) ≤ 1; omega, by show (1 : Int) ≤ 255; omega, m4.1, m4.2⟩
theorem lkOK_fail {o : PV} (hm : mayB o = true) {l : LV} (h : lkOK l) : lkOK (failL l o) := by
  obtain ⟨_, _, _, m4, _, m6⟩ := may_facts hm
  obtain ⟨h1, h2, h3, _, _⟩ := h
  refine ⟨h1, ?_, ?_, m4.1, m4.2⟩
  · show 1 ≤ (if 255 < l.n + 1 then 255 else l.n + 1); split <;> omega
  · show (if 255 < l.n + 1 then 255 else l.n + 1) ≤ 255; split <;> omega

theorem right_locks {b : BV} (R : RightP b) {ll : List LV} {ln : Bool} (h1 : ll.length ≤ 8) (h2 : ∀ l ∈ ll, lkOK l) (h3 : ll.Pairwise fun q l => q.user ≠ l.user) : RightP { b with ll := ll, ln := ln } :=
  ⟨R.next0, R.next1, R.len, h1, R.ses, R.pw, R.line, R.st, h2, h3⟩

theorem right_fail {b : BV} (R : RightP b) {o : PV} (hm : mayB o = true) (h : failE b o = 0) : RightP { b with ll := if (b.ll.find? (usL o.user)).isSome then failRow b o else b.ll ++ [⟨o.user, 1, o.t⟩], ln := false } := by
  have hl := R.lks
  unfold failE at h
  cases hf : b.ll.find? (usL o.user) with
  | none =>
    rw [hf] at h
    simp only [Option.isSome, Bool.false_eq_true, if_false]
    have h8 : ¬ 8 ≤ b.ll.length := by
      cases hd : decide (8 ≤ b.ll.length)
      · exact of_decide_eq_false hd
      · simp only [hd] at h; cases h
    refine right_locks R (by simp; omega) (fun l hl => ?_) (List.pairwise_append.2 ⟨R.lpw, List.pairwise_singleton _ _, fun q hq l hl e => ?_⟩)
    · rcases List.mem_append.1 hl with hl | hl
      · exact R.lkk l hl
      · rw [List.mem_singleton.1 hl]; exact lkOK_new hm
    · rw [List.mem_singleton.1 hl] at e
      exact List.find?_eq_none.1 hf q hq (usL_iff.2 e)
  | some x =>
    simp only [Option.isSome, if_true]
    obtain ⟨j, hj, h1, h2⟩ := idx_find hf
    have hg : failRow b o = b.ll.set j (failL x o) := by
      unfold failRow lkI
      rw [h1]
      simp [hj, h2]
    rw [hg]
    refine right_locks R (by simpa using hl) (fun l hl => ?_) ?_
    · rcases List.mem_or_eq_of_mem_set hl with hl | hl
      · exact R.lkk l hl
      · rw [hl, ← h2]; exact lkOK_fail hm (R.lkk _ (List.getElem_mem hj))
    · have hp := List.pairwise_iff_getElem.1 R.lpw
      rw [List.pairwise_iff_getElem]
      intro a c ha hc hac
      have := hp a c (by simpa using ha) (by simpa using hc) hac
      rw [List.getElem_set, List.getElem_set]
      split
      · rename_i e1
        subst e1
        split
        · omega
        · rw [h2] at this; exact this
      · split
        · rename_i e1
          subst e1
          rw [h2] at this; exact this
        · exact this

theorem right_pass {b : BV} (R : RightP b) (o : PV) : RightP { b with ll := passRow b o, ln := false } := by
  have hl := R.lks
  unfold passRow
  refine right_locks R ?_ (fun l hl => R.lkk l (List.mem_of_mem_eraseIdx hl)) (R.lpw.sublist (List.eraseIdx_sublist _ _))
  have := List.length_eraseIdx_le b.ll (lkI b o).toNat
  omega

theorem keep_at {α : Type} (p : α → Bool) : ∀ (l : List α) (j : Nat) (h : j < (keepL p l).length), ∃ i, ∃ hi : i < l.length, (keepL p l)[j] = l[i] ∧ p l[i] = false ∧ (keepL p l).take j = keepL p (l.take i)
  | [], j, h => by simp [keepL] at h
  | x :: l, j, h => by
    cases hx : p x
    · have e : keepL p (x :: l) = x :: keepL p l := by simp [keepL, hx]
      cases j with
      | zero => exact ⟨0, by simp, by simp [e], hx, by simp [keepL]⟩
      | succ j =>
        obtain ⟨i, hi, h1, h2, h3⟩ := keep_at p l j (by rw [e] at h; simpa using h)
        refine ⟨i + 1, by simpa using hi, by simpa [e] using h1, by simpa using h2, ?_⟩
        rw [e, List.take_succ_cons, List.take_succ_cons, h3]
        simp [keepL, hx]
    · have e : keepL p (x :: l) = keepL p l := by simp [keepL, hx]
      obtain ⟨i, hi, h1, h2, h3⟩ := keep_at p l j (by rw [← e]; exact h)
      refine ⟨i + 1, by simpa using hi, by simpa [e] using h1, by simpa using h2, ?_⟩
      rw [e, List.take_succ_cons, h3]
      simp [keepL, hx]
theorem prev_keep {p : IV → Bool} {id : Int} (hp : ∀ x : IV, x.id = id → p x = false) : ∀ (l : List IV) (k : Nat), k ≤ l.length → prevOf id (keepL p (l.take k)) = prevOf id (l.take k)
  | l, 0, _ => rfl
  | l, k + 1, h => by
    rw [keepL_take (by omega), prevOf_take id (by omega)]
    have ih := prev_keep hp l k (by omega)
    cases hq : p l[k]
    · simp only [cond_false]
      rw [prevOf_append, ih]
    · simp only [cond_true, List.append_nil]
      have : idI id l[k] = false := by
        cases e : idI id l[k]
        · rfl
        · rw [hp _ (by simpa [idI] using e)] at hq; cases hq
      rw [ih, this]
      rfl
theorem prev_keep_all {p : IV → Bool} {id : Int} (hp : ∀ x : IV, x.id = id → p x = false) (l : List IV) : prevOf id (keepL p l) = prevOf id l := by
  have := prev_keep hp l l.length (Nat.le_refl _)
  rwa [List.take_length] at this
theorem prev_keep_none {p : IV → Bool} {id : Int} (hp : ∀ x : IV, x.id = id → p x = true) (l : List IV) : prevOf id (keepL p l) = none := by
  cases h : prevOf id (keepL p l) with
  | none => rfl
  | some y =>
    have h1 := prev_mem h
    unfold keepL at h1
    rw [List.mem_filter, hp y h1.2] at h1
    simp at h1

theorem gone_iff {b : BV} {x : IV} : goneB b x = (b.ol.find? (idS x.id)).isNone := by
  unfold goneB
  cases h : b.ol.find? (idS x.id) with
  | none =>
    have := List.find?_eq_none.1 h
    have h2 : b.ol.any (idS x.id) = false := by rw [List.any_eq_false]; exact this
    rw [h2]; rfl
  | some s =>
    have h2 : b.ol.any (idS x.id) = true := List.any_eq_true.2 ⟨s, List.mem_of_find?_eq_some h, List.find?_some h⟩
    rw [h2]; rfl

theorem right_trim {b : BV} (R : RightP b) : RightP { b with il := trimRow b } := by
  have hlen := R.len
  constructor
  · exact R.next0
  · exact R.next1
  · show (keepL (goneB b) b.il).length + b.ol.length ≤ 60
    have := List.length_filter_le (fun o => !goneB b o) b.il
    unfold keepL
    omega
  · exact R.lks
  · exact R.ses
  · exact R.pw
  · intro j hj
    obtain ⟨i, hi, h1, h2, h3⟩ := keep_at (goneB b) b.il j hj
    show lineB b.next ((keepL (goneB b) b.il).take j) (keepL (goneB b) b.il)[j] = true
    rw [h1, h3]
    have hl := R.line i hi
    unfold lineB at *
    rw [prev_keep (fun x hx => by rw [gone_iff, hx, ← gone_iff]; exact h2) b.il i (by omega)]
    exact hl
  · intro id
    show stP (prevOf id (keepL (goneB b) b.il)) (b.ol.find? (idS id))
    cases hf : b.ol.find? (idS id) with
    | none =>
      rw [prev_keep_none (fun x hx => by rw [gone_iff, hx, hf]; rfl)]
      trivial
    | some s =>
      rw [prev_keep_all (fun x hx => by rw [gone_iff, hx, hf]; rfl), ← hf]
      exact R.st id
  · exact R.lkk
  · exact R.lpw

theorem right_apply {b : BV} (R : RightP b) (o : PV) : RightP (applyP b o).1 := by
  unfold applyP
  cases e0 : mayB o
  · exact R
  rw [if_neg (by decide)]
  split
  · split
    · rename_i h; exact right_open R e0 h
    · exact R
  split
  · split
    · rename_i h; exact right_interim R h
    · exact R
  split
  · split
    · rename_i h; exact right_close R e0 h
    · exact R
  split
  · split
    · rename_i h; exact right_fail R e0 h
    · exact R
  split
  · split
    · exact right_pass R o
    · exact R
  · exact right_trim R

theorem ok_apply {b : BV} (h : BOK b) (o : PV) : BOK (applyP b o).1 := by
  unfold applyP
  split
  · exact h
  split
  · split
    · exact ⟨fun h => Bool.noConfusion h, fun h => Bool.noConfusion h, h.l⟩
    · exact h
  split
  · split
    · exact ⟨fun h => Bool.noConfusion h, fun h => Bool.noConfusion h, h.l⟩
    · exact h
  split
  · split
    · exact ⟨fun h => Bool.noConfusion h, fun h => Bool.noConfusion h, h.l⟩
    · exact h
  split
  · split
    · exact ⟨h.o, h.i, fun h => Bool.noConfusion h⟩
    · exact h
  split
  · split
    · exact ⟨h.o, h.i, fun h => Bool.noConfusion h⟩
    · exact h
  · exact ⟨h.o, fun e => by show keepL (goneB b) b.il = []; rw [h.i e]; rfl, h.l⟩

theorem apply_refused {b : BV} {o : PV} (h : (applyP b o).2 ≠ 0) : (applyP b o).1 = b := by
  unfold applyP at *
  split
  · rfl
  rename_i h0
  rw [if_neg h0] at h
  split
  · rename_i h1
    rw [if_pos h1] at h
    split
    · rename_i h2; rw [if_pos h2] at h; exact absurd rfl h
    · rfl
  rename_i h1
  rw [if_neg h1] at h
  split
  · rename_i h1
    rw [if_pos h1] at h
    split
    · rename_i h2; rw [if_pos h2] at h; exact absurd rfl h
    · rfl
  rename_i h1
  rw [if_neg h1] at h
  split
  · rename_i h1
    rw [if_pos h1] at h
    split
    · rename_i h2; rw [if_pos h2] at h; exact absurd rfl h
    · rfl
  rename_i h1
  rw [if_neg h1] at h
  split
  · rename_i h1
    rw [if_pos h1] at h
    split
    · rename_i h2; rw [if_pos h2] at h; exact absurd rfl h
    · rfl
  rename_i h1
  rw [if_neg h1] at h
  split
  · rename_i h1
    rw [if_pos h1] at h
    split
    · rename_i h2; rw [if_pos h2] at h; exact absurd rfl h
    · rfl
  rename_i h1
  rw [if_neg h1] at h
  exact absurd rfl h
theorem sameB_self (b : BV) : sameB b b = true := by simp [sameB]

end Go.VL

/- BookCounts over values. Conditions: none. -/
namespace Go.VL
open Go.Proofs

theorem right_N {b : BV} (R : RightF b) : ∀ l ∈ b.ll, 0 ≤ l.n ∧ l.n ≤ 255 := fun l hl => by
  obtain ⟨i, hi, rfl⟩ := List.mem_iff_getElem.1 hl
  have := R.lock i hi
  unfold lockB at this
  simp only [Bool.and_eq_true, decide_eq_true_eq] at this
  omega

set_option maxHeartbeats 4000000 in
set_option maxRecDepth 20000 in
theorem c_counts (b : BV) (o : PV) (ok : BOK b) (h1 : b.ol.length < 4611686018427387904) (h2 : b.il.length < 4611686018427387904) (ha : o.addr < 4294967296) (σ : St) :
    VCalls Try.prog 7 [bkv b, pv o] σ fun r σ' => r = .bool true := by
  refine vcalls_intro (C := cfg Try.prog [] [] []) (cfg_ok mixed) Try.func7 rfl rfl rfl rfl rfl ?_
  simp -implicitDefEqProofs only [go_sem, bkv, bvC, pv, pvC]
  refine vgo_call rfl rfl rfl rfl (c_shown σ) ?_
  simp -implicitDefEqProofs only [go_sem]
  refine vgo_call rfl rfl rfl rfl (c_rright b h1 h2 σ) ?_
  cases hR : rightB b
  · simp -implicitDefEqProofs only [go_sem]
  have R := (right_iff b).1 hR
  simp -implicitDefEqProofs only [go_sem]
  cases hu : decide ((50 : Int) < (o.user.size : Int))
  · simp -implicitDefEqProofs only [go_sem, hu]
    have hcn := fun (i : Nat) (h : i < b.ll.length) => counts R o h
    have hcl := counts_len R o
    have hN := right_N R
    have hl8 := R.lks
    refine vgo_call rfl rfl rfl rfl (c_apply b o ok R.next0 R.len R.lks (right_N R) ha σ) ?_
    unfold cntP at hcn
    generalize hce : applyP b o = ce at hcn hcl
    obtain ⟨c, e⟩ := ce
    simp -implicitDefEqProofs only [go_sem, applyV, bkv, bvC]
    refine w_loop (fun i => i ≤ b.ll.length) (fun i => [(8, .int .i64 i), (7, .int .i64 e), (6, .cell (bvC c)), (5, .bool true), (4, .bool false), (3, .ip (pvC o)), (2, .ip (bvC b))]) (fun _ => σ) (fun i => b.ll.length - i) 0 (Nat.zero_le _) ?_ rfl ?_
    · simp -implicitDefEqProofs only [go_sem, bvC, pvC]
      rfl
    intro i hi
    rcases Nat.lt_or_ge i b.ll.length with h | h
    · have hw : IntKind.i64.wrap ((i : Int) + 1) = ((i + 1 : Nat) : Int) := wrap_ok (by omega) (by omega)
      simp -implicitDefEqProofs only [go_sem, bvC, pvC, lvs_length, h, lvs_getD h]
      refine vgo_call rfl rfl rfl rfl (c_rfailed c b.ll[i].user (Nat.le_trans hcl (by decide)) σ) ?_
      have hq := hcn i h
      simp only at hq hcl
      have hNi := hN _ (List.getElem_mem h)
      rcases hq with ⟨q1, q2, q3, q4⟩ | ⟨q1, q2, q3, q4⟩ | ⟨q1, q2, q3⟩
      · have e1 : (e == 0) = true := by simp [q1]
        have e2 : (o.kind == 5) = true := by simp [q2]
        have e3 : strEq o.user b.ll[i].user = true := by rw [strEq_dec]; exact decide_eq_true q3
        rw [idx_find_none q4]
        have e4 : decide ((0 : Int) ≤ -1) = false := rfl
        simp -implicitDefEqProofs only [go_sem, e1, e2, e3, e4]
        refine l_next (i + 1) h (by omega) ?_ rfl
        simp -implicitDefEqProofs only [go_sem, bvC, pvC, hw]
      · have e1 : (e == 0) = true := by simp [q1]
        have e2 : (o.kind == 5) = false := by simp [q2]
        have e2' : (o.kind == 4) = true := by simp [q2]
        have e3 : strEq o.user b.ll[i].user = true := by rw [strEq_dec]; exact decide_eq_true q3
        obtain ⟨j, hj, r1, r2⟩ := idx_find q4
        rw [r1]
        have e4 : decide ((j : Int) < 0) = false := by simp
        have hw2 : IntKind.i64.wrap (b.ll[i].n + 1) = b.ll[i].n + 1 := by rw [IntKind.wrap_i64]; omega
        have hn : c.ll[j].n = (if 255 < b.ll[i].n + 1 then 255 else b.ll[i].n + 1) := by rw [r2]; rfl
        have ht : c.ll[j].t = o.t := by rw [r2]; rfl
        simp -implicitDefEqProofs only [go_sem, e1, e2, e2', e3, e4]
        refine w_walk2 [] [0, 1, 2, 3, 4, 5, 6, 7, 8, 9, 10, 11, 12, 13, 14, 15, 16, 17, 18, 19, 20, 21, 22, 23, 24, 25, 26, 27, 28, 29, 30, 31, 32, 33, 34, 35, 36, 37] [77, 78, 79, 80, 81, 82, 83, 84, 85, 86, 87, 88, 89, 90, 91, 92, 93, 94, 95, 96, 97, 98, 99, 100, 101, 102, 103, 104, 105, 106, 107, 108, 109, 110, 111, 112, 113, 114] [0, 1, 3, 7, 15, 7, 63, 127, 7, 511, 1023, 2047, 4095, 8191, 16383, 32767, 16383, 131071, 262143, 524287, 16383, 1064959, 3162111, 7356415, 16777215, 33554431, 67108863, 134217727, 67108863, 536870911, 1073741823, 2147483647, 67108863, 4362076159, 17179869183, 34359738367, 68719476735, 137438953471] rfl rfl rfl rfl ?_
        simp -implicitDefEqProofs only [go_sem, bvC, pvC, lvs_length, hj, lvs_getD hj, hw2, hn, ht]
        refine l_next (i + 1) h (by omega) ?_ rfl
        simp -implicitDefEqProofs only [go_sem, bvC, pvC, hw]
      · obtain ⟨j, hj, r1, r2⟩ := idx_find q3
        rw [r1]
        have e4 : decide ((j : Int) < 0) = false := by simp
        have e5 : decide ((0 : Int) ≤ (j : Int)) = true := by simp
        have hS := strEq_dec
        cases e1 : e == 0
        · simp -implicitDefEqProofs only [go_sem, e1, e4]
          refine w_walk2 [] [0, 1, 2, 3, 4, 5, 6, 7, 8, 9, 10, 11, 12, 13, 14, 15, 16, 17, 18, 19, 20, 21, 22, 23, 24, 25, 26, 27, 28, 29, 30, 31, 32, 33, 34, 35, 36, 37] [77, 78, 79, 80, 81, 82, 83, 84, 85, 86, 87, 88, 89, 90, 91, 92, 93, 94, 95, 96, 97, 98, 99, 100, 101, 102, 103, 104, 105, 106, 107, 108, 109, 110, 111, 112, 113, 114] [0, 1, 3, 7, 15, 7, 63, 127, 7, 511, 1023, 2047, 4095, 8191, 16383, 32767, 16383, 131071, 262143, 524287, 16383, 1064959, 3162111, 7356415, 16777215, 33554431, 67108863, 134217727, 67108863, 536870911, 1073741823, 2147483647, 67108863, 4362076159, 17179869183, 34359738367, 68719476735, 137438953471] rfl rfl rfl rfl ?_
          simp -implicitDefEqProofs only [go_sem, bvC, pvC, lvs_length, hj, lvs_getD hj, r2, mk, hS]
          refine l_next (i + 1) h (by omega) ?_ rfl
          simp -implicitDefEqProofs only [go_sem, bvC, pvC, hw]
        have e1' : e = 0 := by simpa using e1
        by_cases hu' : o.user = b.ll[i].user
        · have n5 : (o.kind == 5) = false := by simp; exact fun h => q1 ⟨e1', h, hu'⟩
          have n4 : (o.kind == 4) = false := by simp; exact fun h => q2 ⟨e1', h, hu'⟩
          simp -implicitDefEqProofs only [go_sem, e1, e4, n5, n4]
          refine w_walk2 [] [0, 1, 2, 3, 4, 5, 6, 7, 8, 9, 10, 11, 12, 13, 14, 15, 16, 17, 18, 19, 20, 21, 22, 23, 24, 25, 26, 27, 28, 29, 30, 31, 32, 33, 34, 35, 36, 37] [77, 78, 79, 80, 81, 82, 83, 84, 85, 86, 87, 88, 89, 90, 91, 92, 93, 94, 95, 96, 97, 98, 99, 100, 101, 102, 103, 104, 105, 106, 107, 108, 109, 110, 111, 112, 113, 114] [0, 1, 3, 7, 15, 7, 63, 127, 7, 511, 1023, 2047, 4095, 8191, 16383, 32767, 16383, 131071, 262143, 524287, 16383, 1064959, 3162111, 7356415, 16777215, 33554431, 67108863, 134217727, 67108863, 536870911, 1073741823, 2147483647, 67108863, 4362076159, 17179869183, 34359738367, 68719476735, 137438953471] rfl rfl rfl rfl ?_
          simp -implicitDefEqProofs only [go_sem, bvC, pvC, lvs_length, hj, lvs_getD hj, r2, mk, hS]
          refine l_next (i + 1) h (by omega) ?_ rfl
          simp -implicitDefEqProofs only [go_sem, bvC, pvC, hw]
        have e3 : strEq o.user b.ll[i].user = false := by rw [strEq_dec]; exact decide_eq_false hu'
        cases n5 : o.kind == 5
        · cases n4 : o.kind == 4
          · simp -implicitDefEqProofs only [go_sem, e1, e4, n5, n4]
            refine w_walk2 [] [0, 1, 2, 3, 4, 5, 6, 7, 8, 9, 10, 11, 12, 13, 14, 15, 16, 17, 18, 19, 20, 21, 22, 23, 24, 25, 26, 27, 28, 29, 30, 31, 32, 33, 34, 35, 36, 37] [77, 78, 79, 80, 81, 82, 83, 84, 85, 86, 87, 88, 89, 90, 91, 92, 93, 94, 95, 96, 97, 98, 99, 100, 101, 102, 103, 104, 105, 106, 107, 108, 109, 110, 111, 112, 113, 114] [0, 1, 3, 7, 15, 7, 63, 127, 7, 511, 1023, 2047, 4095, 8191, 16383, 32767, 16383, 131071, 262143, 524287, 16383, 1064959, 3162111, 7356415, 16777215, 33554431, 67108863, 134217727, 67108863, 536870911, 1073741823, 2147483647, 67108863, 4362076159, 17179869183, 34359738367, 68719476735, 137438953471] rfl rfl rfl rfl ?_
            simp -implicitDefEqProofs only [go_sem, bvC, pvC, lvs_length, hj, lvs_getD hj, r2, mk, hS]
            refine l_next (i + 1) h (by omega) ?_ rfl
            simp -implicitDefEqProofs only [go_sem, bvC, pvC, hw]
          · simp -implicitDefEqProofs only [go_sem, e1, e4, n5, n4, e3]
            refine w_walk2 [] [0, 1, 2, 3, 4, 5, 6, 7, 8, 9, 10, 11, 12, 13, 14, 15, 16, 17, 18, 19, 20, 21, 22, 23, 24, 25, 26, 27, 28, 29, 30, 31, 32, 33, 34, 35, 36, 37] [77, 78, 79, 80, 81, 82, 83, 84, 85, 86, 87, 88, 89, 90, 91, 92, 93, 94, 95, 96, 97, 98, 99, 100, 101, 102, 103, 104, 105, 106, 107, 108, 109, 110, 111, 112, 113, 114] [0, 1, 3, 7, 15, 7, 63, 127, 7, 511, 1023, 2047, 4095, 8191, 16383, 32767, 16383, 131071, 262143, 524287, 16383, 1064959, 3162111, 7356415, 16777215, 33554431, 67108863, 134217727, 67108863, 536870911, 1073741823, 2147483647, 67108863, 4362076159, 17179869183, 34359738367, 68719476735, 137438953471] rfl rfl rfl rfl ?_
            simp -implicitDefEqProofs only [go_sem, bvC, pvC, lvs_length, hj, lvs_getD hj, r2, mk, hS]
            refine l_next (i + 1) h (by omega) ?_ rfl
            simp -implicitDefEqProofs only [go_sem, bvC, pvC, hw]
        · have n4 : (o.kind == 4) = false := by
            have := beq_iff_eq.1 n5
            rw [this]; rfl
          simp -implicitDefEqProofs only [go_sem, e1, e4, n5, n4, e3]
          refine w_walk2 [] [0, 1, 2, 3, 4, 5, 6, 7, 8, 9, 10, 11, 12, 13, 14, 15, 16, 17, 18, 19, 20, 21, 22, 23, 24, 25, 26, 27, 28, 29, 30, 31, 32, 33, 34, 35, 36, 37] [77, 78, 79, 80, 81, 82, 83, 84, 85, 86, 87, 88, 89, 90, 91, 92, 93, 94, 95, 96, 97, 98, 99, 100, 101, 102, 103, 104, 105, 106, 107, 108, 109, 110, 111, 112, 113, 114] [0, 1, 3, 7, 15, 7, 63, 127, 7, 511, 1023, 2047, 4095, 8191, 16383, 32767, 16383, 131071, 262143, 524287, 16383, 1064959, 3162111, 7356415, 16777215, 33554431, 67108863, 134217727, 67108863, 536870911, 1073741823, 2147483647, 67108863, 4362076159, 17179869183, 34359738367, 68719476735, 137438953471] rfl rfl rfl rfl ?_
          simp -implicitDefEqProofs only [go_sem, bvC, pvC, lvs_length, hj, lvs_getD hj, r2, mk, hS]
          refine l_next (i + 1) h (by omega) ?_ rfl
          simp -implicitDefEqProofs only [go_sem, bvC, pvC, hw]
    · have hh : ¬ (i < b.ll.length) := by omega
      have hd : decide ((c.ll.length : Int) ≤ 8) = true := by simp only at hcl; simp; omega
      simp -implicitDefEqProofs only [go_sem, bvC, pvC, lvs_length, hh]
      refine l_exit ?_
      simp -implicitDefEqProofs only [go_sem, bvC, pvC, lvs_length, hd]
  · simp -implicitDefEqProofs only [go_sem, hu]

end Go.VL
