/- BookFree: at every book and every link the law answers true, and leaves its arguments as they were. Conditions: none. -/
import Derived.Test.YtmeoignpknjdeaaSSc
set_option linter.unusedVariables false
set_option linter.unusedSimpArgs false
/- The least address that is free. Conditions: none. -/
namespace Go.VL
open Go.Proofs

theorem freeGo_spec (l : List SV) : ∀ (n : Nat) (a : Int), (∃ k : Nat, k < n ∧ freeGo l n a = (a + (k : Int), true) ∧ (∀ j : Nat, j < k → ∃ s ∈ l, s.addr = a + (j : Int)) ∧ ∀ s ∈ l, s.addr ≠ a + (k : Int)) ∨ (freeGo l n a = (0, false) ∧ ∀ j : Nat, j < n → ∃ s ∈ l, s.addr = a + (j : Int))
  | 0, a => .inr ⟨rfl, fun j h => by omega⟩
  | n + 1, a => by
    cases h : l.any (fun s => s.addr == a)
    · refine .inl ⟨0, by omega, ?_, fun j h => by omega, ?_⟩
      · rw [freeGo, h]
        show (a, true) = _
        rw [show a + ((0 : Nat) : Int) = a by omega]
      · intro s hs e
        rw [List.any_eq_false] at h
        have := h s hs
        simp at this e
        exact this e
    · have h0 : ∃ s ∈ l, s.addr = a := by
        obtain ⟨s, hs, e⟩ := List.any_eq_true.1 h
        exact ⟨s, hs, by simpa using e⟩
      have hu : freeGo l (n + 1) a = freeGo l n (a + 1) := by rw [freeGo, h]; rfl
      have hj : ∀ {m : Nat}, (∀ j : Nat, j < m → ∃ s ∈ l, s.addr = a + 1 + (j : Int)) → ∀ j : Nat, j < m + 1 → ∃ s ∈ l, s.addr = a + (j : Int) := by
        intro m hm j hj
        cases j with
        | zero =>
          obtain ⟨s, hs, e⟩ := h0
          exact ⟨s, hs, by omega⟩
        | succ j =>
          obtain ⟨s, hs, e⟩ := hm j (by omega)
          exact ⟨s, hs, by omega⟩
      rcases freeGo_spec l n (a + 1) with ⟨k, h1, h2, h3, h4⟩ | ⟨h1, h2⟩
      · refine .inl ⟨k + 1, by omega, ?_, hj h3, fun s hs e => h4 s hs (by omega)⟩
        rw [hu, h2, show a + 1 + (k : Int) = a + ((k + 1 : Nat) : Int) by omega]
      · exact .inr ⟨by rw [hu, h1], hj h2⟩

/-- How many stand below an address. -/
def cntA (a : Int) (l : List SV) : Nat := l.countP fun s => decide (s.addr < a)
theorem cntA_take (a : Int) {l : List SV} {i : Nat} (h : i < l.length) : cntA a (l.take (i + 1)) = cntA a (l.take i) + (bif decide (l[i].addr < a) then 1 else 0) := by
  unfold cntA
  rw [List.take_succ_eq_append_getElem h, List.countP_append, List.countP_cons, List.countP_nil]
  cases decide (l[i].addr < a) <;> simp
theorem cntA_succ (a : Int) : ∀ l : List SV, cntA (a + 1) l = cntA a l + l.countP fun s => s.addr == a
  | [] => rfl
  | s :: l => by
    have ih := cntA_succ a l
    unfold cntA at *
    rw [List.countP_cons, List.countP_cons, List.countP_cons, ih]
    by_cases h1 : s.addr < a
    · have h2 : s.addr < a + 1 := by omega
      have h3 : ¬ s.addr = a := by omega
      simp [h1, h2, h3]; omega
    · by_cases h3 : s.addr = a
      · have h2 : s.addr < a + 1 := by omega
        have e1 : decide (s.addr < a + 1) = true := decide_eq_true h2
        have e2 : decide (s.addr < a) = false := decide_eq_false h1
        have e3 : (s.addr == a) = true := by simp [h3]
        rw [e1, e2, e3]
        simp
        omega
      · have h2 : ¬ s.addr < a + 1 := by omega
        simp [h1, h2, h3]
theorem cnt_one {a : Int} : ∀ {l : List SV}, l.Pairwise apQ → (∃ s ∈ l, s.addr = a) → (l.countP fun s => s.addr == a) = 1
  | x :: l, hp, h => by
    rw [List.pairwise_cons] at hp
    rw [List.countP_cons]
    obtain ⟨s, hs, e⟩ := h
    by_cases hx : x.addr = a
    · have : (l.countP fun s => s.addr == a) = 0 := by
        rw [List.countP_eq_zero]
        intro y hy e'
        exact (hp.1 y hy).2.2 (by simp at e'; omega)
      rw [this]
      simp [hx]
    · have hl : ∃ s ∈ l, s.addr = a := by
        rcases List.mem_cons.1 hs with h | h
        · subst h; exact absurd e hx
        · exact ⟨s, h, e⟩
      rw [cnt_one hp.2 hl]
      simp [hx]
theorem cntA_full {l : List SV} {base : Int} (hp : l.Pairwise apQ) (hb : ∀ s ∈ l, base ≤ s.addr) : ∀ k : Nat, (∀ j : Nat, j < k → ∃ s ∈ l, s.addr = base + (j : Int)) → cntA (base + (k : Int)) l = k
  | 0, _ => by
    unfold cntA
    rw [List.countP_eq_zero]
    intro s hs
    have := hb s hs
    simp
    omega
  | k + 1, h => by
    have e : base + ((k + 1 : Nat) : Int) = base + (k : Int) + 1 := by omega
    rw [e, cntA_succ, cntA_full hp hb k (fun j hj => h j (by omega)), cnt_one hp (h k (by omega))]
theorem pool_of {b : BV} (R : RightP b) {s : SV} (hs : s ∈ b.ol) : 167772161 ≤ s.addr ∧ s.addr ≤ 167772166 := by
  have := R.ses s hs
  unfold okSB poolB at this
  simp only [Bool.and_eq_true, decide_eq_true_eq] at this
  exact this.2

theorem free_cases {b : BV} (R : RightP b) : (∃ k : Nat, k < 6 ∧ freeP b = (167772161 + (k : Int), true) ∧ (∀ j : Nat, j < k → ∃ s ∈ b.ol, s.addr = 167772161 + (j : Int)) ∧ (∀ s ∈ b.ol, s.addr ≠ 167772161 + (k : Int)) ∧ cntA (167772161 + (k : Int)) b.ol = k) ∨ (freeP b = (0, false) ∧ b.ol.length = 6) := by
  rcases freeGo_spec b.ol 6 167772161 with ⟨k, h1, h2, h3, h4⟩ | ⟨h1, h2⟩
  · exact .inl ⟨k, h1, h2, h3, h4, cntA_full R.pw (fun s hs => (pool_of R hs).1) k h3⟩
  · refine .inr ⟨h1, ?_⟩
    have := cntA_full R.pw (fun s hs => (pool_of R hs).1) 6 h2
    have h : cntA (167772161 + ((6 : Nat) : Int)) b.ol = b.ol.length := by
      unfold cntA
      rw [List.countP_eq_length]
      intro s hs
      have := pool_of R hs
      simp
      omega
    omega

def oF (link a : Int) : PV := ⟨1, 0, link, a, uB, 0, 0, 0, 0⟩
def oC (id : Int) : PV := ⟨3, id, 0, 0, uB, 0, 0, 0, 0⟩
theorem uB_ok : userB uB = true := by decide +kernel
theorem openE_cases (b : BV) (o : PV) : openE b o = 0 ∨ openE b o = 1 ∨ openE b o = 6 ∨ openE b o = 4 := by
  unfold openE
  cases !poolB o.addr
  · cases busyB b o
    · cases (!decide (b.il.length + b.ol.length + 2 ≤ 60) || decide (1000000000 ≤ b.next))
      · exact .inl rfl
      · exact .inr (.inr (.inr rfl))
    · exact .inr (.inr (.inl rfl))
  · exact .inr (.inl rfl)
theorem apply_oF (b : BV) (link a : Int) : (applyP b (oF link a) = (openP b (oF link a), 0) ∧ mayB (oF link a) = true ∧ openE b (oF link a) = 0) ∨ (∃ e, applyP b (oF link a) = (b, e) ∧ (e = 1 ∨ e = 6 ∨ e = 4)) := by
  cases hm : mayB (oF link a)
  · exact .inr ⟨1, by unfold applyP; rw [hm]; rfl, .inl rfl⟩
  · have he : applyP b (oF link a) = if openE b (oF link a) = 0 then (openP b (oF link a), 0) else (b, openE b (oF link a)) := by
      unfold applyP
      rw [hm, if_neg (by decide), if_pos (show (oF link a).kind = 1 from rfl)]
    rcases openE_cases b (oF link a) with h | h
    · rw [if_pos h] at he; exact .inl ⟨he, rfl, h⟩
    · rw [if_neg (by omega)] at he; exact .inr ⟨_, he, h⟩

theorem openP_ol (b : BV) (o : PV) : (openP b o).ol = b.ol ++ [newS b o] := rfl
theorem free_open {b : BV} {link : Int} {k : Nat} (h2 : ∀ j : Nat, j < k → ∃ s ∈ b.ol, s.addr = 167772161 + (j : Int)) :
    (freeP (openP b (oF link (167772161 + (k : Int))))).2 = false ∨ 167772161 + (k : Int) < (freeP (openP b (oF link (167772161 + (k : Int))))).1 := by
  unfold freeP
  rw [openP_ol]
  rcases freeGo_spec (b.ol ++ [newS b (oF link (167772161 + (k : Int)))]) 6 167772161 with ⟨k', _, h, _, h4⟩ | ⟨h, _⟩
  · rw [h]
    right
    show 167772161 + (k : Int) < 167772161 + (k' : Int)
    rcases Nat.lt_trichotomy k' k with hk | hk | hk
    · obtain ⟨s, hs, e⟩ := h2 k' hk
      exact absurd e (h4 s (List.mem_append_left _ hs))
    · subst hk
      exact absurd rfl (h4 (newS b (oF link (167772161 + (k' : Int)))) (List.mem_append_right _ (List.mem_singleton.2 rfl)))
    · omega
  · rw [h]; exact .inl rfl

theorem close_open {b : BV} (R : RightP b) (link a : Int) (hn : b.next < 1000000000) : ∃ d, applyP (openP b (oF link a)) (oC b.next) = (d, 0) ∧ d.ol = b.ol := by
  have hn0 := R.next0
  have hm : mayB (oC b.next) = true := by
    unfold mayB oC btwB
    simp [uB_ok, hn0]
    omega
  have hnone := find_next R
  have hfi : (openP b (oF link a)).ol.find? (idS (oC b.next).id) = some (newS b (oF link a)) := by
    rw [openP_ol, List.find?_append]
    show (b.ol.find? (idS b.next)).or _ = _
    rw [hnone]
    have : idS b.next (newS b (oF link a)) = true := by simp [idS, newS]
    show List.find? (idS b.next) [_] = _
    rw [List.find?_cons, this]
  have hI : idxL (idS (oC b.next).id) (openP b (oF link a)).ol = (b.ol.length : Int) := by
    refine idxL_at (by rw [openP_ol]; simp) ?_ ?_
    · rw [openP_ol, List.take_left]
      unfold noneL
      rw [List.all_eq_true]
      intro s hs
      have := List.find?_eq_none.1 hnone s hs
      show (!idS b.next s) = true
      simpa using this
    · simp [openP_ol, idS, newS, oC]
  have hE : closeE (openP b (oF link a)) (oC b.next) = 0 := by
    unfold closeE atP
    rw [hfi]
    simp only
    rw [hI]
    simp [oC, newS]
  have hR : closeRow (openP b (oF link a)) (oC b.next) = b.ol := by
    unfold closeRow atI
    rw [hI, openP_ol]
    show (b.ol ++ [_]).eraseIdx b.ol.length = _
    rw [List.eraseIdx_append_of_length_le (Nat.le_refl _), Nat.sub_self]
    exact List.append_nil _
  refine ⟨{ openP b (oF link a) with ol := closeRow (openP b (oF link a)) (oC b.next), on := false, il := (openP b (oF link a)).il ++ [⟨3, (oC b.next).id, (oC b.next).inn, (oC b.next).out, (oC b.next).cause⟩], inl := false }, ?_, ?_⟩
  · unfold applyP
    have n1 : ¬ (oC b.next).kind = 1 := fun h => absurd (show (3 : Int) = 1 from h) (by decide)
    have n2 : ¬ (oC b.next).kind = 2 := fun h => absurd (show (3 : Int) = 2 from h) (by decide)
    rw [hm, if_neg (by decide), if_neg n1, if_neg n2, if_pos (show (oC b.next).kind = 3 from rfl), if_pos hE]
  · exact hR

set_option maxHeartbeats 4000000 in
set_option maxRecDepth 20000 in
theorem c_lfree (b : BV) (link : Int) (ok : BOK b) (h1 : b.ol.length < 4611686018427387904) (h2 : b.il.length < 4611686018427387904) (σ : St) :
    VCalls Try.prog 6 [bkv b, .int .i64 link] σ fun r σ' => r = .bool true := by
  refine vcalls_intro (C := cfg Try.prog [] [] []) (cfg_ok mixed) Try.func6 rfl rfl rfl rfl rfl ?_
  simp -implicitDefEqProofs only [go_sem, bkv, bvC]
  refine vgo_call rfl rfl rfl rfl (c_shown σ) ?_
  simp -implicitDefEqProofs only [go_sem]
  refine vgo_call rfl rfl rfl rfl (c_rright b h1 h2 σ) ?_
  cases hR : rightB b
  · simp -implicitDefEqProofs only [go_sem]
  have R := ((right_iff b).1 hR).p
  have hlen := R.len
  simp -implicitDefEqProofs only [go_sem]
  refine vgo_call rfl rfl rfl rfl (c_free b (by unfold lim; omega) σ) ?_
  rcases free_cases R with ⟨k, k1, k2, k3, k4, k5⟩ | ⟨k1, k2⟩
  · rw [k2]
    simp -implicitDefEqProofs only [go_sem]
    refine w_loop (fun i => i ≤ b.ol.length) (fun i => [(9, .int .i64 i), (8, .int .i64 (cntA (167772161 + (k : Int)) (b.ol.take i))), (7, .bool true), (6, .int .u32 (167772161 + (k : Int))), (5, .bool true), (4, .bool false), (1, .int .i64 link), (2, .ip (bvC b))]) (fun _ => σ) (fun i => b.ol.length - i) 0 (Nat.zero_le _) ?_ rfl ?_
    · simp -implicitDefEqProofs only [go_sem, bvC, List.take]
      exact ⟨rfl, rfl⟩
    intro i hi
    rcases Nat.lt_or_ge i b.ol.length with h | h
    · have hw : IntKind.i64.wrap ((i : Int) + 1) = ((i + 1 : Nat) : Int) := wrap_ok (by omega) (by omega)
      have hne : (b.ol[i].addr == 167772161 + (k : Int)) = false := by simpa using k4 _ (List.getElem_mem h)
      have hct := cntA_take (167772161 + (k : Int)) h
      have hcl : cntA (167772161 + (k : Int)) (b.ol.take i) ≤ i := Nat.le_trans (List.countP_le_length) (by simp; omega)
      have hw2 : IntKind.i64.wrap ((cntA (167772161 + (k : Int)) (b.ol.take i) : Int) + 1) = ((cntA (167772161 + (k : Int)) (b.ol.take i) + 1 : Nat) : Int) := wrap_ok (by omega) (by omega)
      simp -implicitDefEqProofs only [go_sem, bvC, svs_length, h, svs_getD h, hne]
      cases hlt : decide (b.ol[i].addr < 167772161 + (k : Int))
      · rw [hlt] at hct
        simp -implicitDefEqProofs only [go_sem, hlt]
        refine l_next (i + 1) h (by omega) ?_ rfl
        simp -implicitDefEqProofs only [go_sem, bvC, hw, hct, cond_false, Nat.add_zero]
      · rw [hlt] at hct
        simp -implicitDefEqProofs only [go_sem, hlt]
        refine l_next (i + 1) h (by omega) ?_ rfl
        simp -implicitDefEqProofs only [go_sem, bvC, hw, hw2, hct, cond_true]
    · have hh : ¬ (i < b.ol.length) := by omega
      simp -implicitDefEqProofs only [go_sem, bvC, svs_length, hh]
      refine l_exit ?_
      rw [List.take_of_length_le h, k5]
      have hap := c_apply b (oF link (167772161 + (k : Int))) ok R.next0 R.len R.lks (right_N R.f) (by show 167772161 + (k : Int) < 4294967296; omega) σ
      simp -implicitDefEqProofs only [go_sem]
      refine vgo_call rfl rfl rfl rfl hap ?_
      have hw3 : IntKind.u32.wrap (167772161 + (k : Int) - 167772161) = (k : Int) := by
        unfold IntKind.wrap
        simp [IntKind.bits, IntKind.signed]
        omega
      have hw4 : IntKind.i64.wrap (k : Int) = (k : Int) := wrap_ok (by omega) (by omega)
      rcases apply_oF b link (167772161 + (k : Int)) with ⟨e1, e2, e3⟩ | ⟨e, e1, e2⟩
      · rw [e1]
        simp -implicitDefEqProofs only [go_sem, applyV, bkv, bvC, hw3, hw4, bne]
        have Rc := right_apply R (oF link (167772161 + (k : Int)))
        have okc := ok_apply ok (oF link (167772161 + (k : Int)))
        rw [e1] at Rc okc
        simp only at Rc okc
        have hlc := Rc.len
        obtain ⟨d, d1, d2⟩ := close_open R link (167772161 + (k : Int)) (openE_facts e3).2.2.2
        have Rd := right_apply Rc (oC b.next)
        rw [d1] at Rd
        simp only at Rd
        have hld := Rd.len
        have hfd : freeP d = freeP b := by unfold freeP; rw [d2]
        have hfo := free_open (b := b) (link := link) k3
        have hac := c_apply (openP b (oF link (167772161 + (k : Int)))) (oC b.next) okc Rc.next0 Rc.len Rc.lks (right_N Rc.f) (by show (0 : Int) < 4294967296; decide) σ
        rw [d1] at hac
        refine vgo_call rfl rfl rfl rfl (c_free (openP b (oF link (167772161 + (k : Int)))) (by unfold lim; omega) σ) ?_
        generalize freeP (openP b (oF link (167772161 + (k : Int)))) = fo at hfo
        simp -implicitDefEqProofs only [go_sem, bvC]
        refine vgo_call rfl rfl rfl rfl hac ?_
        simp -implicitDefEqProofs only [go_sem, applyV, bkv, bvC]
        refine vgo_call rfl rfl rfl rfl (c_free d (by unfold lim; omega) σ) ?_
        rw [hfd, k2]
        cases hst : fo.2
        · simp -implicitDefEqProofs only [go_sem, hst]
        · have hlt : decide (167772161 + (k : Int) < fo.1) = true := by
            rcases hfo with h | h
            · rw [hst] at h; cases h
            · exact decide_eq_true h
          simp -implicitDefEqProofs only [go_sem, hst, hlt]
      · rw [e1]
        rcases e2 with rfl | rfl | rfl
        · simp -implicitDefEqProofs only [go_sem, applyV, bkv, bvC, hw3, hw4, bne]
        · simp -implicitDefEqProofs only [go_sem, applyV, bkv, bvC, hw3, hw4, bne]
        · simp -implicitDefEqProofs only [go_sem, applyV, bkv, bvC, hw3, hw4, bne]
  · rw [k1]
    have e6 : ((b.ol.length : Int) == 6) = true := by rw [k2]; rfl
    simp -implicitDefEqProofs only [go_sem, svs_length, e6]

end Go.VL

/- BookFree: at every book and every link the law answers true, and leaves its arguments as they were. Conditions: none. -/
namespace Go.Proofs.Ytmeoignpknjdeaa
open Go.VL Go.ChangeShapes Go.WideShapes Go.RowKit

theorem bookFree_calls (vs : List V) (h : argsV [shBook, shI64] vs) : VCalls Try.prog 6 vs [] fun r _ => r = .bool true := by
  obtain ⟨c1, r1, rfl, h1, c2, r2, rfl, ⟨n, rfl, _⟩, rfl⟩ := h
  obtain ⟨b, e1, ok, l1, l2, l3⟩ := book_of h1
  show VCalls Try.prog _ [.agg c1, _] _ _
  rw [e1]
  exact c_lfree b n ok l1 l2 []

theorem bookFree_lifted (os : Os) (started : os.Started) (H : Type) (enc : TypeId × Value → H) :
    ReturnsInHanded {} Try.checked os 6 .any (Rows.bookFreeSpec.pre6 enc Try.prog Try.f6 Rows.bookFreeRow.domain false) (Rows.bookFreeSpec.post enc Try.prog Try.f6 false true false false) := by
  refine returnsInHanded_of_change_sized (C := Try.checked) own started (by kernel_rfl) Try.func6
    (ChangeSpec.witness6 (enc := enc) (C := Try.checked) false ⟨#[], #[.agg #[.int .i64 0, .slice none 0 0, .slice none 0 0, .slice none 0 0], .int .i64 0], []⟩ 8 (by kernel_rfl) (by kernel_rfl) (by kernel_rfl) (by kernel_rfl)) ?_
  intro W base args ds gs before hval0 hW hcnd hsz0 _
  have hW' := hW
  obtain ⟨p, q, hA0, hV, rfl, hfz, hnd⟩ := hW
  obtain ⟨rfl, rfl⟩ := trodVars_none hV
  have hval : ∀ (j : Nat) t v, (Try.f6.params.toList)[j]? = some t → args.toList[j]? = some v → Value.okWide Try.prog W .any base t v := fun j t v h1 h2 => hval0 j t v (by simpa using h1) (by simpa using h2)
  refine (law_calls (fun _ => rfl) (ss := [shBook, shI64]) (by kernel_rfl) bookFree_calls hval hA0 hsz0).mono fun e W' ⟨he, bel⟩ => ?_
  subst he
  have hb := again_of' laidOut bel (by kernel_rfl) hA0
  obtain ⟨v0, vs0, d0, ds0, p0, q0, e0a, rfl, e0b, h0, r0⟩ := trodAll_cons (show DataW.TrodAll enc Try.prog W 0 (fun _ => true) true [26, 3] args.toList ds p from hA0)
  obtain ⟨v1, vs1, d1, ds1, p1, q1, e1a, rfl, e1b, h1, r1⟩ := trodAll_cons r0
  obtain ⟨_, rfl, _⟩ := trodAll_nil r1
  exact ⟨_, rfl, _, _, _, [], _, [], hW', trodAll_mk1 (shut_bool Try.underlying4 _), hb, rfl, bel.frame _, fun h => by cases h⟩

theorem bookFree_holds : Rows.BookFreeSaid :=
  OpenClaim.holds_of_wide 6 Try.f6 rfl rfl rfl rfl rfl rfl rfl ⟨rfl, rfl, rfl, rfl, rfl⟩ rfl rfl rfl rfl rfl (by kernel_rfl) Try.func6 (by kernel_rfl)
    (of_decide_eq_true (by kernel_rfl)) (by unfold Func.isWrapper; first | (rw [if_pos (by decide +kernel)]; kernel_rfl) | (rw [if_neg (by decide +kernel)]; exact ⟨rfl, rfl⟩))
    (fun os started H enc _ => bookFree_lifted os started H enc)
#print axioms bookFree_holds

end Go.Proofs.Ytmeoignpknjdeaa
