/- Contracts of this program's functions over values, joined texts. Conditions: none. -/
import Derived.Test.YtonjofnphkghcaaDoorSSd
set_option linter.unusedVariables false
set_option linter.unusedSimpArgs false
/- What an event leaves, and what a packet does, in plain Lean. Conditions: none. -/
namespace Go.VL
open Go.Proofs

def has6 (l : List Int) : Bool := l.any fun x => x == 6 || x == 7 || x == 10
def sends (x : Int) : Bool := x == 7 || x == 8 || x == 9 || x == 10 || x == 11 || x == 12 || x == 13
/-- What the state table keeps. -/
def tabQ (s e : Int) (x : List Int × Int × Bool) : Bool :=
  bif x.2.2 then decide (0 ≤ x.2.1) && decide (x.2.1 ≤ 9) && (x.1.any (· == 1) == (x.2.1 == 9 && !(s == 9))) && (x.1.any (· == 2) == (s == 9 && !(x.2.1 == 9))) && decide ((x.1.filter sends).length ≤ 2) &&
    (!timedB x.2.1 || has6 x.1 || (timedB s && !(e == 4) && !(e == 5)))
  else !(timedB s && (e == 4 || e == 5))
theorem tab_q : ∀ s : Fin 10, ∀ e : Fin 16, tabQ s.val e.val (nextP s.val e.val) = true := by decide +kernel
theorem next_q {s e : Int} (hs : 0 ≤ s ∧ s ≤ 9) (he : 0 ≤ e ∧ e ≤ 15) : tabQ s e (nextP s e) = true := by
  have := tab_q ⟨s.toNat, by omega⟩ ⟨e.toNat, by omega⟩
  have e1 : ((s.toNat : Nat) : Int) = s := by omega
  have e2 : ((e.toNat : Nat) : Int) = e := by omega
  simp only [e1, e2] at this
  exact this
theorem next_range {s e : Int} (h : (nextP s e).2.2 = true) : (0 ≤ s ∧ s ≤ 9) ∧ 0 ≤ e ∧ e ≤ 15 := by
  unfold nextP at h
  cases hc : decide (0 ≤ s) && decide (s ≤ 9) && decide (0 ≤ e) && decide (e ≤ 15)
  · rw [hc] at h; cases h
  · simp only [Bool.and_eq_true, decide_eq_true_eq] at hc
    exact ⟨hc.1.1, hc.1.2, hc.2⟩

theorem fold_left (l : List Int) : ∀ (m : List Int) (a : AuV), (m.foldl (actA l) a).left = bif has6 m then 3 else a.left
  | [], a => rfl
  | x :: m, a => by
    rw [List.foldl_cons, fold_left l m]
    have hh : has6 (x :: m) = ((x == 6 || x == 7 || x == 10) || has6 m) := by unfold has6; rw [List.any_cons]
    rw [hh]
    unfold actA
    split
    · rename_i h5
      subst h5
      rfl
    split
    · rename_i h6
      subst h6
      simp
    split
    · rename_i h7
      rcases h7 with rfl | rfl <;> simp
    · rename_i h5 h6 h7
      have e6 : (x == 6) = false := by simpa using h6
      have e7 : (x == 7) = false := by simp; omega
      have e10 : (x == 10) = false := by simp; omega
      rw [e6, e7, e10]
      rfl
theorem fold_cnt (l : List Int) : ∀ (m : List Int) (a : AuV), 0 ≤ a.cnt ∧ a.cnt ≤ 5 → 0 ≤ (m.foldl (actA l) a).cnt ∧ (m.foldl (actA l) a).cnt ≤ 5
  | [], _, h => h
  | x :: m, a, h => by
    rw [List.foldl_cons]
    exact fold_cnt l m _ (actA_bound h x)
theorem timed_range {s : Int} : timedB s = true ↔ 4 ≤ s ∧ s ≤ 8 := by
  unfold timedB
  simp
/-- What an event leaves is right. -/
theorem do_ok {a : AuV} {e : Int} (hc : 0 ≤ a.cnt ∧ a.cnt ≤ 5) (hd : (nextP a.st e).2.2 = true) (hl : timedB (nextP a.st e).2.1 = true → has6 (nextP a.st e).1 = true ∨ 1 ≤ a.left ∧ a.left ≤ 3) : aokB (doA a e).1 = true := by
  obtain ⟨hs, he⟩ := next_range hd
  have hq := next_q hs he
  unfold tabQ at hq
  rw [hd] at hq
  simp only [cond_true, Bool.and_eq_true, decide_eq_true_eq] at hq
  have hcn := fold_cnt (nextP a.st e).1 (nextP a.st e).1 a hc
  have hlf := fold_left (nextP a.st e).1 (nextP a.st e).1 a
  unfold doA
  rw [hd]
  simp only [cond_true]
  unfold aokB
  simp only [Bool.and_eq_true, decide_eq_true_eq]
  refine ⟨⟨⟨hq.1.1.1.1, hcn.1⟩, hcn.2⟩, ?_⟩
  cases ht : timedB (nextP a.st e).2.1
  · rfl
  · simp only [cond_true, Bool.and_eq_true, decide_eq_true_eq]
    rw [hlf]
    rcases hl ht with h | h
    · rw [h]; exact ⟨by show (1 : Int) ≤ 3; decide, Int.le_refl _⟩
    · cases has6 (nextP a.st e).1
      · exact h
      · exact ⟨by show (1 : Int) ≤ 3; decide, Int.le_refl _⟩

theorem ask_odd (r : RV) : (rAsk r).any oddB = false := by
  unfold rAsk
  cases r.ip <;> rfl
/-- Protocols but for the automaton. -/
structure Half (n : NgV) : Prop where
  k : 0 ≤ n.naks ∧ n.naks ≤ 3
  e : encOK n.ours = true
  o : n.ours.any oddB = false
theorem Good.half {n : NgV} (h : Good n) : Half n := ⟨h.k, h.e, h.o⟩
theorem act_half {n : NgV} (h : Half n) (a : AuV) (was : Int) (l : List Int) : Half (actN (withA n a) was l) := by
  unfold actN
  cases resetB was l
  · exact ⟨h.k, h.e, h.o⟩
  · exact ⟨⟨Int.le_refl _, by show (0 : Int) ≤ 3; decide⟩, ask_enc _, ask_odd _⟩
theorem act_a (n : NgV) (a : AuV) (was : Int) (l : List Int) : (actN (withA n a) was l).a = a := by
  unfold actN
  cases resetB was l <;> rfl
theorem ev_a {n : NgV} {e : Int} (h : doneB n e = true) : (evN n e).a = (doA n.a e).1 := by
  unfold evN
  rw [h]
  exact act_a _ _ _ _
theorem ev_good {n : NgV} (h : Good n) (e : Int) : Good (evN n e) := by
  cases hd : doneB n e
  · unfold evN
    rw [hd]
    exact h
  · have hh : Half (evN n e) := by
      unfold evN
      rw [hd]
      exact act_half h.half _ _ _
    refine ⟨?_, hh.k, hh.e, hh.o⟩
    rw [ev_a hd]
    have hd' : (nextP n.a.st e).2.2 = true := hd
    obtain ⟨hs, he⟩ := next_range hd'
    have hq := next_q hs he
    refine do_ok h.cnt hd' fun ht => ?_
    unfold tabQ at hq
    rw [hd'] at hq
    simp only [cond_true, Bool.and_eq_true, decide_eq_true_eq, Bool.or_eq_true, Bool.not_eq_true'] at hq
    rcases hq.2 with (h1 | h1) | h1
    · rw [ht] at h1; cases h1
    · exact .inl h1
    · right
      have ha := h.a
      unfold aokB at ha
      rw [h1.1.1] at ha
      simp only [cond_true, Bool.and_eq_true, decide_eq_true_eq] at ha
      exact ha.2

/-- Is it told to be up, or down, just when it should be? -/
def upB (was is : Bool) (l : List Int) : Bool := (l.any (· == 1) == (is && !was)) && (l.any (· == 2) == (was && !is))
theorem told_any (l : List Int) (x : Int) (hx : (x == 1 || x == 2 || x == 3 || x == 4) = true) : (toldOf l).any (· == x) = l.any (· == x) := by
  unfold toldOf
  induction l with
  | nil => rfl
  | cons y l ih =>
    rw [List.filter_cons]
    split
    · rw [List.any_cons, List.any_cons, ih]
    · rename_i hy
      rw [ih, List.any_cons]
      have : (y == x) = false := by
        cases hq : y == x
        · rfl
        · rw [beq_iff_eq.1 hq] at hy
          exact absurd hx hy
      rw [this, Bool.false_or]
theorem up_do {a : AuV} {e : Int} (hd : (nextP a.st e).2.2 = true) : upB (a.st == 9) ((doA a e).1.st == 9) (toldOf (doA a e).2.1) = true := by
  obtain ⟨hs, he⟩ := next_range hd
  have hq := next_q hs he
  unfold tabQ at hq
  rw [hd] at hq
  simp only [cond_true, Bool.and_eq_true] at hq
  unfold upB
  rw [told_any _ 1 rfl, told_any _ 2 rfl]
  unfold doA
  rw [hd]
  simp only [cond_true, Bool.and_eq_true]
  exact ⟨hq.1.1.1.2, hq.1.1.2⟩
theorem up_stay (b : Bool) : upB b b [] = true := by cases b <;> rfl
theorem up_ev (n : NgV) (e : Int) : upB (n.a.st == 9) ((evN n e).a.st == 9) (evT n e) = true := by
  cases hd : doneB n e
  · unfold evN evT
    rw [hd]
    exact up_stay _
  · rw [ev_a hd]
    unfold evT
    rw [hd]
    exact up_do hd

/-! A tick. -/
theorem tick_good {n : NgV} (h : Good n) : Good (tickW n).1 ∧ upB (n.a.st == 9) ((tickW n).1.a.st == 9) (toldOf (tickA n.a).2) = true := by
  have hh : Half (tickW n).1 := act_half h.half _ _ _
  have ha : (tickW n).1.a = (tickA n.a).1 := act_a _ _ _ _
  suffices hs : aokB (tickA n.a).1 = true ∧ upB (n.a.st == 9) ((tickA n.a).1.st == 9) (toldOf (tickA n.a).2) = true from ⟨⟨by rw [ha]; exact hs.1, hh.k, hh.e, hh.o⟩, by rw [ha]; exact hs.2⟩
  have hst := h.st
  have hl := h.left
  have hok := h.a
  unfold tickA
  cases h0 : n.a.left == 0
  · simp only [cond_false]
    have h0' : n.a.left ≠ 0 := by simpa using h0
    have ht : timedB n.a.st = true := by
      cases hq : timedB n.a.st
      · have := hl.1
        rw [hq] at this
        simp only [cond_false] at this
        omega
      · rfl
    cases h1 : decide (0 < n.a.left - 1)
    · simp only [cond_false]
      have he : ∀ e : Int, e = 4 ∨ e = 5 → aokB (doA { n.a with left := n.a.left - 1 } e).1 = true ∧ upB (n.a.st == 9) ((doA { n.a with left := n.a.left - 1 } e).1.st == 9) (toldOf (doA { n.a with left := n.a.left - 1 } e).2.1) = true := fun e he => by
        have hq := next_q hst (by omega : 0 ≤ e ∧ e ≤ 15)
        have h45 : (e == 4 || e == 5) = true := by rcases he with rfl | rfl <;> rfl
        cases hd : (nextP n.a.st e).2.2
        · unfold tabQ at hq
          rw [hd, ht, h45] at hq
          cases hq
        · refine ⟨do_ok (a := { n.a with left := n.a.left - 1 }) h.cnt hd fun htm => ?_, up_do (a := { n.a with left := n.a.left - 1 }) hd⟩
          unfold tabQ at hq
          rw [hd] at hq
          simp only [cond_true, Bool.and_eq_true, Bool.or_eq_true, Bool.not_eq_true'] at hq
          rcases hq.2 with (h1 | h1) | h1
          · rw [htm] at h1; cases h1
          · exact .inl h1
          · rcases he with rfl | rfl
            · have := h1.1.2; cases this
            · have := h1.2; cases this
      cases hcn : decide (0 < n.a.cnt)
      · exact he 5 (.inr rfl)
      · exact he 4 (.inl rfl)
    · simp only [cond_true]
      refine ⟨?_, up_stay _⟩
      have h1' : 0 < n.a.left - 1 := of_decide_eq_true h1
      unfold aokB at hok ⊢
      rw [ht] at hok ⊢
      simp only [cond_true, Bool.and_eq_true, decide_eq_true_eq] at hok ⊢
      exact ⟨hok.1, by omega⟩
  · simp only [cond_true]
    exact ⟨hok, up_stay _⟩

end Go.VL

/- What a packet does: which event, with which reply; what is sent and told. Conditions: none. -/
namespace Go.VL
open Go.Proofs

structure ReplyOK (p q : PkV) : Prop where
  c1 : q.code ≠ 1
  c2 : q.code = 2 → p.code = 1 ∧ q.id = p.id ∧ q.d = p.d ∧ q.sz = 1
  cx : q.code = 6 ∨ q.code = 10 ∨ q.code = 3 ∨ q.code = 4 → q.id = p.id
  l : q.d.length ≤ 1496
  z : PkOK q
theorem zero_ok (p : PkV) : ReplyOK p zPk := ⟨by decide, fun h => absurd h (by decide), fun h => absurd h (by decide), Nat.zero_le _, .inr ⟨rfl, rfl⟩⟩
/-- A packet does nothing, or an event. -/
inductive TakeIs (n : NgV) (p : PkV) : RS → Prop
  | stay : TakeIs n p (stayW n)
  | ev (n0 m : NgV) (e : Int) (reply : PkV) (h0 : Good n0) (ha : n0.a = n.a) (hr : ReplyOK p reply) (hma : m.a = (evN n0 e).a) (hmo : m.ours = (evN n0 e).ours) (hm : Good m) : TakeIs n p (m, (evW n0 e p.id reply).2)
theorem TakeIs.plain {n : NgV} (h : Good n) (p : PkV) (e : Int) {reply : PkV} (hr : ReplyOK p reply) : TakeIs n p (evW n e p.id reply) := .ev n (evN n e) e reply h rfl hr rfl rfl (ev_good h e)

theorem parse_encOK {nl : Bool} {d : List UInt8} {l : List OV} (h : parse nl [] d = some l) (hd : d.length ≤ 1496) : encOK l = true ∧ encL l = d := by
  obtain ⟨l', h1, h2, h3, h4⟩ := enc_parse nl d.length d [] l (Nat.le_refl _) h
  rw [List.nil_append] at h1
  subst h1
  refine ⟨?_, h2⟩
  unfold encOK
  simp only [Bool.and_eq_true, decide_eq_true_eq, List.all_eq_true]
  exact ⟨h3, by rw [h2]; exact hd⟩
theorem ans_code (r : RV) (l : List OV) (naks : Int) : (ansP r l naks).1 ≠ 1 ∧ ((ansP r l naks).1 = 2 → (ansP r l naks).2 = l) := by
  unfold ansP
  cases !(refL r l (decide (3 ≤ naks))).isEmpty
  · cases !decide (3 ≤ naks) && !(toL r l).isEmpty
    · exact ⟨by show (2 : UInt8) ≠ 1; decide, fun _ => rfl⟩
    · exact ⟨by show (3 : UInt8) ≠ 1; decide, fun h => absurd (show (3 : UInt8) = 2 from h) (by decide)⟩
  · exact ⟨by show (4 : UInt8) ≠ 1; decide, fun h => absurd (show (4 : UInt8) = 2 from h) (by decide)⟩
theorem rep_len (code id : UInt8) (m : List OV) : (repP code id m).d.length ≤ 1496 := by
  unfold repP
  cases he : encOK m
  · exact Nat.zero_le _
  · unfold encOK at he
    simp only [Bool.and_eq_true, decide_eq_true_eq] at he
    exact he.2
theorem rep_z (code id : UInt8) (m : List OV) : PkOK (repP code id m) := by
  unfold repP
  cases encOK m
  · exact .inr ⟨rfl, rfl⟩
  · exact .inl rfl
theorem req_good {n : NgV} (h : Good n) : Good (reqN n) ∧ (reqN n).a = n.a := by
  unfold reqN
  cases n.a.st == 3
  · exact ⟨h, rfl⟩
  · exact ⟨⟨h.a, ⟨Int.le_refl _, by show (0 : Int) ≤ 3; decide⟩, h.e, h.o⟩, rfl⟩
theorem take_is {n : NgV} (h : Good n) (p : PkV) (hd : p.d.length ≤ 1496) : TakeIs n p (takeW n p) := by
  unfold takeW
  cases decide (n.a.st ≤ 1)
  · simp only [cond_false]
    cases !knownC n.r.ip p.code
    · simp only [cond_false]
      unfold codeW
      split
      · rename_i hc
        unfold reqW
        cases hq : parse p.nl [] p.d with
        | none => exact .stay
        | some l =>
          simp only
          obtain ⟨hg, ha⟩ := req_good h
          obtain ⟨he, hel⟩ := parse_encOK hq hd
          generalize reqN n = n1 at hg ha
          obtain ⟨a1, a2⟩ := ans_code n1.r l n1.naks
          have hrp := rep_code (ansP n1.r l n1.naks).1 p.id (ansP n1.r l n1.naks).2
          have hrl := rep_len (ansP n1.r l n1.naks).1 p.id (ansP n1.r l n1.naks).2
          have hok : ReplyOK p (repP (ansP n1.r l n1.naks).1 p.id (ansP n1.r l n1.naks).2) := by
            refine ⟨by rw [hrp.1]; exact a1, fun h2 => ⟨hc, hrp.2, ?_, ?_⟩, fun _ => hrp.2, hrl, rep_z _ _ _⟩
            · rw [hrp.1] at h2
              rw [a2 h2]
              unfold repP
              rw [he]
              exact hel
            · rw [hrp.1] at h2
              rw [a2 h2]
              unfold repP
              rw [he]
              rfl
          have hev := ev_good hg (reqE n1 l)
          cases decide ((8 : Int) ∈ evL n1 (reqE n1 l)) || decide ((9 : Int) ∈ evL n1 (reqE n1 l))
          · exact .ev n1 _ _ _ hg ha hok rfl rfl hev
          · simp only [cond_true]
            cases (ansP n1.r l n1.naks).1 == 2
            · simp only [cond_false]
              cases (ansP n1.r l n1.naks).1 == 3
              · exact .ev n1 _ _ _ hg ha hok rfl rfl hev
              · have hk := hev.k
                refine .ev n1 _ _ _ hg ha hok rfl rfl ⟨hev.a, ?_, hev.e, hev.o⟩
                show 0 ≤ min ((evN n1 (reqE n1 l)).naks + 1) 3 ∧ min ((evN n1 (reqE n1 l)).naks + 1) 3 ≤ 3
                omega
            · exact .ev n1 _ _ _ hg ha hok rfl rfl ⟨hev.a, ⟨Int.le_refl _, by show (0 : Int) ≤ 3; decide⟩, hev.e, hev.o⟩
      split
      · unfold ackW
        cases p.id == n.a.id && decide (encL n.ours = p.d)
        · exact .stay
        · exact .plain h p 8 (zero_ok p)
      split
      · unfold nakW
        cases hq : parse p.nl [] p.d with
        | none => exact .stay
        | some l =>
          simp only
          cases p.id == n.a.id
          · exact .stay
          · simp only [cond_true]
            cases ht : turnP n p.code l with
            | none => exact .plain h p 3 (zero_ok p)
            | some x =>
              obtain ⟨o, on, oc⟩ := x
              obtain ⟨g1, g2⟩ := turn_good ⟨h.e, h.o⟩ ht
              have hg : Good { n with ours := o, on := on, oc := oc } := ⟨h.a, h.k, g1, g2⟩
              exact .ev { n with ours := o, on := on, oc := oc } _ 9 zPk hg rfl (zero_ok p) rfl rfl (ev_good hg 9)
      split
      · exact .plain h p 10 (zero_ok p)
      split
      · exact .plain h p 11 (zero_ok p)
      split
      · exact .plain h p _ (zero_ok p)
      split
      · exact .plain h p _ (zero_ok p)
      split
      · unfold echoW
        cases h4 : decide (4 ≤ p.d.length)
        · exact .stay
        · refine .plain h p 15 (reply := echoP n p) ⟨by show (10 : UInt8) ≠ 1; decide, fun h => absurd (show (10 : UInt8) = 2 from h) (by decide), fun _ => rfl, ?_, .inl rfl⟩
          show (fourB (magicN n) ++ p.d.drop 4).length ≤ 1496
          rw [List.length_append, List.length_drop]
          show 4 + _ ≤ _
          have := of_decide_eq_true h4
          omega
      · exact .stay
    · refine .plain h p 12 ⟨by show (7 : UInt8) ≠ 1; decide, fun h => absurd (show (7 : UInt8) = 2 from h) (by decide), fun h => absurd (show (7 : UInt8) = 6 ∨ (7 : UInt8) = 10 ∨ (7 : UInt8) = 3 ∨ (7 : UInt8) = 4 from h) (by decide), ?_, .inl rfl⟩
      show ((pkB p).take 1496).length ≤ 1496
      rw [List.length_take]
      omega
  · exact .stay

/-- A row, or nil. -/
def IsSl (v : V) (sz : Nat) (es : List V) : Prop := ∃ nl s, v = .sl nl false s es ∧ (s = sz ∨ (nl = true ∧ es = []))
theorem IsSl.ne {v : V} {sz : Nat} {es : List V} (h : IsSl v sz es) : ∃ nl, NE v (.sl nl false sz es) := by
  obtain ⟨nl, s, rfl, rfl | ⟨rfl, rfl⟩⟩ := h
  · exact ⟨nl, .refl _⟩
  · exact ⟨true, .nil _ _ _ _⟩
theorem out_sl (l : List PkV) : IsSl (outV l) 3 (pkvs l) := ⟨_, _, rfl, .inl rfl⟩
theorem tel_sl (l : List Int) : IsSl (telV l) 1 (zv64 l) := ⟨_, _, rfl, .inl rfl⟩
theorem nil_sl (sz : Nat) : IsSl nilV sz [] := ⟨_, _, rfl, .inr ⟨rfl, rfl⟩⟩
theorem ev_sl (n : NgV) (e : Int) (pid : UInt8) (reply : PkV) : IsSl (evW n e pid reply).2.1 3 (pkvs (evO n e pid reply)) ∧ IsSl (evW n e pid reply).2.2 1 (zv64 (evT n e)) := by
  show IsSl (evOV n e pid reply) 3 (pkvs (evO n e pid reply)) ∧ IsSl (evTV n e) 1 (zv64 (evT n e))
  unfold evOV evTV evO evT
  cases doneB n e
  · exact ⟨nil_sl 3, nil_sl 1⟩
  · exact ⟨out_sl _, tel_sl _⟩

theorem told_len (l : List Int) : (toldOf l).length ≤ l.length := List.length_filter_le _ _
theorem do_len (a : AuV) (e : Int) : (doA a e).2.1.length ≤ 10 := by
  unfold doA
  have := next_len a.st e
  cases (nextP a.st e).2.2
  · exact Nat.zero_le _
  · exact this
theorem evT_len (n : NgV) (e : Int) : (evT n e).length ≤ lim := by
  have := do_len n.a e
  have := told_len (doA n.a e).2.1
  unfold evT
  cases doneB n e
  · exact Nat.zero_le _
  · show (toldOf _).length ≤ lim
    unfold lim
    omega
theorem tickT_len (n : NgV) : (toldOf (tickA n.a).2).length ≤ lim := by
  have h : (tickA n.a).2.length ≤ 10 := by
    unfold tickA
    cases n.a.left == 0
    · cases decide (0 < n.a.left - 1)
      · exact do_len _ _
      · exact Nat.zero_le _
    · exact Nat.zero_le _
  have := told_len (tickA n.a).2
  unfold lim
  omega
/-- What is told, and what is left, of a packet. -/
theorem take_told {n : NgV} (h : Good n) (p : PkV) (hd : p.d.length ≤ 1496) : Good (takeW n p).1 ∧ ∃ os ts, IsSl (takeW n p).2.1 3 (pkvs os) ∧ IsSl (takeW n p).2.2 1 (zv64 ts) ∧ upB (n.a.st == 9) ((takeW n p).1.a.st == 9) ts = true ∧ ts.length ≤ lim := by
  have ht := take_is h p hd
  generalize takeW n p = r at ht
  cases ht with
  | stay => exact ⟨h, [], [], nil_sl 3, nil_sl 1, up_stay _, Nat.zero_le _⟩
  | ev n0 m e reply h0 ha hr hma hmo hm =>
    refine ⟨hm, _, _, (ev_sl n0 e p.id reply).1, (ev_sl n0 e p.id reply).2, ?_, evT_len _ _⟩
    show upB (n.a.st == 9) (m.a.st == 9) _ = true
    rw [hma, ← ha]
    exact up_ev n0 e
theorem do_told {n : NgV} (h : Good n) (e : Int) : Good (doW n e).1 ∧ ∃ os ts, IsSl (doW n e).2.1 3 (pkvs os) ∧ IsSl (doW n e).2.2 1 (zv64 ts) ∧ upB (n.a.st == 9) ((doW n e).1.a.st == 9) ts = true ∧ ts.length ≤ lim := by
  unfold doW
  cases decide (0 ≤ e) && decide (e ≤ 3)
  · exact ⟨h, [], [], nil_sl 3, nil_sl 1, up_stay _, Nat.zero_le _⟩
  · exact ⟨ev_good h e, _, _, (ev_sl n e 0 zPk).1, (ev_sl n e 0 zPk).2, up_ev n e, evT_len _ _⟩
theorem tick_told {n : NgV} (h : Good n) : Good (tickW n).1 ∧ ∃ os ts, IsSl (tickW n).2.1 3 (pkvs os) ∧ IsSl (tickW n).2.2 1 (zv64 ts) ∧ upB (n.a.st == 9) ((tickW n).1.a.st == 9) ts = true ∧ ts.length ≤ lim :=
  ⟨(tick_good h).1, _, _, out_sl _, tel_sl _, (tick_good h).2, tickT_len n⟩

end Go.VL

/- The law NegoRight, over values. Conditions: none. -/
namespace Go.VL
open Go.Proofs

set_option maxRecDepth 20000 in
theorem c_up2 (was nl : Bool) (n : NgV) (l : List Int) (hl : l.length ≤ lim) (σ : St) : VCalls Tryd.prog 14 [.bool was, ngv n, .sl nl false 1 (zv64 l)] σ fun r σ' => r = .bool (upB was (n.a.st == 9) l) ∧ σ' = σ := by
  refine vcalls_intro (C := cfg Tryd.prog [] [] []) (cfg_ok mixed) Tryd.func14 rfl rfl rfl rfl rfl ?_
  unfold lim at hl
  simp -implicitDefEqProofs only [go_sem, ngv, ngC]
  refine w_loop (fun i => i ≤ l.length) (fun i => [(9, .int .i64 i), (8, .bool ((l.take i).any (· == 2))), (7, .bool ((l.take i).any (· == 1))), (4, .ip (ngC n)), (2, .sl nl false 1 (zv64 l)), (0, .bool was)]) (fun _ => σ) (fun i => l.length - i) 0 (Nat.zero_le _) ?_ rfl ?_
  · simp -implicitDefEqProofs only [go_sem, ngC]
    exact ⟨rfl, rfl, rfl⟩
  intro i hi
  rcases Nat.lt_or_ge i l.length with h | h
  · have hw : IntKind.i64.wrap ((i : Int) + 1) = ((i + 1 : Nat) : Int) := wrap_ok (by omega) (by omega)
    have h1 : (l.take (i + 1)).any (· == 1) = ((l.take i).any (· == 1) || l[i] == 1) := by rw [List.take_succ_eq_append_getElem h, List.any_append]; simp
    have h2 : (l.take (i + 1)).any (· == 2) = ((l.take i).any (· == 2) || l[i] == 2) := by rw [List.take_succ_eq_append_getElem h, List.any_append]; simp
    simp -implicitDefEqProofs only [go_sem, h, zv_length, zv_getD h]
    cases q1 : (l.take i).any (· == 1) <;> cases q2 : (l.take i).any (· == 2) <;> simp -implicitDefEqProofs only [go_sem, h, zv_length, zv_getD h] <;>
      refine l_next (i + 1) h (by omega) ?_ rfl <;> rw [h1, h2, q1, q2] <;> simp -implicitDefEqProofs only [go_sem, hw, Bool.false_or, Bool.true_or]
  · have hh : ¬ (i < l.length) := by omega
    simp -implicitDefEqProofs only [go_sem, zv_length, hh, List.take_of_length_le h]
    refine l_exit ?_
    simp -implicitDefEqProofs only [go_sem, ngC]
    unfold upB
    cases was <;> cases n.a.st == 9 <;> cases l.any (· == 1) <;> cases l.any (· == 2) <;> simp -implicitDefEqProofs only [go_sem]
theorem c_up2S (was : Bool) (n : NgV) (l : List Int) (hl : l.length ≤ lim) {v : V} (hv : IsSl v 1 (zv64 l)) (σ : St) : VCalls Tryd.prog 14 [.bool was, ngv n, v] σ fun r σ' => r = .bool (upB was (n.a.st == 9) l) ∧ σ' = σ := by
  obtain ⟨nl, h⟩ := hv.ne
  exact (c_up2 was nl n l hl σ).ne ⟨.refl _, .refl _, h, trivial⟩

/-- Right, by what the document asks, where what is asked for can be told as bytes. -/
theorem rright_true {n : NgV} (h : Good n) (σ : St) : VCalls Tryd.prog 10 [ngv n] σ fun r σ' => r = .bool true ∧ σ' = σ := by
  have := c_rright14E n h.e σ
  rwa [h.right] at this

set_option maxHeartbeats 4000000 in
set_option maxRecDepth 20000 in
theorem c_lright (n : NgV) (e : Int) (p : PkV) (hps : n.ps = 2) (hp : p.sz = 1) (σ : St) : VCalls Tryd.prog 3 [ngv n, .int .i64 e, pkv p] σ fun r σ' => r = .bool true ∧ σ' = σ := by
  refine vcalls_intro (C := cfg Tryd.prog [] [] []) (cfg_ok mixed) Tryd.func3 rfl rfl rfl rfl rfl ?_
  have hsm := c_small14 n hps σ
  simp only [ngv, ngC] at hsm
  simp -implicitDefEqProofs only [go_sem, ngv, ngC, pkv, pkC, hp]
  refine vgo_call rfl rfl rfl rfl (c_shown σ) ?_
  simp -implicitDefEqProofs only [go_sem]
  refine vgo_call rfl rfl rfl rfl hsm ?_
  cases hs : smallN n
  · simp -implicitDefEqProofs only [go_sem]
  have hs' := hs
  unfold smallN at hs'
  simp only [Bool.and_eq_true] at hs'
  obtain ⟨hf1, hf2⟩ := hs'
  have hri := c_rright14 n hf1 σ
  simp only [ngv, ngC] at hri
  simp -implicitDefEqProofs only [go_sem]
  refine vgo_call rfl rfl rfl rfl hri ?_
  cases hr : rightN n
  · simp -implicitDefEqProofs only [go_sem]
  have hg := good_of hf1 hr
  simp -implicitDefEqProofs only [go_sem, bv_length]
  cases hd : decide ((1496 : Int) < (p.d.length : Int))
  · have hd' : p.d.length ≤ 1496 := by simp only [decide_eq_false_iff_not] at hd; omega
    have h1 := c_ndo n e hg.cnt hg.e σ
    have h2 := c_ntick n hg.cnt hg.left.2 hg.e σ
    have h3 := c_takeG hg p hp hd' σ
    obtain ⟨g1, os1, ts1, o1, t1, u1, l1⟩ := do_told hg e
    obtain ⟨g2, os2, ts2, o2, t2, u2, l2⟩ := tick_told hg
    obtain ⟨g3, os3, ts3, o3, t3, u3, l3⟩ := take_told hg p hd'
    have r1 := rright_true g1 σ
    have r2 := rright_true g2 σ
    have r3 := rright_true g3 σ
    generalize doW n e = w1 at h1 g1 o1 t1 u1 r1
    generalize tickW n = w2 at h2 g2 o2 t2 u2 r2
    generalize takeW n p = w3 at h3 g3 o3 t3 u3 r3
    obtain ⟨m1, v1, x1⟩ := w1
    obtain ⟨m2, v2, x2⟩ := w2
    obtain ⟨m3, v3, x3⟩ := w3
    have c1 := c_up2S (n.a.st == 9) m1 ts1 l1 t1 σ
    have c2 := c_up2S (n.a.st == 9) m2 ts2 l2 t2 σ
    have c3 := c_up2S (n.a.st == 9) m3 ts3 l3 t3 σ
    rw [u1] at c1
    rw [u2] at c2
    rw [u3] at c3
    obtain ⟨_, _, e1, _⟩ := o1
    obtain ⟨_, _, e2, _⟩ := o2
    obtain ⟨_, _, e3, _⟩ := o3
    obtain ⟨_, _, f1, _⟩ := t1
    obtain ⟨_, _, f2, _⟩ := t2
    obtain ⟨_, _, f3, _⟩ := t3
    simp only at e1 e2 e3 f1 f2 f3
    subst e1 e2 e3 f1 f2 f3
    simp only [rsV, ngv, ngC, pkv, pkC, hp] at h1 h2 h3 r1 r2 r3 c1 c2 c3
    simp -implicitDefEqProofs only [go_sem, hd]
    refine vgo_call rfl rfl rfl rfl h1 ?_
    simp -implicitDefEqProofs only [go_sem]
    refine vgo_call rfl rfl rfl rfl h2 ?_
    simp -implicitDefEqProofs only [go_sem]
    refine vgo_call rfl rfl rfl rfl h3 ?_
    simp -implicitDefEqProofs only [go_sem]
    refine vgo_call rfl rfl rfl rfl r1 ?_
    simp -implicitDefEqProofs only [go_sem]
    refine vgo_call rfl rfl rfl rfl r2 ?_
    simp -implicitDefEqProofs only [go_sem]
    refine vgo_call rfl rfl rfl rfl r3 ?_
    simp -implicitDefEqProofs only [go_sem]
    refine vgo_call rfl rfl rfl rfl c1 ?_
    simp -implicitDefEqProofs only [go_sem]
    refine vgo_call rfl rfl rfl rfl c2 ?_
    simp -implicitDefEqProofs only [go_sem]
    refine vgo_call rfl rfl rfl rfl c3 ?_
    simp -implicitDefEqProofs only [go_sem]
  · simp -implicitDefEqProofs only [go_sem, hd]

end Go.VL
