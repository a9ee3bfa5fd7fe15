/- Contracts of this program's functions over values, joined texts. Conditions: none. -/
import Derived.Test.YtonjofnphkghcaaGreatDoorSSo
set_option linter.unusedVariables false
set_option linter.unusedSimpArgs false
/- LinkPasses' law. Conditions: none. -/
namespace Go.VL
open Go.Proofs

/-! More of a link's cells. -/
section
variable (k : LinkV) (m : MeterV)
end

/-! Plain: a packet of IP passes. -/
theorem peerF_of {n : NgV} (hs : smallN n = true) (hz : n.ps = 2) : PeerF n := ⟨.inl hz, (cmp_small hs).p.1, (cmp_small hs).p.2⟩
end Go.VL

/- LinkSilent's law. Conditions: none. -/
namespace Go.VL
open Go.Proofs

/-! Plain: what a frame does, phase by phase. -/
def knownF (f : FrV) : Prop := f.proto = 49185 ∨ f.proto = 49699 ∨ f.proto = 32801 ∨ f.proto = 33
inductive SilR (k : LinkV) (f : FrV) : LinkV → WkV → Prop
  | calm (W : WkV) (hs : W.sent = []) (hw : W.want = []) (hi : W.ip.es = []) (h : knownF f ∨ k.l.a.st ≠ 9) : SilR k f k W
  | chap (W : WkV) (h : f.proto = 49699) (hp : k.phase = 2) (hs : W.sent = []) (hw : W.want = [2]) : SilR k f k W
  | net (m : LinkV) (W : WkV) (h : f.proto = 32801 ∨ f.proto = 33) (hp : k.phase = 3) : SilR k f m W
  | lcp (m : LinkV) (W : WkV) (h : f.proto = 49185) (hi : W.ip.es = []) : SilR k f m W
  | rej (W : WkV) (h : ¬ knownF f) (h9 : k.l.a.st = 9) (hs : W.sent = [frmOf 49185 (refuseP f k.l.a.id)]) : SilR k f k W
theorem c_rproto (p : UInt16) (σ : St) : VCalls Tryz.prog 40 [.int .u16 p.toNat] σ fun r σ' => (∃ b, r = .bool b) ∧ σ' = σ := by
  refine vcalls_intro (C := cfg Tryz.prog [] [] []) (cfg_ok mixed) Tryz.func40 rfl rfl rfl rfl rfl ?_
  simp (maxSteps := 1000000) -implicitDefEqProofs only [go_sem]
  cases q1 : ((p.toNat : Int).tmod 2 == 1)
  · simp (maxSteps := 1000000) -implicitDefEqProofs only [go_sem, bne]
    exact ⟨_, rfl⟩
  · simp (maxSteps := 1000000) -implicitDefEqProofs only [go_sem, bne]
    cases q2 : ((IntKind.u16.wrap ((p.toNat : Int).tdiv 256)).tmod 2 == 0)
    · simp (maxSteps := 1000000) -implicitDefEqProofs only [go_sem, bne, q2]
      exact ⟨_, rfl⟩
    · simp (maxSteps := 1000000) -implicitDefEqProofs only [go_sem, bne, q2]
      exact ⟨_, rfl⟩

end Go.VL

/- Ticks, and what they keep, in plain Lean. Conditions: none. -/
namespace Go.VL
open Go.Proofs

theorem out99 (s : Int) : nextP s 99 = ([], s, false) := by
  unfold nextP
  rw [show decide ((99 : Int) ≤ 15) = false from rfl, Bool.and_false]
  rfl
theorem do_st (a : AuV) (e : Int) : (doA a e).1.st = (nextP a.st e).2.1 := by
  unfold doA
  cases hd : (nextP a.st e).2.2
  · rw [next_not hd]
    rfl
  · rfl
/-- A protocol's tick is an event. -/
theorem tick_ev (n : NgV) : ∃ n0 e, n0.a.st = n.a.st ∧ (tickW n).1.a.st = (evN n0 e).a.st ∧ toldOf (tickA n.a).2 = evT n0 e := by
  have ha : (tickW n).1.a = (tickA n.a).1 := act_a _ _ _ _
  rw [ha]
  have h99 : (evN n 99).a.st = n.a.st ∧ evT n 99 = [] := by
    refine ⟨by rw [ev_st, out99], ?_⟩
    rw [ev_told]
    unfold toldP
    rw [out99]
    rfl
  unfold tickA
  cases n.a.left == 0
  · cases decide (0 < n.a.left - 1)
    · refine ⟨withA n { n.a with left := n.a.left - 1 }, bif decide (0 < n.a.cnt) then 4 else 5, rfl, ?_, ?_⟩
      · show (doA _ _).1.st = _
        rw [do_st, ev_st]
        rfl
      · show toldOf (doA { n.a with left := n.a.left - 1 } _).2.1 = _
        generalize (bif decide (0 < n.a.cnt) then (4 : Int) else 5) = e
        unfold evT
        cases hd : doneB (withA n { n.a with left := n.a.left - 1 }) e
        · have := do_not hd
          show toldOf (doA (withA n { n.a with left := n.a.left - 1 }).a e).2.1 = _
          rw [this]
          rfl
        · rfl
    · exact ⟨n, 99, rfl, by rw [h99.1]; rfl, by rw [h99.2]; rfl⟩
  · exact ⟨n, 99, rfl, by rw [h99.1]; rfl, by rw [h99.2]; rfl⟩
theorem tick_peer {n : NgV} (h : PeerF n) : PeerF (tickW n).1 := by
  show PeerF (actN (withA n (tickA n.a).1) n.a.st (tickA n.a).2)
  unfold actN
  cases resetB n.a.st (tickA n.a).2
  · exact h.same rfl rfl rfl
  · exact .nil rfl rfl
theorem tick_r (n : NgV) : (tickW n).1.r = n.r := by
  show (actN (withA n (tickA n.a).1) n.a.st (tickA n.a).2).r = n.r
  unfold actN
  cases resetB n.a.st (tickA n.a).2 <;> rfl
theorem tickA_len (a : AuV) : (tickA a).2.length ≤ 10 := by
  unfold tickA
  cases a.left == 0
  · cases decide (0 < a.left - 1)
    · exact do_len _ _
    · exact Nat.zero_le _
  · exact Nat.zero_le _
theorem tick_res {n : NgV} (h : Good n) (hf : PeerF n) : ∃ m os ts a s b t, rsV (tickW n) = .tup [.agg (ngC m), .sl a false s (pkvs os), .sl b false t (zv64 ts)] ∧ IsSl (.sl a false s (pkvs os)) 3 (pkvs os) ∧ IsSl (.sl b false t (zv64 ts)) 1 (zv64 ts) ∧ (∃ n0 e, n0.a.st = n.a.st ∧ m.a.st = (evN n0 e).a.st ∧ ts = evT n0 e) ∧ SentR n m os ts := by
  have hg := (tick_good h).1
  refine ⟨(tickW n).1, outsOf (tickW n).1 0 zPk (tickA n.a).2, toldOf (tickA n.a).2, _, _, _, _, rfl, out_sl _, tel_sl _, ?_, hg, tick_peer hf, tick_r n, ?_, ?_, ?_⟩
  · obtain ⟨n0, e, h1, h2, h3⟩ := tick_ev n
    exact ⟨n0, e, h1, h2, h3⟩
  · have h1 := outsOf_len (tickW n).1 0 zPk (tickA n.a).2 _ (Nat.le_refl _)
    rw [List.take_length] at h1
    exact Nat.le_trans h1 (tickA_len _)
  · exact Nat.le_trans (told_len _) (tickA_len _)
  · intro p hp
    unfold outsOf at hp
    obtain ⟨x, _, hx⟩ := List.mem_flatMap.1 hp
    exact outOf_ok hg.e 0 zero_S x p hx
theorem KeepW.tick {k : LinkV} {W : WkV} {c : Nat} (h : KeepW k W c) {m : NgV} {os : List PkV} {ts : List Int} (hx : ∃ n0 e, n0.a.st = W.k.l.a.st ∧ m.a.st = (evN n0 e).a.st ∧ ts = evT n0 e) (hs : SentR W.k.l m os ts) : KeepW k (lcpW W m os ts) (c + 10) := by
  obtain ⟨n0, e, h1, h2, rfl⟩ := hx
  exact h.lcp n0 m e os h1 h2 hs.g hs.f (hs.r ▸ h.lip) hs.ol

/-! CHAP. -/
def b16B (x : B16) : List UInt8 := [x.b0, x.b1, x.b2, x.b3, x.b4, x.b5, x.b6, x.b7, x.b8, x.b9, x.b10, x.b11, x.b12, x.b13, x.b14, x.b15]
def ownB : List UInt8 := [112, 111, 114, 116, 114, 101, 101, 118, 101]
def chalP (id : UInt8) (v : B16) : PkV := ⟨1, id, false, false, 1, 16 :: (b16B v ++ ownB)⟩
def askA (a : AuthV) (v : B16) : AuthV := { a with id := a.id + 1, tries := a.tries + 1, st := 1, left := 4, val := v }
def ctickA (a : AuthV) (v : B16) : AuthV × List PkV := bif a.st == 1 then (bif decide (0 < a.left - 1) then ({ a with left := a.left - 1 }, []) else bif decide (4 ≤ a.tries) then ({ a with left := a.left - 1, st := 3 }, []) else (askA { a with left := a.left - 1 } v, [chalP (a.id + 1) v])) else (a, [])
theorem ctick_auth {a : AuthV} (h : authB a = true) (v : B16) : authB (ctickA a v).1 = true := by
  unfold ctickA
  cases q1 : a.st == 1
  · exact h
  · unfold authB at h
    rw [q1] at h
    simp only [cond_true, Bool.and_eq_true, decide_eq_true_eq] at h
    obtain ⟨⟨t0, t4⟩, ⟨l1, l4⟩, t1⟩ := h
    cases q2 : decide (0 < a.left - 1)
    · simp only [decide_eq_false_iff_not] at q2
      cases q3 : decide (4 ≤ a.tries)
      · simp only [decide_eq_false_iff_not] at q3
        show (decide (0 ≤ a.tries + 1) && decide (a.tries + 1 ≤ 4) && (decide ((1 : Int) ≤ 4) && decide ((4 : Int) ≤ 4) && decide (1 ≤ a.tries + 1))) = true
        simp only [Bool.and_eq_true, decide_eq_true_eq]
        refine ⟨⟨?_, ?_⟩, ⟨?_, ?_⟩, ?_⟩ <;> omega
      · show (decide (0 ≤ a.tries) && decide (a.tries ≤ 4) && (true && (a.left - 1 == 0))) = true
        simp only [Bool.and_eq_true, decide_eq_true_eq, beq_iff_eq]
        exact ⟨⟨t0, t4⟩, trivial, by omega⟩
    · simp only [decide_eq_true_eq] at q2
      unfold authB
      simp only [cond_true, q1, Bool.and_eq_true, decide_eq_true_eq]
      omega
theorem ctick_len (a : AuthV) (v : B16) : (ctickA a v).2.length ≤ 1 := by
  unfold ctickA
  cases a.st == 1
  · exact Nat.zero_le _
  · cases decide (0 < a.left - 1)
    · cases decide (4 ≤ a.tries)
      · exact Nat.le_refl _
      · exact Nat.zero_le _
    · exact Nat.zero_le _
theorem ctick_ok (a : AuthV) (v : B16) : ∀ p ∈ (ctickA a v).2, PkS p := by
  unfold ctickA
  cases a.st == 1
  · intro p hp; cases hp
  · cases decide (0 < a.left - 1)
    · cases decide (4 ≤ a.tries)
      · intro p hp
        rw [List.mem_singleton.1 hp]
        exact ⟨.inl rfl, by show 26 ≤ 1496; omega⟩
      · intro p hp; cases hp
    · intro p hp; cases hp
def chapW1 (W : WkV) (a : AuthV) (os : List PkV) : WkV := sendW { W with k := { W.k with a := a } } 49699 os
def lateB (a b : AuthV) : Bool := (b.st == 3) && !(a.st == 3)
def chapW (W : WkV) (v : B16) : WkV := bif lateB W.k.a (ctickA W.k.a v).1 then closeW (chapW1 W (ctickA W.k.a v).1 (ctickA W.k.a v).2) else chapW1 W (ctickA W.k.a v).1 (ctickA W.k.a v).2
theorem phase2 {k : LinkV} (h : phaseP k = 2) : k.sess < 0 := by
  rcases Int.lt_or_le k.sess 0 with hs | hs
  · exact hs
  · unfold phaseP at h
    have e : decide (0 ≤ k.sess) = true := by simpa using hs
    rw [e] at h
    cases h9 : k.l.a.st == 9
    · rw [h9] at h
      simp only [Bool.false_and, cond_false] at h
      cases h6 : decide (6 ≤ k.l.a.st)
      · rw [h6] at h
        simp only [cond_false] at h
        cases h4 : decide (4 ≤ k.l.a.st) <;> rw [h4] at h <;> cases h
      · rw [h6] at h; cases h
    · rw [h9] at h; cases h
theorem KeepW.auth {k : LinkV} {W : WkV} {c : Nat} (h : KeepW k W c) (h2 : phaseP W.k = 2) (a : AuthV) (ha : authB a = true) (os : List PkV) (hol : os.length ≤ 10) : KeepW k (chapW1 W a os) (c + 10) := by
  have hs := phase2 h2
  refine ⟨h.l, h.n, h.fl, h.fn, h.lip, h.nip, h.low, h.line, ha, h.me, fun hs' => ?_, ?_, h.want, h.stop, h.ip, ?_, ?_⟩
  · have hs'' : 0 ≤ W.k.sess := hs'
    omega
  · intro x hx hp
    have hx' : x ∈ W.sent ++ os.map (frmOf 49699) := hx
    rcases List.mem_append.1 hx' with hx | hx
    · exact h.sent x hx hp
    · obtain ⟨p, _, rfl⟩ := List.mem_map.1 hx
      rcases hp with hp | hp
      · exact absurd (show (49699 : UInt16) = 32801 from hp) (by decide)
      · exact absurd (show (49699 : UInt16) = 33 from hp) (by decide)
  · show (W.sent ++ os.map (frmOf 49699)).length ≤ c + 10
    rw [List.length_append, List.length_map]
    have := h.sl
    omega
  · have := h.wl
    show W.want.length ≤ c + 10
    omega
theorem KeepW.chap {k : LinkV} {W : WkV} {c : Nat} (h : KeepW k W c) (h2 : phaseP W.k = 2) (v : B16) : KeepW k (chapW W v) (c + 20) := by
  have h1 := h.auth h2 (ctickA W.k.a v).1 (ctick_auth h.au v) (ctickA W.k.a v).2 (Nat.le_trans (ctick_len _ _) (by omega))
  unfold chapW
  cases lateB W.k.a (ctickA W.k.a v).1
  · exact h1.up _ (by omega)
  · exact h1.close

/-! Octets. -/
def mtickM (m : MeterV) : MeterV × Bool := bif m.left == 0 then (m, false) else bif decide (0 < m.left - 1) then ({ m with left := m.left - 1 }, false) else ({ m with left := 6 }, true)
def noteW (W : WkV) : WkV := bif (mtickM W.k.m).2 then wantW { W with k := { W.k with m := (mtickM W.k.m).1 } } 4 else { W with k := { W.k with m := (mtickM W.k.m).1 } }
theorem mtick_is {m : MeterV} (h : meterB m = true) : meterB (mtickM m).1 = true ∧ (mtickM m).1.inn = m.inn ∧ (mtickM m).1.out = m.out := by
  unfold mtickM
  cases q1 : m.left == 0
  · cases q2 : decide (0 < m.left - 1)
    · exact ⟨rfl, rfl, rfl⟩
    · refine ⟨?_, rfl, rfl⟩
      unfold meterB at h ⊢
      simp only [decide_eq_true_eq, Bool.and_eq_true] at h q2
      simp only [cond_true, cond_false, decide_eq_true_eq, Bool.and_eq_true]
      omega
  · exact ⟨h, rfl, rfl⟩
theorem KeepW.note {k : LinkV} {W : WkV} {c : Nat} (h : KeepW k W c) : KeepW k (noteW W) (c + 10) := by
  obtain ⟨h1, h2, h3⟩ := mtick_is h.me
  have key : ∀ x : WkV, x.k = { W.k with m := (mtickM W.k.m).1 } → x.sent = W.sent → ((3 : Int) ∈ x.want ↔ (3 : Int) ∈ W.want) → x.stop = W.stop → x.ip = W.ip → x.want.length ≤ c + 10 → KeepW k x (c + 10) := by
    intro x e1 e2 e3 e4 e5 e6
    refine ⟨by rw [e1]; exact h.l, by rw [e1]; exact h.n, by rw [e1]; exact h.fl, by rw [e1]; exact h.fn, by rw [e1]; exact h.lip, by rw [e1]; exact h.nip, by rw [e1]; exact h.low, by rw [e1]; exact h.line, by rw [e1]; exact h.au, by rw [e1]; exact h1, ?_, by rw [e2]; exact h.sent, ?_, ?_, by rw [e5]; exact h.ip, by rw [e2]; have := h.sl; omega, e6⟩
    · rw [e1]
      intro hs
      obtain ⟨l1, l2, l3, l4, l5, l6⟩ := h.live hs
      exact ⟨l1, l2, l3, l4, by rw [h2]; exact l5, by rw [h3]; exact l6⟩
    · rw [e3, e1]
      exact h.want
    · rw [e1, e4]
      exact h.stop
  have hw := h.wl
  unfold noteW
  cases (mtickM W.k.m).2
  · exact key _ rfl rfl Iff.rfl rfl rfl (by show W.want.length ≤ c + 10; omega)
  · refine key _ rfl rfl ?_ rfl rfl ?_
    · show (3 : Int) ∈ W.want ++ [4] ↔ _
      simp
    · show (W.want ++ [4]).length ≤ c + 10
      simp
      omega

/-! Who is let in, or not; what is sent. -/
theorem end_auth {a : AuthV} (h : authB a = true) (who : ByteArray) (proof : B16) (good : Bool) : authB (endA a who proof good) = true := by
  unfold authB at h
  simp only [Bool.and_eq_true, decide_eq_true_eq] at h
  unfold endA
  cases good
  · show (decide (0 ≤ a.tries) && decide (a.tries ≤ 4) && true) = true
    simp only [Bool.and_true, Bool.and_eq_true, decide_eq_true_eq]
    exact h.1
  · show (decide (0 ≤ a.tries) && decide (a.tries ≤ 4) && true) = true
    simp only [Bool.and_true, Bool.and_eq_true, decide_eq_true_eq]
    exact h.1
theorem asked2 {k : LinkV} (h : askedB k = true) : phaseP k = 2 := by
  unfold askedB at h
  simp only [Bool.and_eq_true, beq_iff_eq] at h
  exact h.1
theorem keep_told {k : LinkV} (h : KeepW k (beginW k) 0) (who : ByteArray) (proof : B16) (good : Bool) : KeepW k (toldW1 k who proof good) 20 := by
  unfold toldW1
  cases ha : askedB k
  · exact h.up _ (by omega)
  · exact (h.auth (asked2 ha) (endA k.a who proof good) (end_auth h.au _ _ _) [endP k.a good] (by show 1 ≤ 10; omega)).close
def sayF (nl c : Bool) (b : List UInt8) : FrV := ⟨33, nl, c, 1, b⟩
def sayW1 (k : LinkV) (f : FrV) : WkV := { beginW k with k := { k with m := countM k.m 0 f.d.length }, sent := [f] }
def sayW (k : LinkV) (f : FrV) : WkV := bif openB k && decide (f.d.length ≤ 1500) then sayW1 k f else beginW k
theorem keep_say {k : LinkV} (h : KeepW k (beginW k) 0) (b : FrV) : KeepW k (sayW k b) 20 := by
  unfold sayW
  cases hq : openB k && decide (b.d.length ≤ 1500)
  · exact h.up _ (by omega)
  · have h3 : phaseP k = 3 := by
      unfold openB at hq
      simp only [Bool.and_eq_true, beq_iff_eq] at hq
      exact hq.1.1
    refine ⟨h.l, h.n, h.fl, h.fn, h.lip, h.nip, h.low, h.line, h.au, h.me, fun hs => ?_, fun _ _ _ => h3, h.want, h.stop, h.ip, by show 1 ≤ 20; omega, Nat.zero_le _⟩
    obtain ⟨l1, l2, l3, l4, l5, l6⟩ := h.live hs
    refine ⟨l1, l2, l3, l4, ?_, ?_⟩
    · show _ ≤ (sumU _ _).toNat
      rw [sumU_nat]
      have := k.m.inn.toNat_lt
      omega
    · show _ ≤ (sumU _ _).toNat
      rw [sumU_nat]
      have := k.m.out.toNat_lt
      omega

/-! Calm. -/
structure CalmF (k m : LinkV) (W : WkV) : Prop where
  good : GoodK m
  line : m.line = k.line
  sent : ∀ x ∈ W.sent, x.proto = 32801 ∨ x.proto = 33 → phaseP k = 3 ∨ phaseP m = 3
  want : (3 : Int) ∈ W.want ↔ phaseP k = 3 ∧ m.phase ≠ 3
  stop : phaseP k = 3 → m.phase ≠ 3 → W.stop.kind = 3 ∧ W.stop.id = k.sess ∧ k.m.inn.toNat ≤ W.stop.inn.toNat ∧ k.m.out.toNat ≤ W.stop.out.toNat
  ip : W.ip.es = [] ∨ phaseP k = 3 ∨ phaseP m = 3
  sl : W.sent.length ≤ 200
  wl : W.want.length ≤ 200
theorem KeepW.calm {k : LinkV} {W : WkV} {c : Nat} (h : KeepW k W c) (hg : GoodK k) (hc : c ≤ 200) : CalmF k (doneK W) W := by
  have hp : (doneK W).phase ≠ 3 ↔ W.k.sess < 0 := by
    show phaseP W.k ≠ 3 ↔ _
    constructor
    · intro hp
      rcases Int.lt_or_le W.k.sess 0 with hs | hs
      · exact hs
      · exact absurd ((phase3 W.k).2 ⟨(h.live hs).1, hs⟩) hp
    · intro hs hp
      have := ((phase3 W.k).1 hp).2
      omega
  refine ⟨h.good hg, h.line, fun x hx hp => .inl (h.sent x hx hp), ?_, fun h3 hn => h.stop h3 (hp.1 hn), ?_, Nat.le_trans h.sl hc, Nat.le_trans h.wl hc⟩
  · rw [h.want, hp]
  · rcases h.ip with e | e
    · exact .inl e
    · exact .inr (.inl e)
theorem calm_welcome {k : LinkV} (hg : GoodK k) (h : KeepW k (beginW k) 0) (who : ByteArray) (proof : B16) {id : Int} (hi : 0 ≤ id) (addr : UInt32) : CalmF k (doneK (welcomeW k who proof id addr)) (welcomeW k who proof id addr) := by
  cases ha : askedB k
  · have : welcomeW k who proof id addr = beginW k := by unfold welcomeW; rw [ha]; rfl
    rw [this]
    exact h.calm hg (by omega)
  · rw [welcome_is ha]
    obtain ⟨p1, p2, p3, p4, p5⟩ := in_asked ha who proof hi addr
    have hk2 := asked2 ha
    have hn3 : ¬ (phaseP k = 3) := by rw [hk2]; decide
    have hm3 : phaseP (doneK (inW k who proof id addr)) = 3 := p1
    have hw : (inW k who proof id addr).want = [] := rfl
    refine ⟨⟨hg.l, up_good _, hg.lip, rfl, ?_, rfl, .inr ⟨p1, rfl⟩, hg.line, end_auth hg.au _ _ _, rfl⟩, rfl, fun _ _ _ => .inr hm3, ?_, fun h3 _ => absurd h3 hn3, .inl rfl, by rw [p5]; omega, by rw [hw]; exact Nat.zero_le _⟩
    · rw [p2]
      omega
    · rw [hw]
      exact ⟨fun x => (by cases x), fun x => absurd x.1 hn3⟩

end Go.VL

/- Contracts of this program's functions: what is said, and ticks. Conditions: none. -/
namespace Go.VL
open Go.Proofs

set_option maxRecDepth 20000 in
theorem c_mtick (m : MeterV) (h : meterB m = true) (σ : St) : VCalls Tryz.prog 109 [mev m] σ fun r σ' => r = .tup [mev (mtickM m).1, .bool (mtickM m).2] ∧ σ' = σ := by
  refine vcalls_intro (C := cfg Tryz.prog [] [1] []) (cfg_ok mixed) Tryz.func109 rfl rfl rfl rfl rfl ?_
  have hb : 0 ≤ m.left ∧ m.left ≤ 6 := by
    unfold meterB at h
    simpa using h
  have hw : IntKind.i64.wrap (m.left - 1) = m.left - 1 := by rw [IntKind.wrap_i64]; omega
  unfold mtickM
  simp (maxSteps := 1000000) -implicitDefEqProofs only [go_sem, mev, meC]
  cases q1 : m.left == 0
  · simp (maxSteps := 1000000) -implicitDefEqProofs only [go_sem, q1, hw]
    cases q2 : decide (0 < m.left - 1)
    · simp (maxSteps := 1000000) -implicitDefEqProofs only [go_sem, q2, mev, meC]
    · simp (maxSteps := 1000000) -implicitDefEqProofs only [go_sem, q2, mev, meC]
  · simp (maxSteps := 1000000) -implicitDefEqProofs only [go_sem, q1]

set_option maxHeartbeats 2000000 in
set_option maxRecDepth 20000 in
theorem c_cask (a : AuthV) (v : B16) (ht : 0 ≤ a.tries ∧ a.tries ≤ 100) (σ : St) : VCalls Tryz.prog 158 [auhv a, .agg (b16C v)] σ fun r σ' => r = .tup [auhv (askA a v), pkv (chalP (a.id + 1) v)] ∧ σ' = σ := by
  refine vcalls_intro (C := cfg Tryz.prog [] [2] []) (cfg_ok mixed) Tryz.func158 rfl rfl rfl rfl rfl ?_
  have hw : IntKind.i64.wrap (a.tries + 1) = a.tries + 1 := by rw [IntKind.wrap_i64]; omega
  have hi : IntKind.u8.wrap ((a.id.toNat : Int) + 1) = (((a.id + 1 : UInt8).toNat : Nat) : Int) := by
    have := a.id.toNat_lt
    rw [UInt8.toNat_add]
    unfold IntKind.wrap
    simp [IntKind.bits, IntKind.signed]
  have hcc := fun x y z w σ => c_concat false x [(false, y, [16]), (false, z, b16B v), (false, w, ownB)] (by simp) (by simp [catB]) (by simp [catB, b16B, ownB]) σ
  have hcat : ∀ y z w, catB [(false, y, [16]), (false, z, b16B v), (false, w, ownB)] = 16 :: (b16B v ++ ownB) := fun y z w => by simp [catB]
  simp only [hcat] at hcc
  simp (maxSteps := 1000000) -implicitDefEqProofs only [go_sem, auhv, auhC, b16C, hw, hi]
  refine w_walk2 [2, 4, 6] [0, 1, 2, 3, 4, 5, 6] [14, 15, 16, 17] [0, 0, 2, 6, 14, 31, 63] rfl rfl rfl rfl ?_
  simp (maxSteps := 1000000) -implicitDefEqProofs only [go_sem]
  refine w_walk2 [5, 6, 10, 11] [0, 1, 2, 3, 4, 5, 6, 7, 8, 9, 10, 11] [18, 19, 20, 21, 22, 25, 26, 27] [0, 0, 2, 0, 0, 0, 32, 120, 248, 510, 505, 2047] rfl rfl rfl rfl ?_
  simp (maxSteps := 1000000) -implicitDefEqProofs only [go_sem]
  refine vdgo_call rfl rfl rfl rfl (hcc true true true false _) ?_
  simp (maxSteps := 1000000) -implicitDefEqProofs only [go_sem]
  rfl

set_option maxHeartbeats 8000000 in
set_option maxRecDepth 20000 in
theorem c_lsay (k : LinkV) (nl c : Bool) (b : List UInt8) (hb : b.length ≤ 1000000) (σ : St) : VCalls Tryz.prog 17 [lkv k, .sl nl c 1 (bv b)] σ fun r σ' => r = .tup [lkv (doneK (sayW k (sayF nl c b))), outW (sayW k (sayF nl c b))] ∧ σ' = σ := by
  refine vcalls_intro (C := cfg Tryz.prog [] [] []) (cfg_ok mixed) Tryz.func17 rfl rfl rfl rfl rfl ?_
  have hm := fun σ => c_mcount k.m 0 b.length (by omega) hb σ
  unfold mev meC at hm
  simp (maxSteps := 1000000) -implicitDefEqProofs only [go_sem, lkv, lkC]
  refine vgo_call' rfl rfl rfl (c_begun k σ) ?_
  rintro r σ' ⟨rfl, rfl⟩
  refine ⟨rfl, ?_⟩
  simp (maxSteps := 1000000) -implicitDefEqProofs only [go_sem]
  refine vgo_call' rfl rfl rfl (c_lopened (beginW k) σ) ?_
  rintro r σ' ⟨rfl, rfl⟩
  refine ⟨rfl, ?_⟩
  have ho : openB (beginW k).k = openB k := rfl
  rw [ho]
  cases q1 : openB k
  · have hS : sayW k (sayF nl c b) = beginW k := by unfold sayW; rw [q1]; rfl
    rw [hS]
    generalize beginW k = W
    simp (maxSteps := 1000000) -implicitDefEqProofs only [go_sem]
    refine vgo_call' rfl rfl rfl (c_ldone W σ) ?_
    rintro r σ' ⟨rfl, rfl⟩
    refine ⟨rfl, ?_⟩
    simp (maxSteps := 1000000) -implicitDefEqProofs only [go_sem, lkC, outC, wS, wF, wT]
    rw [frs_take, zv_take]
    rfl
  · cases q2 : decide ((b.length : Int) ≤ 1500)
    · have hS : sayW k (sayF nl c b) = beginW k := by
        unfold sayW
        have q2' : decide ((sayF nl c b).d.length ≤ 1500) = false := by simp only [decide_eq_false_iff_not] at q2 ⊢; show ¬ (b.length ≤ 1500); omega
        rw [q2', Bool.and_false]
        rfl
      rw [hS]
      generalize beginW k = W
      simp (maxSteps := 1000000) -implicitDefEqProofs only [go_sem, bv_length, q2]
      refine vgo_call' rfl rfl rfl (c_ldone W σ) ?_
      rintro r σ' ⟨rfl, rfl⟩
      refine ⟨rfl, ?_⟩
      simp (maxSteps := 1000000) -implicitDefEqProofs only [go_sem, lkC, outC, wS, wF, wT]
      rw [frs_take, zv_take]
      rfl
    · have hS : sayW k (sayF nl c b) = sayW1 k (sayF nl c b) := by
        unfold sayW
        have q2' : decide ((sayF nl c b).d.length ≤ 1500) = true := by simp only [decide_eq_true_eq] at q2 ⊢; show b.length ≤ 1500; omega
        rw [q1, q2']
        rfl
      rw [hS]
      simp (maxSteps := 1000000) -implicitDefEqProofs only [go_sem, bv_length, q2, wS, wB, wF, wT, wkC, beginW]
      refine ⟨rfl, by show 0 + 1 ≤ lim; unfold lim; omega, ?_⟩
      refine vgo_call rfl rfl rfl rfl (hm _) ?_
      simp (maxSteps := 1000000) -implicitDefEqProofs only [go_sem]
      refine vgo_call' rfl rfl rfl (c_ldone (sayW1 k (sayF nl c b)) σ) ?_
      rintro r σ' ⟨rfl, rfl⟩
      refine ⟨rfl, ?_⟩
      generalize sayW1 k (sayF nl c b) = W
      simp (maxSteps := 1000000) -implicitDefEqProofs only [go_sem, lkC, outC, wS, wF, wT]
      rw [frs_take, zv_take]
      rfl

/-- What a tick of CHAP sends, as a row. -/
def ctV (os : List PkV) : V := bif os.isEmpty then .sl true false 0 [] else .sl false true 3 (pkvs os)
set_option maxHeartbeats 2000000 in
set_option maxRecDepth 20000 in
theorem c_ctick (a : AuthV) (v : B16) (h : authB a = true) (σ : St) : VCalls Tryz.prog 108 [auhv a, .agg (b16C v)] σ fun r σ' => r = .tup [auhv (ctickA a v).1, ctV (ctickA a v).2] ∧ σ' = σ := by
  refine vcalls_intro (C := cfg Tryz.prog [] [2] []) (cfg_ok mixed) Tryz.func108 rfl rfl rfl rfl rfl ?_
  have hb : 0 ≤ a.tries ∧ a.tries ≤ 4 := by
    unfold authB at h
    simp only [Bool.and_eq_true, decide_eq_true_eq] at h
    exact h.1
  have hl : (a.st == 1) = true → 1 ≤ a.left ∧ a.left ≤ 4 := fun q => by
    unfold authB at h
    rw [q] at h
    simp only [cond_true, Bool.and_eq_true, decide_eq_true_eq] at h
    exact h.2.1
  have hak := fun σ => c_cask { a with left := a.left - 1 } v ⟨hb.1, by show a.tries ≤ 100; omega⟩ σ
  have hw : (a.st == 1) = true → IntKind.i64.wrap (a.left - 1) = a.left - 1 := fun q => by
    have := hl q
    rw [IntKind.wrap_i64]
    omega
  obtain ⟨A', hA⟩ : ∃ A', A' = askA { a with left := a.left - 1 } v := ⟨_, rfl⟩
  obtain ⟨P', hP⟩ : ∃ P', P' = chalP (a.id + 1) v := ⟨_, rfl⟩
  have hid : ({ a with left := a.left - 1 } : AuthV).id = a.id := rfl
  unfold ctickA
  rw [hid] at hak
  rw [← hA, ← hP] at hak ⊢
  clear hA hP
  unfold auhv auhC pkv pkC at hak
  simp only [] at hak
  simp (maxSteps := 1000000) -implicitDefEqProofs only [go_sem, auhv, auhC, b16C]
  cases q1 : a.st == 1
  · simp (maxSteps := 1000000) -implicitDefEqProofs only [go_sem, bne, q1]
    rfl
  · have hw1 := hw q1
    simp (maxSteps := 1000000) -implicitDefEqProofs only [go_sem, bne, q1, hw1]
    cases q2 : decide (0 < a.left - 1)
    · simp (maxSteps := 1000000) -implicitDefEqProofs only [go_sem, q2]
      cases q3 : decide (4 ≤ a.tries)
      · simp (maxSteps := 1000000) -implicitDefEqProofs only [go_sem, q3]
        unfold b16C at hak
        refine vgo_call rfl rfl rfl rfl (hak _) ?_
        simp (maxSteps := 1000000) -implicitDefEqProofs only [go_sem]
        refine w_walk2 [3, 4] [0, 1, 2, 3, 4] [33, 34, 35] [0, 0, 2, 1, 15] rfl rfl rfl rfl ?_
        simp (maxSteps := 1000000) -implicitDefEqProofs only [go_sem]
        rfl
      · simp (maxSteps := 1000000) -implicitDefEqProofs only [go_sem, q3]
        rfl
    · simp (maxSteps := 1000000) -implicitDefEqProofs only [go_sem, q2]
      rfl

theorem ctV_sl (os : List PkV) : ∃ nl c s, ctV os = .sl nl c s (pkvs os) ∧ (s = 3 ∨ (nl = true ∧ os = [])) := by
  cases os with
  | nil => exact ⟨true, false, 0, rfl, .inr ⟨rfl, rfl⟩⟩
  | cons p os => exact ⟨false, true, 3, rfl, .inl rfl⟩
theorem c_lsendS (W : WkV) (proto : UInt16) (os : List PkV) (hs : W.sent.length ≤ 100000) (ho : os.length ≤ 100000) (hz : ∀ p ∈ os, PkOK p) (hd : ∀ p ∈ os, p.d.length ≤ 1496) (nl c : Bool) (s : Nat) (hc : s = 3 ∨ (nl = true ∧ os = [])) (σ : St) :
    VCalls Tryz.prog 92 [.ptr σ.length 0, .int .u16 proto.toNat, .sl nl c s (pkvs os)] (wS σ W) fun r σ' => r = .tup [] ∧ σ' = wS σ (sendW W proto os) := by
  rcases hc with rfl | ⟨rfl, rfl⟩
  · exact c_lsend W proto nl c os hs ho hz hd σ
  · exact (c_lsend W proto true c [] hs ho hz hd σ).ne ⟨.refl _, .refl _, .nil _ _ _ _, trivial⟩
theorem lcp_sess (W : WkV) (n0 m : NgV) (e : Int) (os : List PkV) (hs : 0 ≤ n0.a.st ∧ n0.a.st ≤ 9) (h : W.k.sess < 0) : (lcpW W m os (evT n0 e)).k.sess < 0 := by
  rw [lcp_is W n0 m e os hs]
  split
  · show (-1 : Int) < 0
    omega
  · split
    · exact h
    · exact h
theorem chap_sess (W : WkV) (v : B16) (hl : 0 ≤ W.k.l.a.st ∧ W.k.l.a.st ≤ 9) (h : W.k.sess < 0) : (chapW W v).k.sess < 0 := by
  unfold chapW
  cases lateB W.k.a (ctickA W.k.a v).1
  · exact h
  · exact lcp_sess (chapW1 W _ _) W.k.l _ 3 _ hl h
theorem not3 {k : LinkV} (h : k.sess < 0) : (phaseP k == 3) = false := by
  rw [beq_eq_false_iff_ne]
  intro h3
  have := ((phase3 k).1 h3).2
  omega

set_option maxHeartbeats 16000000 in
set_option maxRecDepth 20000 in
theorem c_ltick (k : LinkV) (v : B16) (hg : GoodK k) (fl : PeerF k.l) (fn : PeerF k.n) (σ : St) : VCalls Tryz.prog 42 [lkv k, .agg (b16C v)] σ fun r σ' => (∃ W', KeepW k W' 100 ∧ r = .tup [lkv (doneK W'), outW W']) ∧ σ' = σ := by
  refine vcalls_intro (C := cfg Tryz.prog [] [] []) (cfg_ok mixed) Tryz.func42 rfl rfl rfl rfl rfl ?_
  simp (maxSteps := 1000000) -implicitDefEqProofs only [go_sem, lkv, lkC, b16C]
  refine vgo_call' rfl rfl rfl (c_begun k σ) ?_
  rintro r σ' ⟨rfl, rfl⟩
  refine ⟨rfl, ?_⟩
  have hK0 : KeepW k (beginW k) 0 := keep_begin hg fl fn []
  generalize beginW k = W0 at hK0 ⊢
  obtain ⟨m, os, ts, a, s, b, t, e1, hu, hv, hx, hs⟩ := tick_res hK0.l hK0.fl
  have htk := fun σ => c_ntick W0.k.l hK0.l.cnt hK0.l.left.2 hK0.l.e σ
  rw [e1] at htk
  have z1 := hK0.sl
  have z2 := hK0.wl
  have hlc := c_llcpS W0 m os ts (by omega) (by omega) (by have := hs.ol; omega) (by have := hs.tl; omega) (fun p hp => (hs.os p hp).1) (fun p hp => (hs.os p hp).2) hu hv σ
  have hK1 := hK0.tick hx hs
  simp only [ngv, ngC] at htk hlc
  simp (maxSteps := 1000000) -implicitDefEqProofs only [go_sem, wS, wB, wkC]
  refine vgo_call rfl rfl rfl rfl (htk _) ?_
  simp (maxSteps := 1000000) -implicitDefEqProofs only [go_sem]
  refine vgo_call' rfl rfl rfl hlc ?_
  rintro r σ' ⟨rfl, rfl⟩
  refine ⟨rfl, ?_⟩
  generalize lcpW W0 m os ts = W1 at hK1 ⊢
  clear htk hlc hu hv hx hs e1 hK0 z1 z2
  have hp1 := fun σ => c_lphase W1.k σ
  unfold lkv lkC at hp1
  simp (maxSteps := 1000000) -implicitDefEqProofs only [go_sem, wS, wB, wkC]
  refine vgo_call rfl rfl rfl rfl (hp1 _) ?_
  simp (maxSteps := 1000000) -implicitDefEqProofs only [go_sem]
  cases q2 : phaseP W1.k == 2
  · -- another phase
    simp (maxSteps := 1000000) -implicitDefEqProofs only [go_sem]
    refine vgo_call rfl rfl rfl rfl (hp1 _) ?_
    simp (maxSteps := 1000000) -implicitDefEqProofs only [go_sem]
    cases q3 : phaseP W1.k == 3
    · simp (maxSteps := 1000000) -implicitDefEqProofs only [go_sem]
      refine vgo_call rfl rfl rfl rfl (hp1 _) ?_
      simp (maxSteps := 1000000) -implicitDefEqProofs only [go_sem, q3]
      refine vgo_call' rfl rfl rfl (c_ldone W1 σ) ?_
      rintro r σ' ⟨rfl, rfl⟩
      refine ⟨rfl, ?_⟩
      simp (maxSteps := 1000000) -implicitDefEqProofs only [go_sem, lkC, outC, wS, wF, wT]
      rw [frs_take, zv_take]
      exact ⟨W1, hK1.up _ (by omega), rfl⟩
    · have h3 : phaseP W1.k = 3 := by simpa using q3
      obtain ⟨m, os, ts, a, s, b, t, e1, hu, hv, hx, hs⟩ := tick_res hK1.n hK1.fn
      have htk := fun σ => c_ntick W1.k.n hK1.n.cnt hK1.n.left.2 hK1.n.e σ
      rw [e1] at htk
      have z1 := hK1.sl
      have z2 := hK1.wl
      have hlc := c_lipcpS W1 m os ts hK1.l (by omega) (by omega) (by have := hs.ol; omega) (by have := hs.tl; omega) (fun p hp => (hs.os p hp).1) (fun p hp => (hs.os p hp).2) hu hv σ
      have hK2 := hK1.ipcp h3 m os ts hs.g hs.f (hs.r ▸ hK1.nip) hs.ol
      simp only [ngv, ngC] at htk hlc
      simp (maxSteps := 1000000) -implicitDefEqProofs only [go_sem]
      refine vgo_call rfl rfl rfl rfl (htk _) ?_
      simp (maxSteps := 1000000) -implicitDefEqProofs only [go_sem]
      refine vgo_call' rfl rfl rfl hlc ?_
      rintro r σ' ⟨rfl, rfl⟩
      refine ⟨rfl, ?_⟩
      generalize ipcpW W1 m os ts = W2 at hK2 ⊢
      clear htk hlc hu hv hx hs e1 z1 z2 hp1
      have hp2 := fun σ => c_lphase W2.k σ
      unfold lkv lkC at hp2
      simp (maxSteps := 1000000) -implicitDefEqProofs only [go_sem, wS, wB, wkC]
      refine vgo_call rfl rfl rfl rfl (hp2 _) ?_
      simp (maxSteps := 1000000) -implicitDefEqProofs only [go_sem]
      cases q4 : phaseP W2.k == 3
      · simp (maxSteps := 1000000) -implicitDefEqProofs only [go_sem]
        refine vgo_call' rfl rfl rfl (c_ldone W2 σ) ?_
        rintro r σ' ⟨rfl, rfl⟩
        refine ⟨rfl, ?_⟩
        simp (maxSteps := 1000000) -implicitDefEqProofs only [go_sem, lkC, outC, wS, wF, wT]
        rw [frs_take, zv_take]
        exact ⟨W2, hK2.up _ (by omega), rfl⟩
      · have hmt := fun σ => c_mtick W2.k.m hK2.me σ
        have hK3 := hK2.note
        unfold noteW at hK3
        have hwn := c_lwant { W2 with k := { W2.k with m := (mtickM W2.k.m).1 } } 4 (by have := hK2.wl; show W2.want.length ≤ 100000; omega) σ
        generalize mtickM W2.k.m = mt at *
        obtain ⟨m', due⟩ := mt
        unfold mev meC at hmt
        simp only at hmt hK3 hwn
        simp (maxSteps := 1000000) -implicitDefEqProofs only [go_sem]
        refine vgo_call rfl rfl rfl rfl (hmt _) ?_
        simp (maxSteps := 1000000) -implicitDefEqProofs only [go_sem]
        cases due
        · simp (maxSteps := 1000000) -implicitDefEqProofs only [go_sem]
          obtain ⟨W3, hW3⟩ : ∃ W3, W3 = ({ W2 with k := { W2.k with m := m' } } : WkV) := ⟨_, rfl⟩
          have hK3 : KeepW k W3 40 := by rw [hW3]; exact hK3
          refine vgo_call' rfl rfl rfl (c_ldone { W2 with k := { W2.k with m := m' } } σ) ?_
          rintro r σ' ⟨rfl, rfl⟩
          refine ⟨rfl, ?_⟩
          rw [← hW3]
          simp (maxSteps := 1000000) -implicitDefEqProofs only [go_sem, lkC, outC, wS, wF, wT]
          rw [frs_take, zv_take]
          exact ⟨W3, hK3.up _ (by omega), rfl⟩
        · simp (maxSteps := 1000000) -implicitDefEqProofs only [go_sem]
          refine vgo_call' rfl rfl rfl hwn ?_
          rintro r σ' ⟨rfl, rfl⟩
          refine ⟨rfl, ?_⟩
          have hK3 : KeepW k (wantW { W2 with k := { W2.k with m := m' } } 4) 40 := hK3
          generalize wantW { W2 with k := { W2.k with m := m' } } 4 = W3 at *
          simp (maxSteps := 1000000) -implicitDefEqProofs only [go_sem]
          refine vgo_call' rfl rfl rfl (c_ldone W3 σ) ?_
          rintro r σ' ⟨rfl, rfl⟩
          refine ⟨rfl, ?_⟩
          simp (maxSteps := 1000000) -implicitDefEqProofs only [go_sem, lkC, outC, wS, wF, wT]
          rw [frs_take, zv_take]
          exact ⟨W3, hK3.up _ (by omega), rfl⟩
  · -- somebody is asked
    have h2 : phaseP W1.k = 2 := by simpa using q2
    have hct := fun σ => c_ctick W1.k.a v hK1.au σ
    have hK2 := hK1.chap h2 v
    have hns := chap_sess W1 v hK1.l.st (phase2 h2)
    unfold chapW lateB at hK2 hns
    have hol := ctick_len W1.k.a v
    have hok := ctick_ok W1.k.a v
    have z1 := hK1.sl
    have z2 := hK1.wl
    have hgl := hK1.l
    generalize ctickA W1.k.a v = ct at *
    obtain ⟨a, os⟩ := ct
    simp only at hct hK2 hns hol hok
    obtain ⟨nl, cl, s, hcv, hcs⟩ := ctV_sl os
    rw [hcv] at hct
    have hsd := c_lsendS { W1 with k := { W1.k with a := a } } 49699 os (by show W1.sent.length ≤ 100000; omega) (by omega) (fun p hp => (hok p hp).1) (fun p hp => (hok p hp).2) nl cl s hcs σ
    unfold auhv auhC at hct
    unfold b16C at hct
    simp (maxSteps := 1000000) -implicitDefEqProofs only [go_sem]
    refine w_walk2 [10, 11, 12] [0, 1, 2, 3, 4, 5, 6, 7, 8, 9, 10, 11, 12] [32, 33, 34, 35, 36, 37, 38, 31, 39, 40] [0, 1, 3, 7, 15, 0, 63, 127, 255, 255, 0, 1535, 4095] rfl rfl rfl rfl ?_
    simp (maxSteps := 1000000) -implicitDefEqProofs only [go_sem]
    refine vdgo_call rfl rfl rfl rfl (hct _) ?_
    simp (maxSteps := 1000000) -implicitDefEqProofs only [go_sem, bne]
    cases l1 : a.st == 3
    · rw [l1] at hK2 hns
      simp only [Bool.false_and, cond_false] at hK2 hns
      simp (maxSteps := 1000000) -implicitDefEqProofs only [go_sem, bne, l1]
      refine vgo_call' rfl rfl rfl hsd ?_
      rintro r σ' ⟨rfl, rfl⟩
      refine ⟨rfl, ?_⟩
      have hK2 : KeepW k (sendW { W1 with k := { W1.k with a := a } } 49699 os) 30 := hK2
      have hns : (sendW { W1 with k := { W1.k with a := a } } 49699 os).k.sess < 0 := hns
      generalize sendW { W1 with k := { W1.k with a := a } } 49699 os = W2 at hK2 hns ⊢
      clear hp1 hct hsd
      have hp2 := fun σ => c_lphase W2.k σ
      unfold lkv lkC at hp2
      have q3 := not3 hns
      simp (maxSteps := 1000000) -implicitDefEqProofs only [go_sem, wS, wB, wkC]
      refine vgo_call rfl rfl rfl rfl (hp2 _) ?_
      simp (maxSteps := 1000000) -implicitDefEqProofs only [go_sem, q3]
      refine vgo_call rfl rfl rfl rfl (hp2 _) ?_
      simp (maxSteps := 1000000) -implicitDefEqProofs only [go_sem, q3]
      refine vgo_call' rfl rfl rfl (c_ldone W2 σ) ?_
      rintro r σ' ⟨rfl, rfl⟩
      refine ⟨rfl, ?_⟩
      simp (maxSteps := 1000000) -implicitDefEqProofs only [go_sem, lkC, outC, wS, wF, wT]
      rw [frs_take, zv_take]
      exact ⟨W2, hK2.up _ (by omega), rfl⟩
    · cases l2 : W1.k.a.st == 3
      · rw [l1, l2] at hK2 hns
        simp only [Bool.not_false, Bool.and_self, cond_true] at hK2 hns
        simp (maxSteps := 1000000) -implicitDefEqProofs only [go_sem, bne, l1, l2]
        refine vgo_call' rfl rfl rfl hsd ?_
        rintro r σ' ⟨rfl, rfl⟩
        refine ⟨rfl, ?_⟩
        have hK2 : KeepW k (closeW (sendW { W1 with k := { W1.k with a := a } } 49699 os)) 30 := hK2
        have hns : (closeW (sendW { W1 with k := { W1.k with a := a } } 49699 os)).k.sess < 0 := hns
        have hsl : (sendW { W1 with k := { W1.k with a := a } } 49699 os).sent.length ≤ 1000 := by
          show (W1.sent ++ os.map (frmOf 49699)).length ≤ 1000
          rw [List.length_append, List.length_map]
          omega
        have hcl := c_lclose (sendW { W1 with k := { W1.k with a := a } } 49699 os) hgl hsl (by show W1.want.length ≤ 1000; omega) σ
        generalize sendW { W1 with k := { W1.k with a := a } } 49699 os = W2 at hK2 hns hcl ⊢
        clear hp1 hct hsd
        simp (maxSteps := 1000000) -implicitDefEqProofs only [go_sem]
        refine vgo_call' rfl rfl rfl hcl ?_
        rintro r σ' ⟨rfl, rfl⟩
        refine ⟨rfl, ?_⟩
        generalize closeW W2 = W3 at hK2 hns ⊢
        clear hcl
        have hp2 := fun σ => c_lphase W3.k σ
        unfold lkv lkC at hp2
        have q3 := not3 hns
        simp (maxSteps := 1000000) -implicitDefEqProofs only [go_sem, wS, wB, wkC]
        refine vgo_call rfl rfl rfl rfl (hp2 _) ?_
        simp (maxSteps := 1000000) -implicitDefEqProofs only [go_sem, q3]
        refine vgo_call rfl rfl rfl rfl (hp2 _) ?_
        simp (maxSteps := 1000000) -implicitDefEqProofs only [go_sem, q3]
        refine vgo_call' rfl rfl rfl (c_ldone W3 σ) ?_
        rintro r σ' ⟨rfl, rfl⟩
        refine ⟨rfl, ?_⟩
        simp (maxSteps := 1000000) -implicitDefEqProofs only [go_sem, lkC, outC, wS, wF, wT]
        rw [frs_take, zv_take]
        exact ⟨W3, hK2.up _ (by omega), rfl⟩
      · rw [l1, l2] at hK2 hns
        simp only [Bool.not_true, Bool.and_false, cond_false] at hK2 hns
        simp (maxSteps := 1000000) -implicitDefEqProofs only [go_sem, bne, l1, l2]
        refine vgo_call' rfl rfl rfl hsd ?_
        rintro r σ' ⟨rfl, rfl⟩
        refine ⟨rfl, ?_⟩
        have hK2 : KeepW k (sendW { W1 with k := { W1.k with a := a } } 49699 os) 30 := hK2
        have hns : (sendW { W1 with k := { W1.k with a := a } } 49699 os).k.sess < 0 := hns
        generalize sendW { W1 with k := { W1.k with a := a } } 49699 os = W2 at hK2 hns ⊢
        clear hp1 hct hsd
        have hp2 := fun σ => c_lphase W2.k σ
        unfold lkv lkC at hp2
        have q3 := not3 hns
        simp (maxSteps := 1000000) -implicitDefEqProofs only [go_sem, wS, wB, wkC]
        refine vgo_call rfl rfl rfl rfl (hp2 _) ?_
        simp (maxSteps := 1000000) -implicitDefEqProofs only [go_sem, q3]
        refine vgo_call rfl rfl rfl rfl (hp2 _) ?_
        simp (maxSteps := 1000000) -implicitDefEqProofs only [go_sem, q3]
        refine vgo_call' rfl rfl rfl (c_ldone W2 σ) ?_
        rintro r σ' ⟨rfl, rfl⟩
        refine ⟨rfl, ?_⟩
        simp (maxSteps := 1000000) -implicitDefEqProofs only [go_sem, lkC, outC, wS, wF, wT]
        rw [frs_take, zv_take]
        exact ⟨W2, hK2.up _ (by omega), rfl⟩

end Go.VL

/- Contracts of this program's functions: calm. Conditions: none. -/
namespace Go.VL
open Go.Proofs

theorem zv_any (l : List Int) (i : Nat) (h : i < l.length) : (l.take (i + 1)).any (· == 3) = ((l.take i).any (· == 3) || (l[i] == 3)) := by
  rw [List.take_succ_eq_append_getElem h, List.any_append]
  simp
set_option maxHeartbeats 8000000 in
set_option maxRecDepth 20000 in
theorem c_calm (k m : LinkV) (W : WkV) (hk : 0 ≤ k.l.a.st ∧ k.l.a.st ≤ 9) (hz : m.line.sz = 1) (h : CalmF k m W) (σ : St) : VCalls Tryz.prog 43 [lkv k, lkv m, outW W] σ fun r σ' => r = .bool true ∧ σ' = σ := by
  refine vcalls_intro (C := cfg Tryz.prog [] [] []) (cfg_ok mixed) Tryz.func43 rfl rfl rfl rfl rfl ?_
  have hR := c_r18right1 m hz (fun σ => c_rright14E m.l h.good.l.e σ) (fun σ => c_rright14E m.n h.good.n.e σ) σ
  rw [h.good.right] at hR
  have hP1 := c_r18phase k σ
  have hP2 := c_r18phase m σ
  rw [phase_same hk] at hP1
  rw [phase_same h.good.l.st] at hP2
  have hsl := h.sl
  have hwl := h.wl
  unfold outW outC
  simp (maxSteps := 1000000) -implicitDefEqProofs only [go_sem, lkv, lk_len, lk_take, lk_cell, lk_imm, set_lk]
  refine vgo_call rfl rfl rfl rfl hR ?_
  simp (maxSteps := 1000000) -implicitDefEqProofs only [go_sem, lkv, lk_len, lk_take, lk_cell, lk_imm, set_lk]
  refine vgo_call rfl rfl rfl rfl hP1 ?_
  cases p1 : phaseP k == 3
  · have hk3 : ¬ (phaseP k = 3) := by simpa using p1
    simp (maxSteps := 1000000) -implicitDefEqProofs only [go_sem, p1, lk_len, lk_take, lk_cell, lk_imm, set_lk]
    refine vgo_call rfl rfl rfl rfl hP2 ?_
    simp (maxSteps := 1000000) -implicitDefEqProofs only [go_sem]
    refine w_loopL (fun i => i ≤ W.sent.length) (fun i => [(8, .int .i64 i), (7, .bool (phaseP m == 3)), (3, .ip (lkC k)), (4, .ip (lkC m)), (5, .ip [.sl W.sent.isEmpty false 2 (frs W.sent), .sl W.want.isEmpty false 1 (zv64 W.want), .int .u8 W.p.code.toNat, .int .u8 W.p.id.toNat, .sl W.p.nl W.p.c W.p.sz (bv W.p.d), .int .i64 W.stop.kind, .int .i64 W.stop.id, .int .i64 W.stop.lnk, .int .u32 W.stop.addr.toNat, .str W.stop.user, .int .u64 W.stop.inn.toNat, .int .u64 W.stop.out.toNat, .int .i64 W.stop.cause, .int .i64 W.stop.time, .sl W.ip.nl W.ip.c W.ip.sz W.ip.es])]) (fun _ => σ) (fun i => W.sent.length - i) 0 (Nat.zero_le _) ?_ rfl ?_
    · simp (maxSteps := 1000000) -implicitDefEqProofs only [go_sem]
      rfl
    intro i hi L hnext hleave
    rcases Nat.lt_or_ge i W.sent.length with h1 | h1
    · have hw1 : IntKind.i64.wrap ((i : Int) + 1) = ((i + 1 : Nat) : Int) := wrap_ok (by omega) (by omega)
      have hs := h.sent W.sent[i] (List.getElem_mem h1)
      have next := fun fr' S' => hnext (i + 1) fr' S' h1 (by omega)
      clear hnext
      have hgd := frs_getD h1
      generalize W.sent[i] = x at hgd hs
      unfold frv frC at hgd
      cases e1 : (x.proto.toNat : Int) == 32801
      · cases e2 : (x.proto.toNat : Int) == 33
        · simp (maxSteps := 1000000) -implicitDefEqProofs only [go_sem, frs_length, h1, hgd, e1, e2]
          refine next _ _ ?_ rfl
          simp (maxSteps := 1000000) -implicitDefEqProofs only [go_sem, hw1]
        · have hI : (phaseP m == 3) = true := by rcases (hs (.inr (UInt16.toNat_inj.1 (by show x.proto.toNat = 33; have := beq_iff_eq.1 e2; omega)))) with e | e; exact absurd e hk3; simpa using e
          simp (maxSteps := 1000000) -implicitDefEqProofs only [go_sem, frs_length, h1, hgd, e1, e2, hI]
          refine next _ _ ?_ rfl
          simp (maxSteps := 1000000) -implicitDefEqProofs only [go_sem, hw1, hI]
      · have hI : (phaseP m == 3) = true := by rcases (hs (.inl (UInt16.toNat_inj.1 (by show x.proto.toNat = 32801; have := beq_iff_eq.1 e1; omega)))) with e | e; exact absurd e hk3; simpa using e
        simp (maxSteps := 1000000) -implicitDefEqProofs only [go_sem, frs_length, h1, hgd, e1, hI]
        refine next _ _ ?_ rfl
        simp (maxSteps := 1000000) -implicitDefEqProofs only [go_sem, hw1, hI]
    have hn1 : ¬ (i < W.sent.length) := by omega
    simp (maxSteps := 1000000) -implicitDefEqProofs only [go_sem, frs_length, hn1]
    refine hleave _ _ _ (fun h => by cases h) ?_
    clear hleave hnext
    simp (maxSteps := 1000000) -implicitDefEqProofs only [go_sem]
    refine w_loopL (fun i => i ≤ W.want.length) (fun i => [(10, .int .i64 i), (9, .bool ((W.want.take i).any (· == 3))), (7, .bool (phaseP m == 3)), (3, .ip (lkC k)), (4, .ip (lkC m)), (5, .ip [.sl W.sent.isEmpty false 2 (frs W.sent), .sl W.want.isEmpty false 1 (zv64 W.want), .int .u8 W.p.code.toNat, .int .u8 W.p.id.toNat, .sl W.p.nl W.p.c W.p.sz (bv W.p.d), .int .i64 W.stop.kind, .int .i64 W.stop.id, .int .i64 W.stop.lnk, .int .u32 W.stop.addr.toNat, .str W.stop.user, .int .u64 W.stop.inn.toNat, .int .u64 W.stop.out.toNat, .int .i64 W.stop.cause, .int .i64 W.stop.time, .sl W.ip.nl W.ip.c W.ip.sz W.ip.es])]) (fun _ => σ) (fun i => W.want.length - i) 0 (Nat.zero_le _) ?_ rfl ?_
    · simp (maxSteps := 1000000) -implicitDefEqProofs only [go_sem]
      repeat' apply And.intro
      all_goals rfl
    intro j hj L hnext hleave
    rcases Nat.lt_or_ge j W.want.length with h2 | h2
    · have hw1 : IntKind.i64.wrap ((j : Int) + 1) = ((j + 1 : Nat) : Int) := wrap_ok (by omega) (by omega)
      have hz := zv_any W.want j h2
      have next := fun fr' S' => hnext (j + 1) fr' S' h2 (by omega)
      clear hnext
      rw [hz] at next
      have hgd := zv_getD h2
      cases a1 : (W.want.take j).any (· == 3)
      · rw [a1, Bool.false_or] at next
        simp (maxSteps := 1000000) -implicitDefEqProofs only [go_sem, zv_length, h2, hgd, a1]
        refine next _ _ ?_ rfl
        simp (maxSteps := 1000000) -implicitDefEqProofs only [go_sem, hw1]
      · rw [a1, Bool.true_or] at next
        simp (maxSteps := 1000000) -implicitDefEqProofs only [go_sem, zv_length, h2, hgd, a1]
        refine next _ _ ?_ rfl
        simp (maxSteps := 1000000) -implicitDefEqProofs only [go_sem, hw1]
    have hn2 : ¬ (j < W.want.length) := by omega
    simp (maxSteps := 1000000) -implicitDefEqProofs only [go_sem, zv_length, hn2]
    refine hleave _ _ _ (fun h => by cases h) ?_
    clear hleave hnext
    rw [List.take_of_length_le h2]
    simp (maxSteps := 1000000) -implicitDefEqProofs only [go_sem, lk_len, lk_take, lk_cell, lk_imm, set_lk]
    refine vgo_call rfl rfl rfl rfl hP1 ?_
    have hE : W.want.any (· == 3) = false := by
      rw [List.any_eq_false]
      intro x hx h3
      have hx3 : x = 3 := by simpa using h3
      exact hk3 (h.want.1 (hx3 ▸ hx)).1
    simp (maxSteps := 1000000) -implicitDefEqProofs only [go_sem, p1, hE, bne]
    cases a3 : (W.ip.es.length : Int) == 0
    · have hI : (phaseP m == 3) = true := by
        rcases h.ip with e | e | e
        · rw [e] at a3; cases a3
        · first | rfl | exact absurd e hk3
        · first | rfl | simpa using e
      simp (maxSteps := 1000000) -implicitDefEqProofs only [go_sem, a3, hI]
    · simp (maxSteps := 1000000) -implicitDefEqProofs only [go_sem, a3]
  · have hk3 : phaseP k = 3 := by simpa using p1
    simp (maxSteps := 1000000) -implicitDefEqProofs only [go_sem, p1, lk_len, lk_take, lk_cell, lk_imm, set_lk]
    refine w_loopL (fun i => i ≤ W.sent.length) (fun i => [(8, .int .i64 i), (7, .bool true), (3, .ip (lkC k)), (4, .ip (lkC m)), (5, .ip [.sl W.sent.isEmpty false 2 (frs W.sent), .sl W.want.isEmpty false 1 (zv64 W.want), .int .u8 W.p.code.toNat, .int .u8 W.p.id.toNat, .sl W.p.nl W.p.c W.p.sz (bv W.p.d), .int .i64 W.stop.kind, .int .i64 W.stop.id, .int .i64 W.stop.lnk, .int .u32 W.stop.addr.toNat, .str W.stop.user, .int .u64 W.stop.inn.toNat, .int .u64 W.stop.out.toNat, .int .i64 W.stop.cause, .int .i64 W.stop.time, .sl W.ip.nl W.ip.c W.ip.sz W.ip.es])]) (fun _ => σ) (fun i => W.sent.length - i) 0 (Nat.zero_le _) ?_ rfl ?_
    · simp (maxSteps := 1000000) -implicitDefEqProofs only [go_sem]
      rfl
    intro i hi L hnext hleave
    rcases Nat.lt_or_ge i W.sent.length with h1 | h1
    · have hw1 : IntKind.i64.wrap ((i : Int) + 1) = ((i + 1 : Nat) : Int) := wrap_ok (by omega) (by omega)
      have hs := h.sent W.sent[i] (List.getElem_mem h1)
      have next := fun fr' S' => hnext (i + 1) fr' S' h1 (by omega)
      clear hnext
      have hgd := frs_getD h1
      generalize W.sent[i] = x at hgd hs
      unfold frv frC at hgd
      cases e1 : (x.proto.toNat : Int) == 32801
      · cases e2 : (x.proto.toNat : Int) == 33
        · simp (maxSteps := 1000000) -implicitDefEqProofs only [go_sem, frs_length, h1, hgd, e1, e2]
          refine next _ _ ?_ rfl
          simp (maxSteps := 1000000) -implicitDefEqProofs only [go_sem, hw1]
        · have hI : true = true := rfl
          simp (maxSteps := 1000000) -implicitDefEqProofs only [go_sem, frs_length, h1, hgd, e1, e2, hI]
          refine next _ _ ?_ rfl
          simp (maxSteps := 1000000) -implicitDefEqProofs only [go_sem, hw1, hI]
      · have hI : true = true := rfl
        simp (maxSteps := 1000000) -implicitDefEqProofs only [go_sem, frs_length, h1, hgd, e1, hI]
        refine next _ _ ?_ rfl
        simp (maxSteps := 1000000) -implicitDefEqProofs only [go_sem, hw1, hI]
    have hn1 : ¬ (i < W.sent.length) := by omega
    simp (maxSteps := 1000000) -implicitDefEqProofs only [go_sem, frs_length, hn1]
    refine hleave _ _ _ (fun h => by cases h) ?_
    clear hleave hnext
    simp (maxSteps := 1000000) -implicitDefEqProofs only [go_sem]
    refine w_loopL (fun i => i ≤ W.want.length) (fun i => [(10, .int .i64 i), (9, .bool ((W.want.take i).any (· == 3))), (7, .bool true), (3, .ip (lkC k)), (4, .ip (lkC m)), (5, .ip [.sl W.sent.isEmpty false 2 (frs W.sent), .sl W.want.isEmpty false 1 (zv64 W.want), .int .u8 W.p.code.toNat, .int .u8 W.p.id.toNat, .sl W.p.nl W.p.c W.p.sz (bv W.p.d), .int .i64 W.stop.kind, .int .i64 W.stop.id, .int .i64 W.stop.lnk, .int .u32 W.stop.addr.toNat, .str W.stop.user, .int .u64 W.stop.inn.toNat, .int .u64 W.stop.out.toNat, .int .i64 W.stop.cause, .int .i64 W.stop.time, .sl W.ip.nl W.ip.c W.ip.sz W.ip.es])]) (fun _ => σ) (fun i => W.want.length - i) 0 (Nat.zero_le _) ?_ rfl ?_
    · simp (maxSteps := 1000000) -implicitDefEqProofs only [go_sem]
      repeat' apply And.intro
      all_goals rfl
    intro j hj L hnext hleave
    rcases Nat.lt_or_ge j W.want.length with h2 | h2
    · have hw1 : IntKind.i64.wrap ((j : Int) + 1) = ((j + 1 : Nat) : Int) := wrap_ok (by omega) (by omega)
      have hz := zv_any W.want j h2
      have next := fun fr' S' => hnext (j + 1) fr' S' h2 (by omega)
      clear hnext
      rw [hz] at next
      have hgd := zv_getD h2
      cases a1 : (W.want.take j).any (· == 3)
      · rw [a1, Bool.false_or] at next
        simp (maxSteps := 1000000) -implicitDefEqProofs only [go_sem, zv_length, h2, hgd, a1]
        refine next _ _ ?_ rfl
        simp (maxSteps := 1000000) -implicitDefEqProofs only [go_sem, hw1]
      · rw [a1, Bool.true_or] at next
        simp (maxSteps := 1000000) -implicitDefEqProofs only [go_sem, zv_length, h2, hgd, a1]
        refine next _ _ ?_ rfl
        simp (maxSteps := 1000000) -implicitDefEqProofs only [go_sem, hw1]
    have hn2 : ¬ (j < W.want.length) := by omega
    simp (maxSteps := 1000000) -implicitDefEqProofs only [go_sem, zv_length, hn2]
    refine hleave _ _ _ (fun h => by cases h) ?_
    clear hleave hnext
    rw [List.take_of_length_le h2]
    simp (maxSteps := 1000000) -implicitDefEqProofs only [go_sem, lk_len, lk_take, lk_cell, lk_imm, set_lk]
    refine vgo_call rfl rfl rfl rfl hP1 ?_
    unfold lkC
    simp (maxSteps := 1000000) -implicitDefEqProofs only [go_sem, p1, bne]
    cases p2 : m.phase == 3
    · have hm3 : m.phase ≠ 3 := by simpa using p2
      have hE : W.want.any (· == 3) = true := by
        rw [List.any_eq_true]
        exact ⟨3, h.want.2 ⟨hk3, hm3⟩, rfl⟩
      obtain ⟨s1, s2, s3, s4⟩ := h.stop hk3 hm3
      have f1 : (W.stop.kind == 3) = true := by rw [s1]; rfl
      have f2 : (W.stop.id == k.sess) = true := by rw [s2]; simp
      have f3 : decide (W.stop.inn.toNat < k.m.inn.toNat) = false := by rw [decide_eq_false_iff_not]; omega
      have f4 : decide (W.stop.out.toNat < k.m.out.toNat) = false := by rw [decide_eq_false_iff_not]; omega
      simp (maxSteps := 1000000) -implicitDefEqProofs only [go_sem, p1, p2, bne, f1, f2, f3, f4, hE]
      cases a3 : (W.ip.es.length : Int) == 0
      · simp (maxSteps := 1000000) -implicitDefEqProofs only [go_sem, a3]
      · simp (maxSteps := 1000000) -implicitDefEqProofs only [go_sem, a3]
    · have hm3 : m.phase = 3 := by simpa using p2
      have hE : W.want.any (· == 3) = false := by
        rw [List.any_eq_false]
        intro x hx h3
        have hx3 : x = 3 := by simpa using h3
        exact (h.want.1 (hx3 ▸ hx)).2 hm3
      simp (maxSteps := 1000000) -implicitDefEqProofs only [go_sem, p1, p2, bne, hE]
      cases a3 : (W.ip.es.length : Int) == 0
      · simp (maxSteps := 1000000) -implicitDefEqProofs only [go_sem, a3]
      · simp (maxSteps := 1000000) -implicitDefEqProofs only [go_sem, a3]

end Go.VL

/- LinkCalm's law. Conditions: none. -/
namespace Go.VL
open Go.Proofs

/-! Plain: whatever is done leaves calm. -/
theorem calm_plug {k : LinkV} (hg : GoodK k) (h : KeepW k (beginW k) 0) (m o : UInt32) : CalmF k (doneK (plugW k m o)) (plugW k m o) := by
  cases h0 : k.l.a.st == 0
  · have e : plugW k m o = beginW k := by unfold plugW; rw [h0]; rfl
    rw [e]
    exact h.calm hg (by omega)
  · have h0' : k.l.a.st = 0 := by simpa using h0
    have hs : k.sess = -1 := by
      rcases Int.lt_or_le k.sess 0 with hs | hs
      · have := hg.low; omega
      · have := hg.st9 hs; omega
    have hn3 : ¬ (phaseP k = 3) := by rw [phase0 h0']; decide
    have e := (plug_u h0' m o).1
    have e2 := (plug_u h0' m o).2
    rw [e]
    have hw : (plugW k m o).want = [] ∧ (plugW k m o).ip.es = [] := by
      rw [plug_is h0' m o]
      exact ⟨rfl, rfl⟩
    refine ⟨⟨pl_good m o, hg.n, rfl, hg.nip, hg.low, rfl, .inl hs, hg.line, hg.au, hg.me⟩, rfl, ?_, ?_, fun h3 _ => absurd h3 hn3, .inl hw.2, by rw [e2]; show 1 ≤ 200; omega, by rw [hw.1]; exact Nat.zero_le _⟩
    · rw [e2]
      intro x hx hp
      rw [List.mem_singleton.1 hx] at hp
      rcases hp with hp | hp
      · exact absurd (show (49185 : UInt16) = 32801 from hp) (by decide)
      · exact absurd (show (49185 : UInt16) = 33 from hp) (by decide)
    · rw [hw.1]
      exact ⟨fun x => (by cases x), fun x => absurd x.1 hn3⟩
theorem keep_unplug {k : LinkV} (h : KeepW k (beginW k) 0) : KeepW k (unplugW k) 20 := by
  have h1 := h.lcp k.l (evN k.l 1) 1 (doO k.l 1) rfl rfl (ev_good h.l 1) (ev_peer h.fl 1) (by rw [ev_r]; exact h.lip) (evO_len _ _ _ _)
  exact h1.close

/-! What the law is asked of. -/
def calC (k : LinkV) (f : FrV) (v : B16) (nl c : Bool) (b : List UInt8) : List V := lkC k ++ (frC f ++ (b16C v ++ [.sl nl c 1 (bv b)]))
section
variable (k : LinkV) (f : FrV) (v : B16) (nl c : Bool) (b : List UInt8)
theorem cal_len : (calC k f v nl c b).length = 88 := rfl
theorem cal_imm : (calC k f v nl c b).all imm1 = true := rfl
theorem cal_cell : (calC k f v nl c b).all cell1 = true := rfl
theorem cal_take : (calC k f v nl c b).take 69 = lkC k := rfl
theorem cal_f : ((calC k f v nl c b).drop 69) = frC f ++ (b16C v ++ [.sl nl c 1 (bv b)]) := rfl
theorem cal_v : ((calC k f v nl c b).drop 71) = b16C v ++ [.sl nl c 1 (bv b)] := rfl
theorem cal_b : ((calC k f v nl c b).drop 87) = [.sl nl c 1 (bv b)] := rfl
end
set_option maxHeartbeats 32000000 in
set_option maxRecDepth 20000 in
theorem c_linkCalm (k : LinkV) (f : FrV) (v : B16) (nl c : Bool) (b : List UInt8) (hz : k.line.sz = 1) (h1 : k.l.ps = 2) (h2 : k.n.ps = 2) (hfz : f.sz = 1) (σ : St) :
    VCalls Tryz.prog 10 [.agg (calC k f v nl c b)] σ fun r σ' => r = .bool true ∧ σ' = σ := by
  refine vcalls_intro (C := cfg Tryz.prog [] [] []) (cfg_ok mixed) Tryz.func10 rfl rfl rfl rfl rfl ?_
  simp (maxSteps := 1000000) -implicitDefEqProofs only [go_sem, cal_len, cal_cell, cal_imm, cal_take, cal_f, cal_v, cal_b, lk_len, lk_take, lk_cell, lk_imm, set_lk, b16C, frC]
  refine vgo_call rfl rfl rfl rfl (c_shown18 σ) ?_
  simp (maxSteps := 1000000) -implicitDefEqProofs only [go_sem, lk_len, lk_take, lk_cell, lk_imm, set_lk]
  refine vgo_call rfl rfl rfl rfl (c_r18small k h1 h2 σ) ?_
  cases hs : smallK k
  · simp (maxSteps := 1000000) -implicitDefEqProofs only [go_sem, lk_len, lk_take, lk_cell, lk_imm, set_lk]
  have hsN : smallN k.l = true ∧ smallN k.n = true := by
    unfold smallK at hs
    simp only [Bool.and_eq_true] at hs
    exact ⟨hs.1.1.1, hs.1.1.2⟩
  have hf1 : few k.l.ours = true := by have := hsN.1; unfold smallN at this; simp only [Bool.and_eq_true] at this; exact this.1
  have hf2 : few k.n.ours = true := by have := hsN.2; unfold smallN at this; simp only [Bool.and_eq_true] at this; exact this.1
  have hL := fun σ => c_rright14 k.l hf1 σ
  have hN := fun σ => c_rright14 k.n hf2 σ
  simp (maxSteps := 1000000) -implicitDefEqProofs only [go_sem, lk_len, lk_take, lk_cell, lk_imm, set_lk]
  refine vgo_call rfl rfl rfl rfl (c_r18right1 k hz hL hN σ) ?_
  cases hr : rightK k
  · simp (maxSteps := 1000000) -implicitDefEqProofs only [go_sem, lk_len, lk_take, lk_cell, lk_imm, set_lk]
  have hg := goodK_of hs hr
  simp (maxSteps := 1000000) -implicitDefEqProofs only [go_sem, lkv, lk_len, lk_take, lk_cell, lk_imm, set_lk]
  refine vgo_call' rfl rfl rfl (c_rproto f.proto σ) ?_
  rintro r σ' ⟨⟨pb, rfl⟩, hσ⟩
  have hσ := hσ.symm
  subst hσ
  refine ⟨rfl, ?_⟩
  cases pb
  · simp (maxSteps := 1000000) -implicitDefEqProofs only [go_sem, lkv, lk_len, lk_take, lk_cell, lk_imm, set_lk]
  simp (maxSteps := 1000000) -implicitDefEqProofs only [go_sem, bv_length]
  cases ql : decide ((1500 : Int) < (f.d.length : Int))
  · cases qb : decide ((1600 : Int) < (b.length : Int))
    · have hl : f.d.length ≤ 1500 := by simp only [decide_eq_false_iff_not] at ql; omega
      have hlb : b.length ≤ 1600 := by simp only [decide_eq_false_iff_not] at qb; omega
      have hfl := peerF_of hsN.1 h1
      have hfn := peerF_of hsN.2 h2
      have hK0 : KeepW k (beginW k) 0 := keep_begin hg hfl hfn []
      have hst := hg.l.st
      have hX1 : VCalls Tryz.prog 15 [lkv k, .int .u32 1, .int .u32 2] σ fun r σ' => r = .tup [lkv (doneK (plugW k 1 2)), outW (plugW k 1 2)] ∧ σ' = σ := c_lplug k 1 2 σ
      have hC1 := calm_plug hg hK0 1 2
      have hX2 := c_lunplug k hg.l σ
      have hC2 := (keep_unplug hK0).calm hg (by omega)
      have hX3 := c_lhear k f hfz hl hg.l hg.n hfl hfn σ
      have hX4 := c_ltick k v hg hfl hfn σ
      have hX5 := c_lsay k nl c b (by omega) σ
      have hC5 := (keep_say hK0 (sayF nl c b)).calm hg (by omega)
      have hX6 : VCalls Tryz.prog 23 [lkv k, .str uS, .agg (b16C v), .int .i64 7, .int .u32 167772161] σ fun r σ' => r = .tup [lkv (doneK (welcomeW k uS v 7 167772161)), outW (welcomeW k uS v 7 167772161)] ∧ σ' = σ := c_lwelcome k uS v 7 167772161 hg.l σ
      have hC6 := calm_welcome hg hK0 uS v (id := 7) (by decide) 167772161
      have hX7 := c_lrefuse k hg.l σ
      have hC7 := (keep_told hK0 noS z16 false).calm hg (by omega)
      unfold uS at hX6 hC6
      generalize plugW k 1 2 = W1 at hX1 hC1
      generalize doneK W1 = m1 at hX1 hC1
      generalize unplugW k = W2 at hX2 hC2
      generalize doneK W2 = m2 at hX2 hC2
      generalize sayW k (sayF nl c b) = W5 at hX5 hC5
      generalize doneK W5 = m5 at hX5 hC5
      generalize welcomeW k _ v 7 167772161 = W6 at hX6 hC6
      generalize doneK W6 = m6 at hX6 hC6
      generalize toldW1 k noS z16 false = W7 at hX7 hC7
      generalize doneK W7 = m7 at hX7 hC7
      unfold outW outC at hX1 hX2 hX5 hX6 hX7
      unfold frv frC at hX3
      simp (maxSteps := 1000000) -implicitDefEqProofs only [go_sem, bv_length, ql, qb, lkv, lk_len, lk_take, lk_cell, lk_imm, set_lk]
      refine vgo_call rfl rfl rfl rfl hX1 ?_
      simp (maxSteps := 1000000) -implicitDefEqProofs only [go_sem, lkv, lk_len, lk_take, lk_cell, lk_imm, set_lk]
      refine vgo_call rfl rfl rfl rfl hX2 ?_
      simp (maxSteps := 1000000) -implicitDefEqProofs only [go_sem, lkv, lk_len, lk_take, lk_cell, lk_imm, set_lk]
      refine vgo_call' rfl rfl rfl hX3 ?_
      rintro r σ' ⟨⟨M, W3, hR3, rfl⟩, hσ⟩
      have hσ := hσ.symm
      subst hσ
      refine ⟨rfl, ?_⟩
      have hC3 := (keep_hear (keep_begin hg hfl hfn M) hl hR3).calm hg (by omega)
      generalize doneK W3 = m3 at hC3 ⊢
      clear hR3
      unfold outW outC
      simp (maxSteps := 1000000) -implicitDefEqProofs only [go_sem, lkv, lk_len, lk_take, lk_cell, lk_imm, set_lk]
      refine vgo_call' rfl rfl rfl hX4 ?_
      rintro r σ' ⟨⟨W4, hK4, rfl⟩, hσ⟩
      have hσ := hσ.symm
      subst hσ
      refine ⟨rfl, ?_⟩
      have hC4 := hK4.calm hg (by omega)
      generalize doneK W4 = m4 at hC4 ⊢
      clear hK4
      unfold outW outC
      simp (maxSteps := 1000000) -implicitDefEqProofs only [go_sem, lkv, lk_len, lk_take, lk_cell, lk_imm, set_lk]
      refine vgo_call rfl rfl rfl rfl hX5 ?_
      simp (maxSteps := 1000000) -implicitDefEqProofs only [go_sem, lkv, lk_len, lk_take, lk_cell, lk_imm, set_lk]
      refine vgo_call rfl rfl rfl rfl hX6 ?_
      simp (maxSteps := 1000000) -implicitDefEqProofs only [go_sem, lkv, lk_len, lk_take, lk_cell, lk_imm, set_lk]
      refine vgo_call rfl rfl rfl rfl hX7 ?_
      simp (maxSteps := 1000000) -implicitDefEqProofs only [go_sem, lkv, lk_len, lk_take, lk_cell, lk_imm, set_lk]
      have hz' : ∀ {m : LinkV} {W : WkV}, CalmF k m W → m.line.sz = 1 := fun h => by rw [h.line]; exact hz
      have hY1 := c_calm k m1 W1 hst (hz' hC1) hC1 σ
      have hY2 := c_calm k m2 W2 hst (hz' hC2) hC2 σ
      have hY3 := c_calm k m3 W3 hst (hz' hC3) hC3 σ
      have hY4 := c_calm k m4 W4 hst (hz' hC4) hC4 σ
      have hY5 := c_calm k m5 W5 hst (hz' hC5) hC5 σ
      have hY6 := c_calm k m6 W6 hst (hz' hC6) hC6 σ
      have hY7 := c_calm k m7 W7 hst (hz' hC7) hC7 σ
      unfold lkv outW outC at hY1 hY2 hY3 hY4 hY5 hY6 hY7
      refine vgo_call rfl rfl rfl rfl hY1 ?_
      simp (maxSteps := 1000000) -implicitDefEqProofs only [go_sem, lkv, lk_len, lk_take, lk_cell, lk_imm, set_lk]
      refine vgo_call rfl rfl rfl rfl hY2 ?_
      simp (maxSteps := 1000000) -implicitDefEqProofs only [go_sem, lkv, lk_len, lk_take, lk_cell, lk_imm, set_lk]
      refine vgo_call rfl rfl rfl rfl hY3 ?_
      simp (maxSteps := 1000000) -implicitDefEqProofs only [go_sem, lkv, lk_len, lk_take, lk_cell, lk_imm, set_lk]
      refine vgo_call rfl rfl rfl rfl hY4 ?_
      simp (maxSteps := 1000000) -implicitDefEqProofs only [go_sem, lkv, lk_len, lk_take, lk_cell, lk_imm, set_lk]
      refine vgo_call rfl rfl rfl rfl hY5 ?_
      simp (maxSteps := 1000000) -implicitDefEqProofs only [go_sem, lkv, lk_len, lk_take, lk_cell, lk_imm, set_lk]
      refine vgo_call rfl rfl rfl rfl hY6 ?_
      simp (maxSteps := 1000000) -implicitDefEqProofs only [go_sem, lkv, lk_len, lk_take, lk_cell, lk_imm, set_lk]
      refine vgo_call rfl rfl rfl rfl hY7 ?_
      simp (maxSteps := 1000000) -implicitDefEqProofs only [go_sem, lkv, lk_len, lk_take, lk_cell, lk_imm, set_lk]
    · simp (maxSteps := 1000000) -implicitDefEqProofs only [go_sem, bv_length, ql, qb, lkv, lk_len, lk_take, lk_cell, lk_imm, set_lk]
  · simp (maxSteps := 1000000) -implicitDefEqProofs only [go_sem, bv_length, ql, lkv, lk_len, lk_take, lk_cell, lk_imm, set_lk]

end Go.VL
