/- NegoDoes: at every protocol, every event and every packet the law answers true, and leaves its arguments as they were. Conditions: none. -/
import Derived.Test.YtonjofnphkghcaaGreatDoorSSf
import Derived.Test.YtonjofnphkghcaaGreatDoorVVc
import Derived.Test.YtonjofnphkghcaaGreatDoorSSa
import Derived.Test.YtonjofnphkghcaaGreatDoorSSb
import Derived.Test.YtonjofnphkghcaaGreatDoorRows
import Derived.Test.YtonjofnphkghcaaGreatDoorCards
import Derived.Test.YtonjofnphkghcaaGreatDoorTie
import Derived.ProofKit
import Derived.WalkKit
import Derived.LaidMore
import Derived.Lay
import Derived.SevenTiedAt
import Derived.Stop.Joined
set_option linter.unusedVariables false
set_option linter.unusedSimpArgs false
/- The statement of what a protocol does beside a layer, at a tick, and with a packet. Conditions: none. -/
namespace Go.VL
open Go.Proofs

/-- Packets, one by one the same. -/
def eqPks (l l' : List PkV) : Prop := l'.length = l.length ∧ ∀ (i : Nat) (p q : PkV), l[i]? = some p → l'[i]? = some q → eqPk p q = true
theorem eqPks_refl (l : List PkV) : eqPks l l := ⟨rfl, fun i p q h1 h2 => by rw [h1] at h2; cases h2; exact eqPk_self p⟩
def PkSD (p : PkV) : Prop := PkOK p ∧ p.d.length ≤ 1496
theorem c_rpkts2 (nl c nl' c' : Bool) (l l' : List PkV) (hl : l.length ≤ 1000) (he : eqPks l l') (hz : ∀ p ∈ l, PkSD p) (hz' : ∀ p ∈ l', PkSD p) (σ : St) : VCalls Tryz.prog 81 [.sl nl c 3 (pkvs l), .sl nl' c' 3 (pkvs l')] σ fun r σ' => r = .bool true ∧ σ' = σ := by
  refine vcalls_intro (C := cfg Tryz.prog [] [] []) (cfg_ok mixed) Tryz.func81 rfl rfl rfl rfl rfl ?_
  obtain ⟨hlen, he⟩ := he
  have hq : (((l.length : Nat) : Int) == ((l'.length : Nat) : Int)) = true := by rw [hlen]; simp
  simp -implicitDefEqProofs only [go_sem, pkvs_length, bne, hq, Bool.not_true]
  refine w_loopL (fun i => i ≤ l.length) (fun i => [(5, .int .i64 i), (1, .sl nl' c' 3 (pkvs l')), (0, .sl nl c 3 (pkvs l))]) (fun _ => σ) (fun i => l.length - i) 0 (Nat.zero_le _) ?_ rfl ?_
  · simp -implicitDefEqProofs only [go_sem]
    rfl
  intro i hi L hnext hleave
  rcases Nat.lt_or_ge i l.length with h | h
  · have hw1 : IntKind.i64.wrap ((i : Int) + 1) = ((i + 1 : Nat) : Int) := wrap_ok (by omega) (by omega)
    have h' : i < l'.length := by omega
    have hs := c_rpsame l[i] l'[i] (hz _ (List.getElem_mem h)).1 (hz' _ (List.getElem_mem h')).1 (by have := (hz _ (List.getElem_mem h)).2; unfold lim; omega) σ
    rw [he i _ _ (List.getElem?_eq_getElem h) (List.getElem?_eq_getElem h')] at hs
    unfold pkv pkC at hs
    simp -implicitDefEqProofs only [go_sem, pkvs_length, h]
    refine w_walk2 [] [0, 1, 2, 3, 4, 5, 6, 7, 8, 9] [18, 19, 20, 21, 22, 23, 24, 25, 26, 6] [0, 0, 3, 7, 0, 0, 48, 112, 255, 511] rfl rfl rfl rfl ?_
    simp -implicitDefEqProofs only [go_sem, pkvs_length, pkvs_getD h, pkvs_getD h', h, h', pkv, pkC]
    refine vdgo_call rfl rfl rfl rfl hs ?_
    simp -implicitDefEqProofs only [go_sem]
    refine hnext (i + 1) _ _ h (by show l.length - (i + 1) < l.length - i; omega) ?_ rfl
    simp -implicitDefEqProofs only [go_sem, hw1]
  · have hn : ¬ (i < l.length) := by omega
    simp -implicitDefEqProofs only [go_sem, pkvs_length, hn]
    refine hleave _ _ _ (fun h => by cases h) ?_
    simp -implicitDefEqProofs only [go_sem]
theorem c_rpkts2S {l l' : List PkV} (hl : l.length ≤ 1000) (he : eqPks l l') (hz : ∀ p ∈ l, PkSD p) (hz' : ∀ p ∈ l', PkSD p) {u v : V} (hu : IsSl u 3 (pkvs l)) (hv : IsSl v 3 (pkvs l')) (σ : St) : VCalls Tryz.prog 81 [u, v] σ fun r σ' => r = .bool true ∧ σ' = σ := by
  obtain ⟨n1, h1⟩ := hu.ne
  obtain ⟨n2, h2⟩ := hv.ne
  exact (c_rpkts2 n1 false n2 false l l' hl he hz hz' σ).ne ⟨h1, h2, trivial⟩

/-- What comes out is what the document says. -/
structure OutIs (x : RS × V) (r : RS) : Prop where
  n : Eqv x.1.1 r.1
  ok1 : NgOK x.1.1
  ok2 : NgOK r.1
  lo : (x.1.1.ours.length ≤ lim ∧ ∀ o ∈ x.1.1.ours, o.d.length ≤ lim) ∧ (x.1.1.peer.length ≤ lim ∧ ∀ o ∈ x.1.1.peer, o.d.length ≤ lim)
  s : ∃ os os', IsSl x.1.2.1 3 (pkvs os) ∧ IsSl r.2.1 3 (pkvs os') ∧ eqPks os os' ∧ os.length ≤ 1000 ∧ (∀ p ∈ os, PkSD p) ∧ ∀ p ∈ os', PkSD p
  t : ∃ ts, IsSl x.1.2.2 1 (zv64 ts) ∧ IsSl r.2.2 1 (zv64 ts) ∧ ts.length ≤ 1000
  l : ∃ a b c d, x.2 = .sl a b c d
set_option maxHeartbeats 4000000 in
set_option maxRecDepth 20000 in
theorem c_ris14 {x : RS × V} {r : RS} (h : OutIs x r) (σ : St) : VCalls Tryz.prog 30 [roR x, ngv r.1, r.2.1, r.2.2] σ fun y σ' => y = .bool true ∧ σ' = σ := by
  obtain ⟨os, os', hs1, hs2, he, hl, hz, hz'⟩ := h.s
  obtain ⟨ts, ht1, ht2, htl⟩ := h.t
  obtain ⟨l1, l2, l3, l4, hx⟩ := h.l
  have hP := fun σ => c_rpkts2S hl he hz hz' hs1 hs2 σ
  have hI := fun σ => c_rintsS ts htl ht1 ht2 σ
  have hS := fun σ => c_rsame' x.1.1 r.1 h.ok1 h.ok2 h.lo.1.1 h.lo.2.1 h.lo.1.2 h.lo.2.2 σ
  rw [h.n.same] at hS
  have hr : roR x = roV x.1.1 x.1.2.1 x.1.2.2 x.2 := rfl
  rw [hr, hx]
  generalize x.1.1 = o at hS
  generalize r.1 = n at hS
  obtain ⟨s1, s2, e1, _⟩ := hs1
  obtain ⟨s3, s4, e2, _⟩ := hs2
  obtain ⟨t1, t2, e3, _⟩ := ht1
  obtain ⟨t3, t4, e4, _⟩ := ht2
  rw [e1, e2] at hP
  rw [e3, e4] at hI
  rw [e1, e2, e3, e4]
  refine vcalls_intro (C := cfg Tryz.prog [] [] []) (cfg_ok mixed) Tryz.func30 rfl rfl rfl rfl rfl ?_
  unfold ngv ngC at hS
  simp -implicitDefEqProofs only [go_sem, roV, roC, ngv, ngC]
  refine vgo_call rfl rfl rfl rfl (hS _) ?_
  simp -implicitDefEqProofs only [go_sem]
  refine vgo_call rfl rfl rfl rfl (hP _) ?_
  simp -implicitDefEqProofs only [go_sem]
  refine vgo_call rfl rfl rfl rfl (hI _) ?_
  simp -implicitDefEqProofs only [go_sem]

/-! What comes out, one by one. -/
theorem limO {l : List OV} (h : encOK l = true) : l.length ≤ lim ∧ ∀ o ∈ l, o.d.length ≤ lim := by
  have := enc_few h
  exact ⟨by unfold lim; omega, fun x hx => by have := this.2 x hx; unfold lim; omega⟩
def PeerOK (n : NgV) : Prop := NgOK n ∧ n.peer.length ≤ lim ∧ ∀ o ∈ n.peer, o.d.length ≤ lim
theorem peer_ev {n : NgV} (h : PeerOK n) (e : Int) : PeerOK (evN n e) := by
  unfold evN actN
  cases doneB n e
  · exact h
  · simp only [cond_true]
    cases resetB n.a.st (doA n.a e).2.1
    · exact h
    · exact ⟨.inr ⟨rfl, rfl⟩, Nat.zero_le _, fun o ho => by cases ho⟩
theorem out_stay {n : NgV} (h : Good n) (hp : PeerOK n) : OutIs (stayW n, nilV) (stayW n) :=
  ⟨Eqv.refl _, hp.1, hp.1, ⟨limO h.e, hp.2⟩, ⟨[], [], nil_sl 3, nil_sl 3, eqPks_refl _, Nat.zero_le _, fun p hp => (by cases hp), fun p hp => (by cases hp)⟩, ⟨[], nil_sl 1, nil_sl 1, Nat.zero_le _⟩, nil_slE⟩
theorem evO_lenD (n : NgV) (e : Int) (pid : UInt8) (reply : PkV) : (evO n e pid reply).length ≤ 1000 := by
  unfold evO
  cases doneB n e
  · exact Nat.zero_le _
  · have h1 := outsOf_len (evN n e) pid reply (doA n.a e).2.1 _ (Nat.le_refl _)
    rw [List.take_length] at h1
    have := do_len n.a e
    simp only [cond_true]
    omega
theorem evT_lenD (n : NgV) (e : Int) : (evT n e).length ≤ 1000 := by
  unfold evT
  cases doneB n e
  · exact Nat.zero_le _
  · have := told_len (doA n.a e).2.1
    have := do_len n.a e
    simp only [cond_true]
    omega
theorem outOf_okD {n : NgV} (he : encOK n.ours = true) (pid : UInt8) {reply : PkV} (hr : PkSD reply) (x : Int) : ∀ p ∈ outOf n pid reply x, PkSD p := by
  unfold outOf
  intro p hp
  split at hp
  · rw [List.mem_singleton.1 hp]
    refine ⟨.inl rfl, ?_⟩
    unfold encOK at he
    simp only [Bool.and_eq_true, decide_eq_true_eq] at he
    exact he.2
  split at hp
  · rw [List.mem_singleton.1 hp]
    exact ⟨.inr ⟨rfl, rfl⟩, Nat.zero_le _⟩
  split at hp
  · rw [List.mem_singleton.1 hp]
    exact ⟨.inr ⟨rfl, rfl⟩, Nat.zero_le _⟩
  split at hp
  · rw [List.mem_singleton.1 hp]
    exact hr
  · cases hp
theorem evO_okD {n : NgV} (h : Good n) (e : Int) (pid : UInt8) {reply : PkV} (hr : PkSD reply) : ∀ p ∈ evO n e pid reply, PkSD p := by
  unfold evO
  cases doneB n e
  · intro p hp; cases hp
  · intro p hp
    simp only [cond_true] at hp
    unfold outsOf at hp
    obtain ⟨x, _, hx⟩ := List.mem_flatMap.1 hp
    exact outOf_okD (ev_good h e).e pid hr x p hx
theorem zero_SD : PkSD zPk := ⟨.inr ⟨rfl, rfl⟩, Nat.zero_le _⟩
/-- The same but for the protocol that is told. -/
theorem out_ev {n : NgV} (h : Good n) (e : Int) (pid : UInt8) {reply : PkV} (hr : PkSD reply) {m m' : NgV} (hm : Eqv m m') (o1 : NgOK m) (o2 : NgOK m') (lo : (m.ours.length ≤ lim ∧ ∀ o ∈ m.ours, o.d.length ≤ lim) ∧ (m.peer.length ≤ lim ∧ ∀ o ∈ m.peer, o.d.length ≤ lim)) : OutIs ((m, (evW n e pid reply).2), evLR n e) (m', (evW n e pid reply).2) :=
  ⟨hm, o1, o2, lo, ⟨_, _, (ev_sl n e pid reply).1, (ev_sl n e pid reply).1, eqPks_refl _, evO_lenD _ _ _ _, evO_okD h e pid hr, evO_okD h e pid hr⟩, ⟨_, (ev_sl n e pid reply).2, (ev_sl n e pid reply).2, evT_lenD _ _⟩, evLR_sl _ _⟩
theorem out_evN {n : NgV} (h : Good n) (hp : PeerOK n) (e : Int) (pid : UInt8) {reply : PkV} (hr : PkSD reply) : OutIs (evW n e pid reply, evLR n e) (evW n e pid reply) :=
  out_ev h e pid hr (Eqv.refl _) (peer_ev hp e).1 (peer_ev hp e).1 ⟨limO (ev_good h e).e, (peer_ev hp e).2⟩
theorem out_do {n : NgV} (h : Good n) (hp : PeerOK n) (e : Int) : OutIs (doW n e, bif decide (0 ≤ e) && decide (e ≤ 3) then evLR n e else nilV) (doW n e) := by
  unfold doW
  cases decide (0 ≤ e) && decide (e ≤ 3)
  · exact out_stay h hp
  · exact out_evN h hp e 0 zero_SD
theorem out_tick {n : NgV} (h : Good n) (hp : PeerOK n) : OutIs (tickW n, rowL (tickA n.a).2) (tickW n) := by
  have hg := (tick_good h).1
  have hP : PeerOK (tickW n).1 := by
    show PeerOK (actN (withA n (tickA n.a).1) n.a.st (tickA n.a).2)
    unfold actN
    cases resetB n.a.st (tickA n.a).2
    · exact hp
    · exact ⟨.inr ⟨rfl, rfl⟩, Nat.zero_le _, fun o ho => by cases ho⟩
  have hl := tick_len n.a
  have hS : ∀ p ∈ outsOf (actN (withA n (tickA n.a).1) n.a.st (tickA n.a).2) 0 zPk (tickA n.a).2, PkSD p := fun p hp => by
    unfold outsOf at hp
    obtain ⟨x, _, hx⟩ := List.mem_flatMap.1 hp
    exact outOf_okD hg.e 0 zero_SD x p hx
  have hlen := outsOf_len (actN (withA n (tickA n.a).1) n.a.st (tickA n.a).2) 0 zPk (tickA n.a).2 _ (Nat.le_refl _)
  rw [List.take_length] at hlen
  refine ⟨Eqv.refl _, hP.1, hP.1, ⟨limO hg.e, hP.2⟩, ⟨_, _, out_sl _, out_sl _, eqPks_refl _, by omega, hS, hS⟩, ⟨_, tel_sl _, tel_sl _, ?_⟩, ⟨_, _, _, _, rfl⟩⟩
  have := told_len (tickA n.a).2
  omega
theorem same_rc' : ∀ l : List OV, same (l.map rcO) l = true := fun l => by rw [same_rc]; exact same_self l
theorem lim_rc {l : List OV} (h : l.length ≤ lim ∧ ∀ o ∈ l, o.d.length ≤ lim) : (l.map rcO).length ≤ lim ∧ ∀ o ∈ l.map rcO, o.d.length ≤ lim := by
  refine ⟨by rw [List.length_map]; exact h.1, fun o ho => ?_⟩
  obtain ⟨x, hx, rfl⟩ := List.mem_map.1 ho
  exact h.2 x hx
theorem parse_lim {nl : Bool} {d : List UInt8} {l : List OV} (h : parse nl [] d = some l) (hd : d.length ≤ 1496) : l.length ≤ lim ∧ ∀ o ∈ l, o.d.length ≤ lim := by
  have := parse_len h
  exact ⟨by unfold lim; omega, fun x hx => by have := this.2 x hx; unfold lim; omega⟩
theorem rep_S (code id : UInt8) (m : List OV) : PkSD (repP code id m) := ⟨rep_z _ _ _, rep_len _ _ _⟩
theorem req_peer {n : NgV} (hp : PeerOK n) : PeerOK (reqN n) := by
  unfold reqN
  cases n.a.st == 3 <;> exact hp
theorem out_req {n : NgV} (h : Good n) (hp : PeerOK n) (p : PkV) (hd : p.d.length ≤ 1496) : OutIs (rReqW n p) (reqW n p) := by
  unfold rReqW reqW
  cases hq : parse p.nl [] p.d with
  | none => exact out_stay h hp
  | some l =>
    simp only
    obtain ⟨hg, _⟩ := req_good h
    have hP := req_peer hp
    have h69 := ev6_9 (reqN n)
    have h78 := ev7_8 (reqN n)
    have hl := parse_lim hq hd
    have hrs := rep_S (ansP (reqN n).r l (reqN n).naks).1 p.id (ansP (reqN n).r l (reqN n).naks).2
    have hke : reqE (reqN n) l = bif (ansP (reqN n).r l (reqN n).naks).1 == 2 then 6 else 7 := rfl
    rw [hke]
    generalize reqN n = n1 at hg hP h69 h78 hrs
    generalize ansP n1.r l n1.naks = x at hrs
    cases q2 : x.1 == 2
    · simp only [cond_false]
      rw [h78, Bool.false_or]
      cases q9 : decide ((9 : Int) ∈ evL n1 7)
      · simp only [cond_false, Bool.false_and]
        exact out_evN hg hP 7 p.id hrs
      · simp only [cond_true, Bool.true_and]
        cases q3 : x.1 == 3
        · exact out_evN hg hP 7 p.id hrs
        · have he := (ev_good hg 7)
          refine out_ev hg 7 p.id hrs ⟨rfl, rfl, ?_, same_self _, same_self _⟩ (peer_ev hP 7).1 (peer_ev hP 7).1 ⟨limO he.e, (peer_ev hP 7).2⟩
          show min 3 ((evN n1 7).naks + 1) = min ((evN n1 7).naks + 1) 3
          omega
    · simp only [cond_true]
      rw [h69, Bool.or_false]
      cases q8 : decide ((8 : Int) ∈ evL n1 6)
      · exact out_evN hg hP 6 p.id hrs
      · have he := (ev_good hg 6)
        refine out_ev hg 6 p.id hrs ⟨rfl, rfl, rfl, same_self _, same_rc' l⟩ (.inl rfl) ?_ ⟨limO he.e, lim_rc hl⟩
        cases l with
        | nil => exact .inr ⟨rfl, rfl⟩
        | cons x l => exact .inl rfl
theorem evO_flags (n : NgV) (a b : Bool) (e : Int) (pid : UInt8) (reply : PkV) : evO { n with on := a, oc := b } e pid reply = evO n e pid reply := by
  have hd : doneB { n with on := a, oc := b } e = doneB n e := rfl
  unfold evO
  rw [hd]
  cases hq : doneB n e
  · rfl
  · have h1 : evN { n with on := a, oc := b } e = actN (withA { n with on := a, oc := b } (doA n.a e).1) n.a.st (doA n.a e).2.1 := by unfold evN; rw [hd, hq]; rfl
    have h2 : evN n e = actN (withA n (doA n.a e).1) n.a.st (doA n.a e).2.1 := by unfold evN; rw [hq]; rfl
    rw [h1, h2]
    unfold actN
    cases resetB n.a.st (doA n.a e).2.1 <;> rfl
theorem evN_flags (n : NgV) (a b : Bool) (e : Int) : Eqv (evN { n with on := a, oc := b } e) (evN n e) := by
  have hd : doneB { n with on := a, oc := b } e = doneB n e := rfl
  cases hq : doneB n e
  · have h1 : evN { n with on := a, oc := b } e = { n with on := a, oc := b } := by unfold evN; rw [hd, hq]; rfl
    have h2 : evN n e = n := by unfold evN; rw [hq]; rfl
    rw [h1, h2]
    exact ⟨rfl, rfl, rfl, same_self _, same_self _⟩
  · have h1 : evN { n with on := a, oc := b } e = actN (withA { n with on := a, oc := b } (doA n.a e).1) n.a.st (doA n.a e).2.1 := by unfold evN; rw [hd, hq]; rfl
    have h2 : evN n e = actN (withA n (doA n.a e).1) n.a.st (doA n.a e).2.1 := by unfold evN; rw [hq]; rfl
    rw [h1, h2]
    unfold actN
    cases resetB n.a.st (doA n.a e).2.1 <;> exact ⟨rfl, rfl, rfl, same_self _, same_self _⟩
theorem out_nak {n : NgV} (h : Good n) (hp : PeerOK n) (p : PkV) : OutIs (rNakW n p) (nakW n p) := by
  unfold rNakW nakW
  cases hq : parse p.nl [] p.d with
  | none => exact out_stay h hp
  | some l =>
    simp only
    cases p.id == n.a.id
    · exact out_stay h hp
    · simp only [cond_true]
      cases ht : turnP n p.code l with
      | none => exact out_evN h hp 3 p.id zero_SD
      | some x =>
        obtain ⟨o, on, oc⟩ := x
        obtain ⟨g1, g2⟩ := turn_good ⟨h.e, h.o⟩ ht
        simp only
        have hg1 : Good (rNakN n p.code l o) := ⟨h.a, h.k, g1, g2⟩
        have hg2 : Good { n with ours := o, on := on, oc := oc } := ⟨h.a, h.k, g1, g2⟩
        have hp1 : PeerOK (rNakN n p.code l o) := hp
        have hp2 : PeerOK { n with ours := o, on := on, oc := oc } := hp
        have hE := evN_flags { n with ours := o, on := on, oc := oc } (turnG n p.code l).1 (turnG n p.code l).2 9
        have hO := evO_flags { n with ours := o, on := on, oc := oc } (turnG n p.code l).1 (turnG n p.code l).2 9 p.id zPk
        have hT : evT (rNakN n p.code l o) 9 = evT { n with ours := o, on := on, oc := oc } 9 := rfl
        refine ⟨hE, (peer_ev hp1 9).1, (peer_ev hp2 9).1, ⟨limO (ev_good hg1 9).e, (peer_ev hp1 9).2⟩, ⟨_, _, (ev_sl _ 9 p.id zPk).1, (ev_sl _ 9 p.id zPk).1, ?_, evO_lenD _ _ _ _, evO_okD hg1 9 p.id zero_SD, evO_okD hg2 9 p.id zero_SD⟩, ⟨_, (ev_sl _ 9 p.id zPk).2, ?_, evT_lenD _ _⟩, evLR_sl _ _⟩
        · show eqPks (evO { n with ours := o, on := (turnG n p.code l).1, oc := (turnG n p.code l).2 } 9 p.id zPk) _
          have h1 : evO { n with ours := o, on := (turnG n p.code l).1, oc := (turnG n p.code l).2 } 9 p.id zPk = evO { n with ours := o, on := on, oc := oc } 9 p.id zPk := hO
          rw [h1]
          exact eqPks_refl _
        · rw [hT]
          exact (ev_sl _ 9 p.id zPk).2
theorem out_take {n : NgV} (h : Good n) (hp : PeerOK n) (p : PkV) (hd : p.d.length ≤ 1496) : OutIs (rTakeW n p) (takeW n p) := by
  unfold rTakeW takeW
  cases hq : decide (n.a.st ≤ 1)
  · have h2 : 2 ≤ n.a.st := by have := of_decide_eq_false hq; omega
    simp only [cond_false]
    cases !knownC n.r.ip p.code
    · simp only [cond_false]
      unfold rCodeW codeW
      by_cases c1 : p.code = 1
      · rw [if_pos c1, if_pos c1]; exact out_req h hp p hd
      rw [if_neg c1, if_neg c1]
      by_cases c2 : p.code = 2
      · rw [if_pos c2, if_pos c2]
        unfold ackW
        rw [Bool.and_comm]
        cases p.id == n.a.id && decide (encL n.ours = p.d)
        · exact out_stay h hp
        · exact out_evN h hp 8 p.id zero_SD
      rw [if_neg c2, if_neg c2]
      by_cases c3 : p.code = 3 ∨ p.code = 4
      · rw [if_pos c3, if_pos c3]; exact out_nak h hp p
      rw [if_neg c3, if_neg c3]
      by_cases c5 : p.code = 5
      · rw [if_pos c5, if_pos c5]; exact out_evN h hp 10 p.id zero_SD
      rw [if_neg c5, if_neg c5]
      by_cases c6 : p.code = 6
      · rw [if_pos c6, if_pos c6]; exact out_evN h hp 11 p.id zero_SD
      rw [if_neg c6, if_neg c6]
      by_cases c7 : p.code = 7
      · rw [if_pos c7, if_pos c7]; exact out_evN h hp _ p.id zero_SD
      rw [if_neg c7, if_neg c7]
      by_cases c8 : p.code = 8
      · rw [if_pos c8, if_pos c8]; exact out_evN h hp _ p.id zero_SD
      rw [if_neg c8, if_neg c8]
      by_cases c9 : p.code = 9
      · rw [if_pos c9, if_pos c9]
        unfold echoW
        cases h4 : decide (4 ≤ p.d.length)
        · exact out_stay h hp
        · have hl := of_decide_eq_true h4
          refine out_evN h hp 15 p.id (reply := echoP n p) ⟨.inl rfl, ?_⟩
          show (fourB (magicN n) ++ p.d.drop 4).length ≤ 1496
          rw [List.length_append, List.length_drop]
          show 4 + _ ≤ _
          omega
      · rw [if_neg c9, if_neg c9]; exact out_stay h hp
    · simp only [cond_true]
      have hl1 : PkSD (rejR p n.a.id) := ⟨.inl rfl, by show ((pkB p).take 1496).length ≤ 1496; rw [List.length_take]; omega⟩
      have hl2 : PkSD (rejP p n.a.id) := ⟨.inl rfl, by show ((pkB p).take 1496).length ≤ 1496; rw [List.length_take]; omega⟩
      have e1 := code_ev h h2 p.id (rejR p n.a.id)
      have e2 := code_ev h h2 p.id (rejP p n.a.id)
      rw [e1, e2]
      refine ⟨Eqv.refl _, hp.1, hp.1, ⟨limO h.e, hp.2⟩, ⟨[rejR p n.a.id], [rejP p n.a.id], out_sl _, out_sl _, ⟨rfl, fun i a b h1 h2 => ?_⟩, by simp, fun q hq => ?_, fun q hq => ?_⟩, ⟨[], tel_sl _, tel_sl _, Nat.zero_le _⟩, evLR_sl _ _⟩
      · cases i with
        | zero =>
          simp only [List.getElem?_cons_zero, Option.some.injEq] at h1 h2
          rw [← h1, ← h2]
          simp [eqPk, rejR, rejP]
        | succ i => simp at h1
      · rw [List.mem_singleton.1 hq]; exact hl1
      · rw [List.mem_singleton.1 hq]; exact hl2
  · exact out_stay h hp

set_option maxHeartbeats 8000000 in
set_option maxRecDepth 20000 in
theorem c_ldoes (n : NgV) (e : Int) (p : PkV) (hps : n.ps = 2) (hon : n.on = true → n.ours = []) (hp : p.sz = 1) (hc : p.c = false) (σ : St) : VCalls Tryz.prog 6 [ngv n, .int .i64 e, pkv p] σ fun r σ' => r = .bool true ∧ σ' = σ := by
  refine vcalls_intro (C := cfg Tryz.prog [] [] []) (cfg_ok mixed) Tryz.func6 rfl rfl rfl rfl rfl ?_
  have hsm := c_small14 n hps σ
  unfold ngv ngC at hsm
  simp (maxSteps := 1000000) -implicitDefEqProofs only [go_sem, ngv, ngC, pkv, pkC]
  refine vgo_call rfl rfl rfl rfl (c_shown σ) ?_
  simp (maxSteps := 1000000) -implicitDefEqProofs only [go_sem]
  refine vgo_call rfl rfl rfl rfl hsm ?_
  cases h1 : smallN n
  · simp (maxSteps := 1000000) -implicitDefEqProofs only [go_sem, Bool.not_false]
  have hsm2 := h1
  unfold smallN at h1
  simp only [Bool.and_eq_true] at h1
  have hri := c_rright14 n h1.1 σ
  unfold ngv ngC at hri
  simp (maxSteps := 1000000) -implicitDefEqProofs only [go_sem, Bool.not_true]
  refine vgo_call rfl rfl rfl rfl hri ?_
  cases h2 : rightN n
  · simp (maxSteps := 1000000) -implicitDefEqProofs only [go_sem, Bool.not_false]
  have hg := good_of h1.1 h2
  have hpo : PeerOK n := ⟨.inl hps, by have := few_len h1.2; unfold lim; omega, fun o ho => by have := few_data h1.2 o ho; unfold lim; omega⟩
  have e3 : decide ((1496 : Int) < (p.d.length : Int)) = !decide (p.d.length ≤ 1496) := by rw [Bool.eq_iff_iff]; simp; omega
  cases h3 : decide (p.d.length ≤ 1496)
  · simp (maxSteps := 1000000) -implicitDefEqProofs only [go_sem, hp, bv_length, e3, h3, Bool.not_false, Bool.not_true]
  have hd := of_decide_eq_true h3
  have k1 := fun σ => c_ndo n e hg.cnt hg.e σ
  have k2 := fun σ => c_ntick n hg.cnt hg.left.2 hg.e σ
  have k3 := fun σ => c_takeG hg p hp hd σ
  have j1 := fun σ => c_rdo14 n e hg.cnt hg.e σ
  have j2 := fun σ => c_rtick14 hg σ
  have j3 := fun σ => c_rtake14 hg hon p hp hc hd σ
  have i1 := fun σ => c_ris14 (out_do hg hpo e) σ
  have i2 := fun σ => c_ris14 (out_tick hg hpo) σ
  have i3 := fun σ => c_ris14 (out_take hg hpo p hd) σ
  have f1 := do_told hg e
  have f2 := tick_told hg
  have f3 := take_told hg p hd
  obtain ⟨_, os1, ts1, ⟨a1, a2, a3, _⟩, ⟨a4, a5, a6, _⟩, _⟩ := f1
  obtain ⟨_, os2, ts2, ⟨b1, b2, b3, _⟩, ⟨b4, b5, b6, _⟩, _⟩ := f2
  obtain ⟨_, os3, ts3, ⟨d1, d2, d3, _⟩, ⟨d4, d5, d6, _⟩, _⟩ := f3
  obtain ⟨cs1, v1⟩ : ∃ cs, roR (doW n e, bif decide (0 ≤ e) && decide (e ≤ 3) then evLR n e else nilV) = .agg cs := ⟨_, rfl⟩
  rw [v1] at j1 i1
  obtain ⟨cs2, v2⟩ : ∃ cs, roR (tickW n, rowL (tickA n.a).2) = .agg cs := ⟨_, rfl⟩
  rw [v2] at j2 i2
  obtain ⟨cs3, v3⟩ : ∃ cs, roR (rTakeW n p) = .agg cs := ⟨_, rfl⟩
  rw [v3] at j3 i3
  have r1 : rsV (doW n e) = .tup [ngv (doW n e).1, (doW n e).2.1, (doW n e).2.2] := rfl
  have r2 : rsV (tickW n) = .tup [ngv (tickW n).1, (tickW n).2.1, (tickW n).2.2] := rfl
  have r3 : rsV (takeW n p) = .tup [ngv (takeW n p).1, (takeW n p).2.1, (takeW n p).2.2] := rfl
  rw [r1, a3, a6] at k1
  rw [r2, b3, b6] at k2
  rw [r3, d3, d6] at k3
  rw [a3, a6] at i1
  rw [b3, b6] at i2
  rw [d3, d6] at i3
  generalize (doW n e).1 = m1 at k1 i1
  generalize (tickW n).1 = m2 at k2 i2
  generalize (takeW n p).1 = m3 at k3 i3
  unfold ngv ngC at k1 k2 k3 j1 j2 j3 i1 i2 i3
  unfold pkv pkC at k3 j3
  simp (maxSteps := 1000000) -implicitDefEqProofs only [go_sem, hp, bv_length, e3, h3, Bool.not_true]
  rw [hp] at k3 j3
  refine vgo_call rfl rfl rfl rfl (k1 _) ?_
  simp (maxSteps := 1000000) -implicitDefEqProofs only [go_sem]
  refine vgo_call rfl rfl rfl rfl (k2 _) ?_
  simp (maxSteps := 1000000) -implicitDefEqProofs only [go_sem]
  refine vgo_call rfl rfl rfl rfl (k3 _) ?_
  simp (maxSteps := 1000000) -implicitDefEqProofs only [go_sem]
  refine w_walk3 [] [0, 1, 2, 3, 4, 5, 6, 7, 8, 9, 10, 11, 12, 13, 14, 15, 16, 17, 18, 19, 20, 21, 22, 23, 24, 25, 26, 27] [53, 54, 55, 56, 57, 58, 59, 60, 61, 62, 63, 64, 65, 66, 67, 68, 69, 70, 71, 72, 73, 74, 75, 76, 77, 78, 79, 6] [0, 1, 3, 3, 15, 3, 3, 3, 255, 511, 1023, 2047, 4095, 2047, 2047, 2047, 65535, 131071, 262143, 524287, 524287, 2097151, 524287, 524287, 524287, 33554431, 67108863, 134217727] [6] rfl rfl rfl rfl rfl ?_
  simp (maxSteps := 1000000) -implicitDefEqProofs only [go_sem]
  refine vdgo_call rfl rfl rfl rfl (j1 _) ?_
  simp (maxSteps := 1000000) -implicitDefEqProofs only [go_sem]
  refine vdgo_call rfl rfl rfl rfl (i1 _) ?_
  simp (maxSteps := 1000000) -implicitDefEqProofs only [go_sem]
  refine vdgo_call rfl rfl rfl rfl (j2 _) ?_
  simp (maxSteps := 1000000) -implicitDefEqProofs only [go_sem]
  refine vdgo_call rfl rfl rfl rfl (i2 _) ?_
  simp (maxSteps := 1000000) -implicitDefEqProofs only [go_sem]
  refine vdgo_call rfl rfl rfl rfl (j3 _) ?_
  simp (maxSteps := 1000000) -implicitDefEqProofs only [go_sem]
  refine vdgo_call rfl rfl rfl rfl (i3 _) ?_
  simp (maxSteps := 1000000) -implicitDefEqProofs only [go_sem]

end Go.VL

/- The laws' arguments, as values; what the listed package variables hold. Conditions: none. -/
namespace Go.VL
open Go.Proofs

def shBytes : Sh := .sl (.int .u8)
def shOpt : Sh := .st (.pair (.int .u8) (.pair shBytes .nil))
def shOpts : Sh := .sl shOpt
def shU32 : Sh := .int .u32
def shI64 : Sh := .int .i64
def shU8 : Sh := .int .u8
def shRule : Sh := .st (.pair .bool (.pair shU32 (.pair shU32 (.pair shU32 (.pair shU32 .nil)))))
def shAuto : Sh := .st (.pair shI64 (.pair shI64 (.pair shI64 (.pair shU8 .nil))))
def shNego : Sh := .st (.pair shAuto (.pair shRule (.pair shOpts (.pair shI64 (.pair shOpts .nil)))))
def shPkt : Sh := .st (.pair shU8 (.pair shU8 (.pair shBytes .nil)))

theorem wf_u8 {n : Int} (h : (Lit.int .u8 n).wf = true) : ∃ b : UInt8, n = (b.toNat : Int) := by
  have h' : 0 ≤ n ∧ n ≤ 255 := by simpa [Lit.wf, IntKind.min, IntKind.max, IntKind.signed, IntKind.bits] using h
  refine ⟨UInt8.ofNat n.toNat, ?_⟩
  simp
  omega
theorem wf_u32 {n : Int} (h : (Lit.int .u32 n).wf = true) : ∃ b : UInt32, n = (b.toNat : Int) := by
  have h' : 0 ≤ n ∧ n ≤ 4294967295 := by simpa [Lit.wf, IntKind.min, IntKind.max, IntKind.signed, IntKind.bits] using h
  refine ⟨UInt32.ofNat n.toNat, ?_⟩
  simp
  omega

theorem bytes_of {cs : List V} (h : shV shBytes cs) : ∃ nl l, cs = [.sl nl false 1 (bv l)] := by
  rcases h with rfl | ⟨es, rfl, _, h⟩
  · exact ⟨true, [], rfl⟩
  · have key : ∀ es : List V, (∀ x ∈ es, isAggV x = false ∧ shV (.int .u8) x.cells) → ∃ l, es = bv l := by
      intro es
      induction es with
      | nil => exact fun _ => ⟨[], rfl⟩
      | cons x es ih =>
        intro h
        obtain ⟨l, rfl⟩ := ih fun y hy => h y (by simp [hy])
        obtain ⟨h1, n, h2, h3⟩ := h x (by simp)
        obtain ⟨b, rfl⟩ := wf_u8 h3
        refine ⟨b :: l, ?_⟩
        cases x with
        | agg cs => simp [isAggV] at h1
        | _ => simp only [V.cells, List.cons.injEq, and_true] at h2; rw [h2]; rfl
    obtain ⟨l, rfl⟩ := key es h
    exact ⟨false, l, rfl⟩

theorem opt_of {cs : List V} (h : shV shOpt cs) : ∃ o, V.agg cs = ov o := by
  obtain ⟨x, y, rfl, ⟨n, rfl, h1⟩, z, w, rfl, h2, rfl⟩ := h
  obtain ⟨b, rfl⟩ := wf_u8 h1
  obtain ⟨nl, l, rfl⟩ := bytes_of h2
  exact ⟨⟨b, nl, false, l⟩, rfl⟩

theorem opts_of {cs : List V} (h : shV shOpts cs) : ∃ nl l, cs = [.sl nl false 2 (osv l)] ∧ (nl = true → l = []) := by
  rcases h with rfl | ⟨es, rfl, _, h⟩
  · exact ⟨true, [], rfl, fun _ => rfl⟩
  · have key : ∀ es : List V, (∀ x ∈ es, isAggV x = true ∧ shV shOpt x.cells) → ∃ l, es = osv l := by
      intro es
      induction es with
      | nil => exact fun _ => ⟨[], rfl⟩
      | cons x es ih =>
        intro h
        obtain ⟨l, rfl⟩ := ih fun y hy => h y (by simp [hy])
        obtain ⟨h1, h2⟩ := h x (by simp)
        cases x with
        | agg cs =>
          obtain ⟨o, ho⟩ := opt_of h2
          exact ⟨o :: l, by simp only [osv, List.map_cons]; rw [← ho]; rfl⟩
        | _ => simp [isAggV] at h1
    obtain ⟨l, rfl⟩ := key es h
    exact ⟨false, l, rfl, fun h => by cases h⟩

theorem rule_of {cs : List V} (h : shV shRule cs) : ∃ r, cs = rvC r := by
  obtain ⟨x, y, rfl, ⟨ip, rfl⟩, x, y, rfl, ⟨n1, rfl, h1⟩, x, y, rfl, ⟨n2, rfl, h2⟩, x, y, rfl, ⟨n3, rfl, h3⟩, x, y, rfl, ⟨n4, rfl, h4⟩, rfl⟩ := h
  obtain ⟨a1, rfl⟩ := wf_u32 h1
  obtain ⟨a2, rfl⟩ := wf_u32 h2
  obtain ⟨a3, rfl⟩ := wf_u32 h3
  obtain ⟨a4, rfl⟩ := wf_u32 h4
  exact ⟨⟨ip, a1, a2, a3, a4⟩, rfl⟩
theorem auto_of {cs : List V} (h : shV shAuto cs) : ∃ a, cs = auC a := by
  obtain ⟨x, y, rfl, ⟨n1, rfl, _⟩, x, y, rfl, ⟨n2, rfl, _⟩, x, y, rfl, ⟨n3, rfl, _⟩, x, y, rfl, ⟨n4, rfl, h4⟩, rfl⟩ := h
  obtain ⟨a4, rfl⟩ := wf_u8 h4
  exact ⟨⟨n1, n2, n3, a4⟩, rfl⟩
theorem nego_of {cs : List V} (h : shV shNego cs) : ∃ n, cs = ngC n ∧ n.ps = 2 ∧ (n.on = true → n.ours = []) := by
  obtain ⟨x, y, rfl, h1, x, y, rfl, h2, x, y, rfl, h3, x, y, rfl, ⟨k, rfl, _⟩, x, y, rfl, h5, rfl⟩ := h
  obtain ⟨a, rfl⟩ := auto_of h1
  obtain ⟨r, rfl⟩ := rule_of h2
  obtain ⟨on, ours, rfl, hon⟩ := opts_of h3
  obtain ⟨pn, peer, rfl, _⟩ := opts_of h5
  exact ⟨⟨a, r, ours, on, false, k, peer, pn, false, 2⟩, rfl, rfl, hon⟩
theorem pkt_of {cs : List V} (h : shV shPkt cs) : ∃ p, cs = pkC p ∧ p.sz = 1 ∧ p.c = false := by
  obtain ⟨x, y, rfl, ⟨n1, rfl, h1⟩, x, y, rfl, ⟨n2, rfl, h2⟩, x, y, rfl, h3, rfl⟩ := h
  obtain ⟨a1, rfl⟩ := wf_u8 h1
  obtain ⟨a2, rfl⟩ := wf_u8 h2
  obtain ⟨nl, l, rfl⟩ := bytes_of h3
  exact ⟨⟨a1, a2, nl, false, 1, l⟩, rfl, rfl, rfl⟩

section
open Go.ChangeShapes Go.WideShapes Go.Deep Go.RowKit
variable {H : Type} {enc : TypeId × Value → H} {P : Program}
/-- A law's call, out of what is shown of it over values, where the package variables that it looks at hold what they are laid with. -/
theorem law_calls_g {f : FuncId} {ss : List Sh} {ts : List TypeId} (hs : shTs P ss ts = true) (hc : ∀ vs, argsV ss vs → VCalls P f vs [] fun r _ => r = .bool true) {W : World} (hg : GLO (Bad (fun _ => False) []) W) {base : Nat} {args : Array Value} {ds : List (DataW H)} {p : List MemPlace}
    (hv : ∀ (j : Nat) t v, ts[j]? = some t → args.toList[j]? = some v → Value.okWide P W .any base t v) (h : DataW.TrodAll enc P W 0 (fun _ => true) true ts args.toList ds p) (hsz : (DataW.weightsEach P (ts ++ []) (ds ++ [])).all (· ≤ reachBytes) = true) :
    Calls P f args W fun e W' => e = .returned (.bool true) ∧ Below W.heap.size W W' := by
  rw [List.append_nil, List.append_nil] at hsz
  obtain ⟨vs, h1, h2⟩ := args_of hs hv h hsz
  have hR : Rel (fun _ => False) [] [] W := ⟨rfl, fun i j b c d h => (by simp at h), fun i b c h => (by simp at h), fun b h => h.elim, fun i o bm h => (by simp at h), hg⟩
  have := (hc vs h1).2 _ [] W args.toList hR h2
  rw [Array.toArray_toList] at this
  refine this.mono fun e W' ⟨r, u, m', σ', h3, h4, h5, h6, h7⟩ => ?_
  subst h7
  rw [h3, h4.bool_inv]
  exact ⟨rfl, h6.below⟩
end
end Go.VL
namespace Go.Proofs.YtonjofnphkghcaaGreatDoor
open Go.VL Go.ChangeShapes Go.WideShapes Go.RowKit

theorem own : ownKnob Tryz.prog.godebug = none := by kernel_rfl
theorem laidOut : laidOutB Tryz.prog = true := by kernel_rfl

def laidL : List (String × DataW Unit) := [("unicode.White_Space", Rows.laid_unicode_White_Space), ("strings.asciiSpace", Rows.laid_strings_asciiSpace)]
def spaceZ : List Int := (List.range 256).map fun i => bif (Nat.ble 9 i && Nat.ble i 13) || Nat.beq i 32 then 1 else 0
theorem space_data : (Rows.laid_strings_asciiSpace : DataW Unit) = .agg (spaceZ.map fun n => .lit (.int .u8 n)) := by kernel_rfl
theorem space_cell {W : World} (h : laidMetH Tryz.prog laidL W) (r : Nat) (hr : r < 256) : W.cell? ⟨0, r, none⟩ = some (.int .u8 (spaceZ.getD r 0)) := by
  rw [MakeChecks.laidMetH_plain _ _ _ (by kernel_rfl)] at h
  obtain ⟨ps, ⟨_, _, _, _, _, _, _, _, _, _, h2, _⟩, _, _⟩ := h
  obtain ⟨g, t, cs, fuel, p, q, hg, ht, hv, hd, _, _⟩ := h2
  obtain rfl := Option.some.inj ((show Tryz.prog.globalNamed "strings.asciiSpace" = some 0 by kernel_rfl).symm.trans hg)
  obtain rfl := Option.some.inj ((show (Tryz.prog.globals[0]?).map (·.type) = some 271 by kernel_rfl).symm.trans ht)
  rw [space_data] at hd
  obtain ⟨xs, m, _, ex, _, hl, hel⟩ := DataW.trod_array Tryz.underlying271 hd
  have c5 : Tryz.prog.cellsOf 5 = 1 := by kernel_rfl
  have hE := hel r hr
  rw [c5, Nat.mul_one, List.getElem?_eq_getElem (by omega)] at hE
  obtain ⟨z, e1, e2, _⟩ := DataW.trod_int Tryz.underlying5 hE
  have hlen : spaceZ.length = 256 := by kernel_rfl
  have e3 : (xs.map (·.1)) = spaceZ.map fun n => .lit (.int .u8 n) := (DataW.agg.inj (Prod.mk.inj ex).1).symm
  have e4 : (xs.map (·.1))[r]? = (spaceZ.map fun n => (DataW.lit (.int .u8 n) : DataW Unit))[r]? := by rw [e3]
  rw [List.getElem?_map, List.getElem?_map, List.getElem?_eq_getElem (by omega : r < xs.length), List.getElem?_eq_getElem (by omega : r < spaceZ.length), e2] at e4
  have hz : z = spaceZ.getD r 0 := by
    simp only [Option.map_some, Option.some.injEq, DataW.lit.injEq, Lit.int.injEq, true_and] at e4
    rw [e4, List.getD, List.getElem?_eq_getElem (by omega : r < spaceZ.length)]; rfl
  rw [World.var?_cell hg hv r, ← hz]
  have : cs.toList[r]? = some (.int .u8 z) := by
    have h0 : ((cs.toList.drop r).take 1)[0]? = some (.int .u8 z) := by rw [e1]; rfl
    simpa using h0
  simpa using this
theorem globs_space : globs 0 = some (spaceZ.map fun n => .int .u8 n) := by
  unfold spaceZ
  rw [List.map_map]
  show some _ = some _
  congr 1
theorem glo_of {W : World} (h : laidMetH Tryz.prog laidL W) : GLO (Bad (fun _ => False) []) W := by
  intro g cs hg
  match g, hg with
  | 0, hg =>
    rw [globs_space] at hg
    obtain rfl := Option.some.inj hg
    have hlen : spaceZ.length = 256 := by kernel_rfl
    have hB : ∀ b, ¬ Bad (fun _ => False) ([] : Mp) b := by
      rintro b (h | ⟨i, c, h⟩)
      · exact h
      · simp at h
    have h0 := space_cell h 0 (by decide)
    refine .ip _ ⟨0, 0, none⟩ (fun j => .int .u8 (spaceZ.getD j 0)) (fun _ => hB _) (fun _ => ?_) (fun j hj => ?_) fun r v hr => ?_
    · unfold World.cell? at h0
      cases hh : W.heap[0]? with
      | none => simp [hh] at h0
      | some o => exact (Array.getElem?_eq_some_iff.1 hh).1
    · rw [List.length_map, hlen] at hj
      have := space_cell h j hj
      have e : (⟨0, 0, none⟩ : Addr).add j = ⟨0, j, none⟩ := by
        by_cases hz : j = 0
        · subst hz; rfl
        · simp [Addr.add, hz]
      rw [e]
      exact this
    · rw [List.getElem?_map] at hr
      cases hq : spaceZ[r]? with
      | none => rw [hq] at hr; cases hr
      | some z =>
        rw [hq] at hr
        obtain rfl := Option.some.inj hr
        rw [List.getD, hq]
        exact .int _ _
  | g + 1, hg => cases hg

end Go.Proofs.YtonjofnphkghcaaGreatDoor

/- NegoDoes: at every protocol, every event and every packet the law answers true, and leaves its arguments as they were. Conditions: none. -/
namespace Go.Proofs.YtonjofnphkghcaaGreatDoor
open Go.VL Go.ChangeShapes Go.WideShapes Go.RowKit

theorem negoDoes_calls (vs : List V) (h : argsV [shNego, shI64, shPkt] vs) : VCalls Tryz.prog 6 vs [] fun r _ => r = .bool true := by
  obtain ⟨c1, r1, rfl, h1, c2, r2, rfl, ⟨m, rfl, _⟩, c3, r3, rfl, h3, rfl⟩ := h
  obtain ⟨n, rfl, hps, hon⟩ := nego_of h1
  obtain ⟨p, rfl, hp, hc⟩ := pkt_of h3
  exact (c_ldoes n m p hps hon hp hc []).mono fun _ _ h => h.1

set_option maxRecDepth 100000 in
theorem negoDoes_lifted (os : Os) (started : os.Started) (H : Type) (enc : TypeId × Value → H) :
    ReturnsInHanded {} Tryz.checked os 6 .any (fun w args => (Rows.negoDoesSpec.pre enc Tryz.prog Tryz.f6 Rows.negoDoesRow.domain false w args ∧ laidMetH Tryz.prog laidL w) ∧ sizedMet enc Tryz.prog Tryz.f6 (OpenSpec.ofChange Rows.negoDoesSpec) false w args)
      (Rows.negoDoesSpec.post enc Tryz.prog Tryz.f6 false true false false) := by
  refine returnsInHanded_of_change_and (C := Tryz.checked) (X := fun w _ => laidMetH Tryz.prog laidL w) (fun _ _ _ hh h => h.of_heap hh) own started (by kernel_rfl) Tryz.func6
    (ChangeSpec.witness_shaped (enc := enc) (C := Tryz.checked) (os := os) (X := fun w _ => laidMetH Tryz.prog laidL w) false (World.laidAll Tryz.prog os laidL) #[.agg #[.int .i64 0, .int .i64 0, .int .i64 0, .int .u8 0, .bool false, .int .u32 0, .int .u32 0, .int .u32 0, .int .u32 0, .slice none 0 0, .int .i64 0, .slice none 0 0], .int .i64 0, .agg #[.int .u8 0, .int .u8 0, .slice none 0 0]] 8 (World.laidAll_os _ _ _)
      (World.shaped_of_ZipB (by kernel_rfl) (by kernel_rfl)) (by kernel_rfl) (by kernel_rfl) (by kernel_rfl)
      (by rw [MakeChecks.laidMetH_plain _ _ _ (by kernel_rfl)]; exact laidMet_laidAll _ (by kernel_rfl) (by kernel_rfl))) ?_
  intro W base args ds gs before hval0 hW hcnd hsz0 hL _
  have hW' := hW
  obtain ⟨p, q, hA0, hV, rfl, hfz, hnd⟩ := hW
  obtain ⟨rfl, rfl⟩ := trodVars_none hV
  have hval : ∀ (j : Nat) t v, (Tryz.f6.params.toList)[j]? = some t → args.toList[j]? = some v → Value.okWide Tryz.prog W .any base t v := fun j t v h1 h2 => hval0 j t v (by simpa using h1) (by simpa using h2)
  refine (law_calls_g (ss := [shNego, shI64, shPkt]) (by kernel_rfl) negoDoes_calls (glo_of hL) hval hA0 hsz0).mono fun e W' ⟨he, bel⟩ => ?_
  subst he
  have hb := again_of' laidOut bel (by kernel_rfl) hA0
  obtain ⟨v0, vs0, d0, ds0, p0, q0, e0a, rfl, e0b, h0, r0⟩ := trodAll_cons (show DataW.TrodAll enc Tryz.prog W 0 (fun _ => true) true [32, 3, 46] args.toList ds p from hA0)
  obtain ⟨v1, vs1, d1, ds1, p1, q1, e1a, rfl, e1b, h1, r1⟩ := trodAll_cons r0
  obtain ⟨v2, vs2, d2, ds2, p2, q2, e2a, rfl, e2b, h2, r2⟩ := trodAll_cons r1
  obtain ⟨_, rfl, _⟩ := trodAll_nil r2
  exact ⟨_, rfl, _, _, _, [], _, [], hW', trodAll_mk1 (shut_bool Tryz.underlying4 _), hb, rfl, bel.frame _, fun h => by cases h⟩

theorem negoDoes_holds : Rows.NegoDoesSaid :=
  OpenClaim.holds_of_wide 6 Tryz.f6 rfl rfl rfl rfl rfl rfl rfl ⟨rfl, rfl, rfl, rfl, rfl⟩ rfl rfl rfl rfl rfl (by kernel_rfl) Tryz.func6 (by kernel_rfl)
    (of_decide_eq_true (by kernel_rfl)) (by unfold Func.isWrapper; first | (rw [if_pos (by decide +kernel)]; kernel_rfl) | (rw [if_neg (by decide +kernel)]; exact ⟨rfl, rfl⟩))
    (fun os started H enc _ => negoDoes_lifted os started H enc)
theorem negoDoes_card : Rows.NegoDoesCardSaid :=
  Claim7.holds_tied_plain_at .later [] [.listed, .data] true (true, "c0a8c998641c89cad588d90fec08d04a5e256d923978a8ee92bd971b1ad12cd0") false
    negoDoes_holds (fun _ h => by cases h) (by kernel_rfl) (fun _ h => by cases h) negoDoes_row_tie rfl ⟨rfl, rfl⟩ (by kernel_rfl) rfl
    (fun f fn hf hfn => by
      obtain rfl : f = 6 := Option.some.inj ((show Tryz.prog.funcNamed "portreeve/portreevelaw14.NegoDoes" = some 6 by kernel_rfl).symm.trans hf) |>.symm
      obtain rfl : fn = Tryz.f6 := (Option.some.inj (Tryz.func6.symm.trans hfn)).symm
      exact ⟨by kernel_rfl, fun j t ht => by
        have ht : (#[32, 3, 46] : Array TypeId)[j]? = some t := ht
        have hm : t ∈ [32, 3, 46] := by simpa using Array.mem_of_getElem? ht
        have hall : ([32, 3, 46].all fun u => !Tryz.prog.wantsStandIn u) = true := by kernel_rfl
        exact (show Tryz.prog.wantsStandIn t = false by simpa using List.all_eq_true.1 hall t hm)⟩)
    (by kernel_rfl)
#print axioms negoDoes_holds
#print axioms negoDoes_card

end Go.Proofs.YtonjofnphkghcaaGreatDoor
