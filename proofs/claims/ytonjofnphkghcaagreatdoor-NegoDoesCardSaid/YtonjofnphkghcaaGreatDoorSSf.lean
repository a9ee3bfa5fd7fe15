/- Contracts of this program's functions over values, joined texts. Conditions: none. -/
import Derived.Test.YtonjofnphkghcaaGreatDoorSSe
set_option linter.unusedVariables false
set_option linter.unusedSimpArgs false
/- Contracts of this program's functions: what the document's protocols take. Conditions: none. -/
namespace Go.VL
open Go.Proofs

theorem ev_sls (n : NgV) (e : Int) (pid : UInt8) (reply : PkV) : ∃ a s x b t y u v w z, V.sl a false s x = evOV n e pid reply ∧ V.sl b false t y = evTV n e ∧ V.sl u v w z = evLR n e := by
  unfold evOV evTV evLR
  cases doneB n e
  · exact ⟨true, 0, [], true, 0, [], true, false, 0, [], rfl, rfl, rfl⟩
  · exact ⟨_, _, _, _, _, _, _, _, _, _, rfl, rfl, rfl⟩
theorem c_reventX (n : NgV) (reply : PkV) (e : Int) (id : UInt8) (h : 0 ≤ n.a.cnt ∧ n.a.cnt ≤ 5) (hE : encOK n.ours = true) : ∃ a s x b t y u v w z, (∀ σ : St, VCalls Tryz.prog 83 [.agg (ngC n), .int .i64 e, .agg (pkC reply), .int .u8 id.toNat] σ fun r σ' => r = .agg (roC (evN n e) (.sl a false s x) (.sl b false t y) (.sl u v w z)) ∧ σ' = σ) ∧
    V.sl a false s x = evOV n e id reply ∧ V.sl b false t y = evTV n e ∧ V.sl u v w z = evLR n e := by
  obtain ⟨a, s, x, b, t, y, u, v, w, z, e1, e2, e3⟩ := ev_sls n e id reply
  refine ⟨a, s, x, b, t, y, u, v, w, z, fun σ => ?_, e1, e2, e3⟩
  rw [e1, e2, e3]
  exact c_revent n reply e id h hE σ
theorem c_rhasE {n : NgV} {e : Int} {u v : Bool} {w : Nat} {z : List V} (h : V.sl u v w z = evLR n e) (x : Int) (σ : St) : VCalls Tryz.prog 150 [.sl u v w z, .int .i64 x] σ fun r σ' => r = .bool (decide (x ∈ evL n e)) ∧ σ' = σ := by
  rw [h]
  have hl := evL_len n e
  unfold evLR
  cases hd : doneB n e
  · have h2 : evL n e = [] := by unfold evL; rw [hd]; rfl
    rw [h2]
    exact (c_rhas true false [] x (Nat.zero_le _) σ).ne ⟨.nil _ _ _ _, .refl _, trivial⟩
  · have h2 : evL n e = (doA n.a e).2.1 := by unfold evL; rw [hd]; rfl
    rw [h2] at hl ⊢
    exact c_rhasL _ x (by omega) σ

/-! A ConfNak, or a ConfRej. -/
def turnG (n : NgV) (code : UInt8) (l : List OV) : Bool × Bool :=
  bif code == 4 then (bif l.isEmpty then n.on else (l.foldl dropT n.ours).isEmpty, bif l.isEmpty then n.oc else false) else
  bif !n.r.ip && (findO l 5).isSome && (findO n.ours 5).isSome then (false, false) else (n.on, n.oc)
theorem inO_cons (x : OV) (l : List OV) (o : OV) : inO (x :: l) o = ((x.t == o.t) || inO l o) := by
  unfold inO
  have h : findO (x :: l) o.t = bif x.t == o.t then some x else findO l o.t := rfl
  rw [h]
  cases x.t == o.t <;> rfl
theorem drops_keep (l : List OV) : ∀ ours : List OV, l.foldl dropT ours = keepO (inO l) ours := by
  induction l with
  | nil =>
    intro ours
    show ours = ours.filter fun o => !inO [] o
    rw [List.filter_eq_self.2]
    intro o _
    rfl
  | cons x l ih =>
    intro ours
    rw [List.foldl_cons, ih]
    unfold keepO dropT dropO
    rw [List.filter_filter]
    refine List.filter_congr fun o _ => ?_
    rw [inO_cons]
    show ((!inO l o) && (o.t != x.t)) = _
    have : (o.t != x.t) = !(x.t == o.t) := by
      by_cases h : o.t = x.t
      · rw [h]; rfl
      · have h1 : (o.t == x.t) = false := by simpa using h
        have h2 : (x.t == o.t) = false := by simpa using fun e => h e.symm
        rw [bne, h1, h2]
    rw [this]
    cases inO l o <;> cases x.t == o.t <;> rfl
theorem drops_rc (l : List OV) : ∀ ours : List OV, (l.map rcO).foldl dropT ours = l.foldl dropT ours := by
  induction l with
  | nil => exact fun _ => rfl
  | cons x l ih => intro ours; rw [List.map_cons, List.foldl_cons, List.foldl_cons]; exact ih _
theorem turn_rc (r : RV) (nl c : Bool) (ours : List OV) (code : UInt8) (l : List OV) : rturnV r nl c ours code (l.map rcO) = rturnV r nl c ours code l := by
  unfold rturnV
  rw [find_rc, find_rc, drops_rc]
  have : (l.map rcO).isEmpty = l.isEmpty := by cases l <;> rfl
  rw [this]
theorem turn_is (n : NgV) (hon : n.on = true → n.ours = []) (code : UInt8) (l : List OV) : rturnV n.r n.on n.oc n.ours code l = match turnP n code l with
    | none => .tup [.sl n.on n.oc 2 (osv n.ours), .bool false]
    | some x => .tup [.sl (turnG n code l).1 (turnG n code l).2 2 (osv x.1), .bool true] := by
  unfold rturnV turnP turnG
  have hk : (if n.on then [] else keepO (inO l) n.ours) = l.foldl dropT n.ours := by
    rw [drops_keep]
    cases ho : n.on
    · rfl
    · rw [hon ho]; rfl
  cases n.r.ip
  · cases (findO l 3).isSome
    · cases h4 : code == 4
      · cases h3 : code == 3
        · have e3 : (code != 3) = true := by rw [bne, h3]; rfl
          have e4 : (code != 4) = true := by rw [bne, h4]; rfl
          rw [e3, e4]; rfl
        · have e3 : (code != 3) = false := by rw [bne, h3]; rfl
          have e4 : (code != 4) = true := by rw [bne, h4]; rfl
          rw [e3, e4]
          cases (findO l 5).isSome <;> cases (findO n.ours 5).isSome <;> rfl
      · have e4 : (code != 4) = false := by rw [bne, h4]; rfl
        rw [e4, hk]
        cases code != 3 <;> rfl
    · rfl
  · have ha : ((findO l 3).isSome && !true) = false := by cases (findO l 3).isSome <;> rfl
    rw [ha]
    cases h4 : code == 4
    · cases h3 : code == 3
      · have e3 : (code != 3) = true := by rw [bne, h3]; rfl
        have e4 : (code != 4) = true := by rw [bne, h4]; rfl
        rw [e3, e4]; rfl
      · have e3 : (code != 3) = false := by rw [bne, h3]; rfl
        have e4 : (code != 4) = true := by rw [bne, h4]; rfl
        rw [e3, e4]; rfl
    · have e4 : (code != 4) = false := by rw [bne, h4]; rfl
      rw [e4, hk]
      cases code != 3 <;> rfl
def rNakN (n : NgV) (code : UInt8) (l o : List OV) : NgV := { n with ours := o, on := (turnG n code l).1, oc := (turnG n code l).2 }
def rNakW (n : NgV) (p : PkV) : RS × V := match parse p.nl [] p.d with
  | none => (stayW n, nilV)
  | some l => bif p.id == n.a.id then (match turnP n p.code l with
    | none => (evW n 3 p.id zPk, evLR n 3)
    | some x => (evW (rNakN n p.code l x.1) 9 p.id zPk, evLR (rNakN n p.code l x.1) 9)) else (stayW n, nilV)
theorem ro_stay (n : NgV) : roR (stayW n, nilV) = .agg (roC n (.sl true false 0 []) (.sl true false 0 []) (.sl true false 0 [])) := rfl
set_option maxHeartbeats 4000000 in
set_option maxRecDepth 20000 in
theorem c_rans14 {n : NgV} (hg : Good n) (hon : n.on = true → n.ours = []) (p : PkV) (hp : p.sz = 1) (hc : p.c = false) (hd : p.d.length ≤ 1496) (σ : St) : VCalls Tryz.prog 88 [ngv n, pkv p] σ fun r σ' => r = roR (rNakW n p) ∧ σ' = σ := by
  refine vcalls_intro (C := cfg Tryz.prog [] [2] []) (cfg_ok mixed) Tryz.func88 rfl rfl rfl rfl rfl ?_
  have hrd := c_rread p.nl p.d (by omega) σ
  have e1 : ((p.id.toNat : Int) == (n.a.id.toNat : Int)) = (p.id == n.a.id) := toNat_beq _ _
  have hlo : n.ours.length < lim := by have := enc_len hg.e; unfold lim; omega
  simp -implicitDefEqProofs only [go_sem, ngv, ngC, pkv, pkC, hp, hc]
  unfold rNakW
  cases hq : parse p.nl [] p.d with
  | none =>
    rw [hq] at hrd
    unfold readR at hrd
    refine vgo_call rfl rfl rfl rfl hrd ?_
    simp -implicitDefEqProofs only [go_sem, bne]
    rfl
  | some l =>
    rw [hq] at hrd
    unfold readR at hrd
    have hrl := (parse_len hq).1
    refine vgo_call rfl rfl rfl rfl hrd ?_
    simp -implicitDefEqProofs only [go_sem, bne, e1]
    cases q1 : p.id == n.a.id
    · simp -implicitDefEqProofs only [go_sem, Bool.not_false, cond_false]
      rfl
    have htu := fun σ => c_rturn13 n.r n.on n.oc l.isEmpty false n.ours (l.map rcO) p.code hlo (by rw [List.length_map]; omega) σ
    rw [turn_rc, turn_is n hon] at htu
    unfold rv rvC at htu
    simp -implicitDefEqProofs only [go_sem, Bool.not_true, cond_true]
    cases ht : turnP n p.code l with
    | none =>
      rw [ht] at htu
      obtain ⟨a, s, x, b, t, y, u, v, w, z, hev, e1, e2, e3⟩ := c_reventX n zPk 3 p.id hg.cnt hg.e
      have hr : roR (evW n 3 p.id zPk, evLR n 3) = .agg (roC (evN n 3) (.sl a false s x) (.sl b false t y) (.sl u v w z)) := by rw [e1, e2, e3]; rfl
      simp only [hr]
      unfold ngC pkC roC at hev
      unfold roC
      refine vgo_call rfl rfl rfl rfl (htu _) ?_
      simp -implicitDefEqProofs only [go_sem]
      refine vgo_call rfl rfl rfl rfl (hev _) ?_
      simp -implicitDefEqProofs only [go_sem]
    | some o =>
      rw [ht] at htu
      obtain ⟨o1, o2, o3⟩ := o
      have hgo := turn_good ⟨hg.e, hg.o⟩ ht
      obtain ⟨a, s, x, b, t, y, u, v, w, z, hev, e1, e2, e3⟩ := c_reventX (rNakN n p.code l o1) zPk 9 p.id hg.cnt hgo.1
      have hr : roR (evW (rNakN n p.code l o1) 9 p.id zPk, evLR (rNakN n p.code l o1) 9) = .agg (roC (evN (rNakN n p.code l o1) 9) (.sl a false s x) (.sl b false t y) (.sl u v w z)) := by rw [e1, e2, e3]; rfl
      simp only [hr]
      unfold ngC pkC roC at hev
      unfold roC
      refine vgo_call rfl rfl rfl rfl (htu _) ?_
      simp -implicitDefEqProofs only [go_sem]
      refine vgo_call rfl rfl rfl rfl (hev _) ?_
      simp -implicitDefEqProofs only [go_sem]

/-! A ConfReq. -/
def rReqW (n : NgV) (p : PkV) : RS × V := match parse p.nl [] p.d with
  | none => (stayW n, nilV)
  | some l => bif (ansP (reqN n).r l (reqN n).naks).1 == 2 then
      (bif decide ((8 : Int) ∈ evL (reqN n) 6) then (({ evN (reqN n) 6 with naks := 0, peer := l.map rcO, pn := l.isEmpty, pc := false, ps := 2 }, (evW (reqN n) 6 p.id (repP (ansP (reqN n).r l (reqN n).naks).1 p.id (ansP (reqN n).r l (reqN n).naks).2)).2), evLR (reqN n) 6) else
        (evW (reqN n) 6 p.id (repP (ansP (reqN n).r l (reqN n).naks).1 p.id (ansP (reqN n).r l (reqN n).naks).2), evLR (reqN n) 6))
    else (bif decide ((9 : Int) ∈ evL (reqN n) 7) && ((ansP (reqN n).r l (reqN n).naks).1 == 3) then (({ evN (reqN n) 7 with naks := min 3 ((evN (reqN n) 7).naks + 1) }, (evW (reqN n) 7 p.id (repP (ansP (reqN n).r l (reqN n).naks).1 p.id (ansP (reqN n).r l (reqN n).naks).2)).2), evLR (reqN n) 7) else
        (evW (reqN n) 7 p.id (repP (ansP (reqN n).r l (reqN n).naks).1 p.id (ansP (reqN n).r l (reqN n).naks).2), evLR (reqN n) 7))
theorem c_rbytesR (nl c : Bool) (code id : UInt8) {l m : List OV} (hl : l.length ≤ 1000) (hd : ∀ o ∈ l, o.d.length ≤ 253) (h : encOK l = encOK m ∧ encL l = encL m ∧ l.isEmpty = m.isEmpty) (σ : St) : VCalls Tryz.prog 73 [.sl nl c 2 (osv l)] σ fun r σ' => (∃ n : Int, r = .tup [.sl (repP code id m).nl (repP code id m).c (repP code id m).sz (bv (repP code id m).d), .int .i64 n] ∧ n = bif encOK m then 0 else 1) ∧ σ' = σ := by
  refine (c_rbytes nl c l hl hd σ).mono fun r σ' hr => ⟨⟨_, ?_, rfl⟩, hr.2⟩
  rw [hr.1]
  have he : decide ((encL l).length ≤ 1496) = encOK l := by
    unfold encOK
    have : (l.all fun o => decide (o.d.length ≤ 253)) = true := by simpa [List.all_eq_true] using hd
    rw [this, Bool.true_and]
  rw [he, h.1]
  unfold repP
  cases encOK m
  · rfl
  · simp only [cond_true]
    rw [h.2.1, h.2.2]
theorem req_half {n : NgV} (hg : Good n) : (0 ≤ (reqN n).a.cnt ∧ (reqN n).a.cnt ≤ 5) ∧ (0 ≤ (reqN n).naks ∧ (reqN n).naks ≤ 3) ∧ encOK (reqN n).ours = true := ⟨(req_good hg).1.cnt, (req_good hg).1.k, (req_good hg).1.e⟩
set_option maxHeartbeats 8000000 in
set_option maxRecDepth 20000 in
theorem c_rreq14 {n : NgV} (hg : Good n) (p : PkV) (hp : p.sz = 1) (hc : p.c = false) (hd : p.d.length ≤ 1496) (σ : St) : VCalls Tryz.prog 87 [ngv n, pkv p] σ fun r σ' => r = roR (rReqW n p) ∧ σ' = σ := by
  refine vcalls_intro (C := cfg Tryz.prog [] [2] []) (cfg_ok mixed) Tryz.func87 rfl rfl rfl rfl rfl ?_
  have hrd := c_rread p.nl p.d (by omega) σ
  simp -implicitDefEqProofs only [go_sem, ngv, ngC, pkv, pkC, hp, hc]
  unfold rReqW
  cases hq : parse p.nl [] p.d with
  | none =>
    rw [hq] at hrd
    unfold readR at hrd
    refine vgo_call rfl rfl rfl rfl hrd ?_
    simp -implicitDefEqProofs only [go_sem, bne]
    rfl
  | some l =>
    rw [hq] at hrd
    unfold readR at hrd
    obtain ⟨hrl, hrs⟩ := parse_len hq
    obtain ⟨g1, g2, g3⟩ := req_half hg
    refine vgo_call rfl rfl rfl rfl hrd ?_
    simp -implicitDefEqProofs only [go_sem, bne]
    have hn1 : reqN n = bif n.a.st == 3 then { n with naks := 0 } else n := rfl
    have hna : (reqN n).a = n.a := (req_good hg).2
    have han := fun σ => c_ranswer (reqN n).r l.isEmpty false (l.map rcO) (reqN n).naks (by rw [List.length_map]; unfold lim; omega) (fun o ho => by
      obtain ⟨x, hx, rfl⟩ := List.mem_map.1 ho
      have := hrs x hx
      show x.d.length ≤ lim
      unfold lim; omega) σ
    obtain ⟨a1, a2⟩ := ans_rc (reqN n).r l (reqN n).naks
    obtain ⟨s1, s2⟩ := ans_small (reqN n).r (l.map rcO) (reqN n).naks (fun o ho => by
      obtain ⟨x, hx, rfl⟩ := List.mem_map.1 ho
      exact hrs x hx)
    rw [List.length_map] at s1
    have henc := encOK_rc a2
    have hlen4 : l.length * 2 ≤ 1496 := by
      have hh := parse_encOK hq hd
      have h2 := hh.2
      have h3 : 2 * l.length ≤ (encL l).length := by
        clear hq hrd hrl hrs han a1 a2 s1 s2 henc hh h2
        induction l with
        | nil => exact Nat.zero_le _
        | cons o l ih => rw [encL_cons]; simp only [List.length_cons]; omega
      rw [h2] at h3
      omega
    have hby := fun nl c σ => c_rbytesR nl c (ansP (reqN n).r l (reqN n).naks).1 p.id (l := (ansP (reqN n).r (l.map rcO) (reqN n).naks).2) (m := (ansP (reqN n).r l (reqN n).naks).2) (by omega) s2 henc σ
    have hrow : ∃ nl c, ansV l.isEmpty false (ansP (reqN n).r (l.map rcO) (reqN n).naks) = .tup [.int .u8 (ansP (reqN n).r l (reqN n).naks).1.toNat, .sl nl c 2 (osv (ansP (reqN n).r (l.map rcO) (reqN n).naks).2)] := by
      unfold ansV
      rw [a1]
      cases (ansP (reqN n).r l (reqN n).naks).1 == 2
      · exact ⟨_, _, rfl⟩
      · exact ⟨_, _, rfl⟩
    obtain ⟨nl', c', hrow⟩ := hrow
    rw [hrow] at han
    clear hrow
    have hby := hby nl' c'
    generalize hx : ansP (reqN n).r l (reqN n).naks = x at a1 a2 henc hby han
    generalize ansP (reqN n).r (l.map rcO) (reqN n).naks = y at a1 a2 s1 s2 henc hby han
    have t2 : ((x.1.toNat : Int) == 2) = (x.1 == 2) := toNat_beq _ 2
    have t3 : ((x.1.toNat : Int) == 3) = (x.1 == 3) := toNat_beq _ 3
    have hcode := rep_code x.1 p.id x.2
    have cs : (n.a.st == 3) = true ∨ (n.a.st == 3) = false := by cases n.a.st == 3 <;> simp
    have body : ∀ (e : Int), e = (bif x.1 == 2 then 6 else 7) → ∃ a s x' b t y' u v w z, (∀ σ : St, VCalls Tryz.prog 83 [.agg (ngC (reqN n)), .int .i64 e, .agg (pkC (repP x.1 p.id x.2)), .int .u8 p.id.toNat] σ fun r σ' => r = .agg (roC (evN (reqN n) e) (.sl a false s x') (.sl b false t y') (.sl u v w z)) ∧ σ' = σ) ∧
        V.sl a false s x' = evOV (reqN n) e p.id (repP x.1 p.id x.2) ∧ V.sl b false t y' = evTV (reqN n) e ∧ V.sl u v w z = evLR (reqN n) e := fun e _ => c_reventX (reqN n) (repP x.1 p.id x.2) e p.id g1 g3
    have hk7 := (ev_good (req_good hg).1 7).k
    unfold pkC at body
    rw [hcode.1, hcode.2] at body
    have h69 := ev6_9 (reqN n)
    have h78 := ev7_8 (reqN n)
    rcases cs with c3 | c3
    all_goals
      rw [c3] at hn1
      simp only [cond_true, cond_false] at hn1
      have hn1' : reqN n = n ∨ reqN n = { n with naks := 0 } := by first | exact .inl hn1 | exact .inr hn1
      simp -implicitDefEqProofs only [go_sem, c3]
      unfold rv rvC at han
      rw [hn1] at han
      refine vgo_call rfl rfl rfl rfl (han _) ?_
      simp -implicitDefEqProofs only [go_sem]
      refine vgo_call' rfl rfl rfl (hby _) ?_
      rintro r σ' ⟨⟨k, rfl, _⟩, rfl⟩
      refine ⟨rfl, ?_⟩
      simp -implicitDefEqProofs only [go_sem, t2]
      cases q2 : x.1 == 2
      · obtain ⟨a, s, x', b, t, y', u, v, w, z, hev, e1, e2, e3⟩ := body 7 (by rw [q2]; rfl)
        have hh8 := fun σ => c_rhasE e3 8 σ
        have hh9 := fun σ => c_rhasE e3 9 σ
        rw [h78] at hh8
        have hw : (evW (reqN n) 7 p.id (repP x.1 p.id x.2)).2 = (.sl a false s x', .sl b false t y') := by rw [e1, e2]; rfl
        rw [hw, ← e3]
        unfold ngC roC at hev
        generalize hM : evN (reqN n) 7 = M at hev hk7
        have hM2 : (evW (reqN n) 7 p.id (repP x.1 p.id x.2)) = (M, .sl a false s x', .sl b false t y') := by rw [← hM, ← hw]; rfl
        rw [hM2]
        rw [hn1] at hev
        simp -implicitDefEqProofs only [go_sem, cond_false]
        refine vgo_call rfl rfl rfl rfl (hev _) ?_
        simp -implicitDefEqProofs only [go_sem]
        refine vgo_call rfl rfl rfl rfl (hh8 _) ?_
        simp -implicitDefEqProofs only [go_sem]
        refine vgo_call rfl rfl rfl rfl (hh9 _) ?_
        cases q9 : decide ((9 : Int) ∈ evL (reqN n) 7)
        · simp -implicitDefEqProofs only [go_sem, Bool.false_and, cond_false]
          rfl
        cases q3 : x.1 == 3
        · simp -implicitDefEqProofs only [go_sem, t3, q3, Bool.and_false, cond_false]
          rfl
        · have hwk : IntKind.i64.wrap (M.naks + 1) = M.naks + 1 := by rw [IntKind.wrap_i64]; omega
          have hmn : (if M.naks + 1 < 3 then M.naks + 1 else 3) = min 3 (M.naks + 1) := by omega
          simp -implicitDefEqProofs only [go_sem, t3, q3, hwk, hmn, Bool.and_self, cond_true]
          rfl
      · obtain ⟨a, s, x', b, t, y', u, v, w, z, hev, e1, e2, e3⟩ := body 6 (by rw [q2]; rfl)
        have hh8 := fun σ => c_rhasE e3 8 σ
        have hh9 := fun σ => c_rhasE e3 9 σ
        rw [h69] at hh9
        have hw : (evW (reqN n) 6 p.id (repP x.1 p.id x.2)).2 = (.sl a false s x', .sl b false t y') := by rw [e1, e2]; rfl
        rw [hw, ← e3]
        unfold ngC roC at hev
        generalize hM : evN (reqN n) 6 = M at hev
        have hM2 : (evW (reqN n) 6 p.id (repP x.1 p.id x.2)) = (M, .sl a false s x', .sl b false t y') := by rw [← hM, ← hw]; rfl
        rw [hM2]
        rw [hn1] at hev
        simp -implicitDefEqProofs only [go_sem, cond_true]
        refine vgo_call rfl rfl rfl rfl (hev _) ?_
        simp -implicitDefEqProofs only [go_sem]
        refine vgo_call rfl rfl rfl rfl (hh8 _) ?_
        simp -implicitDefEqProofs only [go_sem]
        refine vgo_call rfl rfl rfl rfl (hh9 _) ?_
        cases q8 : decide ((8 : Int) ∈ evL (reqN n) 6)
        · simp -implicitDefEqProofs only [go_sem, cond_false]
          rfl
        · simp -implicitDefEqProofs only [go_sem, cond_true]
          rfl

end Go.VL

/- Contracts of this program's functions: the document's Take; the statement of what a protocol does. Conditions: none. -/
namespace Go.VL
open Go.Proofs

/-- What a packet does, as the document says. -/
def rCodeW (n : NgV) (p : PkV) : RS × V :=
  if p.code = 1 then rReqW n p else if p.code = 2 then (bif decide (encL n.ours = p.d) && p.id == n.a.id then (evW n 8 p.id zPk, evLR n 8) else (stayW n, nilV)) else if p.code = 3 ∨ p.code = 4 then rNakW n p else
  if p.code = 5 then (evW n 10 p.id zPk, evLR n 10) else if p.code = 6 then (evW n 11 p.id zPk, evLR n 11) else
  if p.code = 7 then (evW n (bif mayC p.d then 13 else 14) p.id zPk, evLR n (bif mayC p.d then 13 else 14)) else
  if p.code = 8 then (evW n (bif !decide (p.d.take 2 = [192, 33]) then 13 else 14) p.id zPk, evLR n (bif !decide (p.d.take 2 = [192, 33]) then 13 else 14)) else
  if p.code = 9 then (bif decide (4 ≤ p.d.length) then (evW n 15 p.id (echoP n p), evLR n 15) else (stayW n, nilV)) else (stayW n, nilV)
def rTakeW (n : NgV) (p : PkV) : RS × V := bif decide (n.a.st ≤ 1) then (stayW n, nilV) else bif !knownC n.r.ip p.code then (evW n 12 p.id (rejR p n.a.id), evLR n 12) else rCodeW n p
theorem known_of (ip : Bool) (c : UInt8) : knownC ip c = !(decide ((c.toNat : Int) < 1) || (decide ((11 : Int) < (c.toNat : Int)) || (ip && decide ((7 : Int) < (c.toNat : Int))))) := by
  unfold knownC
  have e1 : decide ((1 : Int) ≤ (c.toNat : Int)) = !decide ((c.toNat : Int) < 1) := by rw [Bool.eq_iff_iff]; simp
  have e2 : decide ((c.toNat : Int) ≤ 11) = !decide ((11 : Int) < (c.toNat : Int)) := by rw [Bool.eq_iff_iff]; simp
  have e3 : decide ((c.toNat : Int) ≤ 7) = !decide ((7 : Int) < (c.toNat : Int)) := by rw [Bool.eq_iff_iff]; simp
  rw [e1]
  cases ip
  · show (_ && decide ((c.toNat : Int) ≤ 11)) = _
    rw [e2]
    cases decide ((c.toNat : Int) < 1) <;> cases decide ((11 : Int) < (c.toNat : Int)) <;> rfl
  · show (_ && decide ((c.toNat : Int) ≤ 7)) = _
    rw [e3]
    cases h1 : decide ((c.toNat : Int) < 1) <;> cases h2 : decide ((11 : Int) < (c.toNat : Int)) <;> cases h3 : decide ((7 : Int) < (c.toNat : Int)) <;> first | rfl | (simp only [decide_eq_true_eq, decide_eq_false_iff_not] at h2 h3; omega)

theorem code_11 {c : UInt8} (hc : 1 ≤ c.toNat ∧ c.toNat ≤ 11) : c = 1 ∨ c = 2 ∨ c = 3 ∨ c = 4 ∨ c = 5 ∨ c = 6 ∨ c = 7 ∨ c = 8 ∨ c = 9 ∨ c = 10 ∨ c = 11 := by
  have hq : ∀ k : Fin 256, 1 ≤ k.val ∧ k.val ≤ 11 → UInt8.ofNat k.val = 1 ∨ UInt8.ofNat k.val = 2 ∨ UInt8.ofNat k.val = 3 ∨ UInt8.ofNat k.val = 4 ∨ UInt8.ofNat k.val = 5 ∨ UInt8.ofNat k.val = 6 ∨ UInt8.ofNat k.val = 7 ∨ UInt8.ofNat k.val = 8 ∨ UInt8.ofNat k.val = 9 ∨ UInt8.ofNat k.val = 10 ∨ UInt8.ofNat k.val = 11 := by decide +kernel
  have h1 := hq ⟨c.toNat, c.toNat_lt⟩ hc
  have e : UInt8.ofNat c.toNat = c := by simp
  simpa only [e] using h1
theorem evLR_sl (n : NgV) (e : Int) : ∃ a b c d, evLR n e = .sl a b c d := by
  unfold evLR
  cases doneB n e
  · exact ⟨_, _, _, _, rfl⟩
  · exact ⟨_, _, _, _, rfl⟩
theorem nil_slE : ∃ a b c d, nilV = .sl a b c d := ⟨_, _, _, _, rfl⟩
theorem rreq_ok (n : NgV) (p : PkV) : RSok (rReqW n p).1 ∧ ∃ a b c d, (rReqW n p).2 = .sl a b c d := by
  unfold rReqW
  cases parse p.nl [] p.d with
  | none => exact ⟨stay_ok n, nil_slE⟩
  | some l =>
    simp only
    cases (ansP (reqN n).r l (reqN n).naks).1 == 2
    · simp only [cond_false]
      cases decide ((9 : Int) ∈ evL (reqN n) 7) && ((ansP (reqN n).r l (reqN n).naks).1 == 3)
      · exact ⟨ev_ok _ _ _ _, evLR_sl _ _⟩
      · exact ⟨ev_ok (reqN n) 7 p.id _, evLR_sl _ _⟩
    · simp only [cond_true]
      cases decide ((8 : Int) ∈ evL (reqN n) 6)
      · exact ⟨ev_ok _ _ _ _, evLR_sl _ _⟩
      · exact ⟨ev_ok (reqN n) 6 p.id _, evLR_sl _ _⟩
theorem rnak_ok (n : NgV) (p : PkV) : RSok (rNakW n p).1 ∧ ∃ a b c d, (rNakW n p).2 = .sl a b c d := by
  unfold rNakW
  cases parse p.nl [] p.d with
  | none => exact ⟨stay_ok n, nil_slE⟩
  | some l =>
    simp only
    cases p.id == n.a.id
    · exact ⟨stay_ok n, nil_slE⟩
    · simp only [cond_true]
      cases turnP n p.code l with
      | none => exact ⟨ev_ok _ _ _ _, evLR_sl _ _⟩
      | some x => exact ⟨ev_ok _ _ _ _, evLR_sl _ _⟩

set_option maxHeartbeats 40000000 in
set_option maxRecDepth 20000 in
theorem c_rtake14 {n : NgV} (hg : Good n) (hon : n.on = true → n.ours = []) (p : PkV) (hp : p.sz = 1) (hc : p.c = false) (hd : p.d.length ≤ 1496) (σ : St) : VCalls Tryz.prog 33 [ngv n, pkv p] σ fun r σ' => r = roR (rTakeW n p) ∧ σ' = σ := by
  refine vcalls_intro (C := cfg Tryz.prog [] [] [167]) (cfg_ok mixed) Tryz.func33 rfl rfl rfl rfl rfl ?_
  have est : decide (n.a.st < 2) = decide (n.a.st ≤ 1) := by rw [Bool.eq_iff_iff]; simp; omega
  have e1 : ((p.id.toNat : Int) == (n.a.id.toNat : Int)) = (p.id == n.a.id) := toNat_beq _ _
  have hreq := fun σ => c_rreq14 hg p hp hc hd σ
  have hans := fun σ => c_rans14 hg hon p hp hc hd σ
  have hrej := fun σ => c_rreject p n.a.id hp hd σ
  have hby := fun σ => c_rbytes n.on n.oc n.ours (enc_few hg.e).1 (enc_few hg.e).2 σ
  have henc : decide ((encL n.ours).length ≤ 1496) = true := by have hE := hg.e; unfold encOK at hE; simp only [Bool.and_eq_true] at hE; exact hE.2
  rw [henc] at hby
  simp only [cond_true] at hby
  have hmg := fun σ => c_rmagic14 n hg.e σ
  have hko := known_of n.r.ip p.code
  have ro_res : ∀ x : RS × V, RSok x.1 → (∃ a b c d, x.2 = .sl a b c d) → ∃ a b c d e f g h i j k l, roR x = .agg (roC x.1.1 (.sl a b c d) (.sl e f g h) (.sl i j k l)) := by
    rintro x ⟨⟨a, b, c, d, h1⟩, ⟨e, f, g, h, h2⟩⟩ ⟨i, j, k, l, h3⟩
    exact ⟨a, b, c, d, e, f, g, h, i, j, k, l, by unfold roR; rw [h1, h2, h3]; rfl⟩
  have evX := fun e reply => c_reventX n reply e p.id hg.cnt hg.e
  have roX : ∀ {e : Int} {reply : PkV} {a s x b t y u v w z}, V.sl a false s x = evOV n e p.id reply → V.sl b false t y = evTV n e → V.sl u v w z = evLR n e → roR (evW n e p.id reply, evLR n e) = .agg (roC (evN n e) (.sl a false s x) (.sl b false t y) (.sl u v w z)) := fun h1 h2 h3 => by rw [h1, h2, h3]; rfl
  unfold pkv pkC at hrej
  unfold ngv ngC pkv pkC at hreq hans
  unfold ngv ngC at hmg
  simp only [hp, hc] at hrej hreq hans
  unfold rTakeW
  simp -implicitDefEqProofs only [go_sem, ngv, ngC, pkv, pkC, hp, hc, est]
  cases q1 : decide (n.a.st ≤ 1)
  case true =>
    simp -implicitDefEqProofs only [go_sem, cond_true]
    rfl
  have rejcase : True := trivial
  cases d1 : decide ((p.code.toNat : Int) < 1)
  case true =>
    rw [d1] at hko
    rw [hko]
    obtain ⟨a, s, x, b, t, y, u, v, w, z, hev, f1, f2, f3⟩ := evX 12 (rejR p n.a.id)
    simp -implicitDefEqProofs only [go_sem, d1, Bool.true_or, Bool.false_or, Bool.or_true, Bool.not_true, Bool.not_false, cond_true, cond_false]
    rw [roX f1 f2 f3]
    unfold ngC pkC roC at hev
    unfold roC
    refine w_walk2 [9] [0, 1, 2, 3, 4, 5, 6, 7, 8, 9] [33, 34, 35, 36, 37, 38, 39, 40, 41] [0, 0, 0, 4, 12, 30, 0, 64, 255, 511] rfl rfl rfl rfl ?_
    simp -implicitDefEqProofs only [go_sem, d1]
    refine vdgo_call rfl rfl rfl rfl (hrej _) ?_
    simp -implicitDefEqProofs only [go_sem, pkv, pkC, d1]
    refine vdgo_call rfl rfl rfl rfl (hev _) ?_
    simp -implicitDefEqProofs only [go_sem]
  cases d2 : decide ((11 : Int) < (p.code.toNat : Int))
  case true =>
    rw [d1, d2] at hko
    rw [hko]
    obtain ⟨a, s, x, b, t, y, u, v, w, z, hev, f1, f2, f3⟩ := evX 12 (rejR p n.a.id)
    simp -implicitDefEqProofs only [go_sem, d1, d2, Bool.true_or, Bool.false_or, Bool.or_true, Bool.not_true, Bool.not_false, cond_true, cond_false]
    rw [roX f1 f2 f3]
    unfold ngC pkC roC at hev
    unfold roC
    refine w_walk2 [9] [0, 1, 2, 3, 4, 5, 6, 7, 8, 9] [33, 34, 35, 36, 37, 38, 39, 40, 41] [0, 0, 0, 4, 12, 30, 0, 64, 255, 511] rfl rfl rfl rfl ?_
    simp -implicitDefEqProofs only [go_sem, d1, d2]
    refine vdgo_call rfl rfl rfl rfl (hrej _) ?_
    simp -implicitDefEqProofs only [go_sem, pkv, pkC, d1, d2]
    refine vdgo_call rfl rfl rfl rfl (hev _) ?_
    simp -implicitDefEqProofs only [go_sem]
  cases hi : n.r.ip
  case false =>
    rw [d1, d2, hi] at hko
    have hkn : knownC false p.code = true := by rw [hko]; rfl
    have hb := known_b hkn
    have hcs : p.code = 1 ∨ p.code = 2 ∨ p.code = 3 ∨ p.code = 4 ∨ p.code = 5 ∨ p.code = 6 ∨ p.code = 7 ∨ p.code = 8 ∨ p.code = 9 ∨ p.code = 10 ∨ p.code = 11 := code_11 hb
    rw [hkn]
    rw [hi] at hreq hans hmg
    rcases hcs with e | e | e | e | e | e | e | e | e | e | e
    · have hcn : ((p.code.toNat : Nat) : Int) = 1 := by rw [e]; rfl
      rw [hcn] at d1 d2 hreq hans
      have hw : rCodeW n p = rReqW n p := by unfold rCodeW; rw [e]; rfl
      rw [hw]
      simp -implicitDefEqProofs only [go_sem, hcn, hi, d1, d2, Bool.not_true, Bool.not_false, cond_true, cond_false]
      obtain ⟨a1, a2, a3, a4, a5, a6, a7, a8, a9, b1, b2, b3, hro⟩ := ro_res (rReqW n p) (rreq_ok n p).1 (rreq_ok n p).2
      rw [hro] at hreq ⊢
      unfold roC at hreq ⊢
      refine vgo_call rfl rfl rfl rfl (hreq _) ?_
      simp -implicitDefEqProofs only [go_sem]
    · have hcn : ((p.code.toNat : Nat) : Int) = 2 := by rw [e]; rfl
      rw [hcn] at d1 d2 hreq hans
      have hw : rCodeW n p = (bif decide (encL n.ours = p.d) && p.id == n.a.id then (evW n 8 p.id zPk, evLR n 8) else (stayW n, nilV)) := by unfold rCodeW; rw [e]; rfl
      rw [hw]
      simp -implicitDefEqProofs only [go_sem, hcn, hi, d1, d2, Bool.not_true, Bool.not_false, cond_true, cond_false]
      refine vgo_call rfl rfl rfl rfl (hby _) ?_
      simp -implicitDefEqProofs only [go_sem]
      refine vgo_call rfl rfl rfl rfl (c_row _ _ _ _ (encL n.ours) p.d (by have := of_decide_eq_true henc; unfold lim; omega) _) ?_
      cases r1 : decide (encL n.ours = p.d)
      · simp -implicitDefEqProofs only [go_sem, Bool.false_and, cond_false]
        rw [ro_stay]; unfold roC; rw [hi]
      cases r2 : p.id == n.a.id
      · simp -implicitDefEqProofs only [go_sem, e1, r2, Bool.true_and, cond_false]
        rw [ro_stay]; unfold roC; rw [hi]
      simp -implicitDefEqProofs only [go_sem, e1, r2, Bool.true_and, cond_true]
      obtain ⟨a, s, x, b, t, y, u, v, w, z, hev, f1, f2, f3⟩ := evX 8 zPk
      rw [roX f1 f2 f3]
      unfold ngC pkC roC at hev
      rw [hi] at hev
      unfold roC
      refine vgo_call rfl rfl rfl rfl (hev _) ?_
      simp -implicitDefEqProofs only [go_sem]
    · have hcn : ((p.code.toNat : Nat) : Int) = 3 := by rw [e]; rfl
      rw [hcn] at d1 d2 hreq hans
      have hw : rCodeW n p = rNakW n p := by unfold rCodeW; rw [e]; rfl
      rw [hw]
      simp -implicitDefEqProofs only [go_sem, hcn, hi, d1, d2, Bool.not_true, Bool.not_false, cond_true, cond_false]
      obtain ⟨a1, a2, a3, a4, a5, a6, a7, a8, a9, b1, b2, b3, hro⟩ := ro_res (rNakW n p) (rnak_ok n p).1 (rnak_ok n p).2
      rw [hro] at hans ⊢
      unfold roC at hans ⊢
      refine vgo_call rfl rfl rfl rfl (hans _) ?_
      simp -implicitDefEqProofs only [go_sem]
    · have hcn : ((p.code.toNat : Nat) : Int) = 4 := by rw [e]; rfl
      rw [hcn] at d1 d2 hreq hans
      have hw : rCodeW n p = rNakW n p := by unfold rCodeW; rw [e]; rfl
      rw [hw]
      simp -implicitDefEqProofs only [go_sem, hcn, hi, d1, d2, Bool.not_true, Bool.not_false, cond_true, cond_false]
      obtain ⟨a1, a2, a3, a4, a5, a6, a7, a8, a9, b1, b2, b3, hro⟩ := ro_res (rNakW n p) (rnak_ok n p).1 (rnak_ok n p).2
      rw [hro] at hans ⊢
      unfold roC at hans ⊢
      refine vgo_call rfl rfl rfl rfl (hans _) ?_
      simp -implicitDefEqProofs only [go_sem]
    · have hcn : ((p.code.toNat : Nat) : Int) = 5 := by rw [e]; rfl
      rw [hcn] at d1 d2 hreq hans
      have hw : rCodeW n p = (evW n 10 p.id zPk, evLR n 10) := by unfold rCodeW; rw [e]; rfl
      rw [hw]
      simp -implicitDefEqProofs only [go_sem, hcn, hi, d1, d2, Bool.not_true, Bool.not_false, cond_true, cond_false]
      obtain ⟨a, s, x, b, t, y, u, v, w, z, hev, f1, f2, f3⟩ := evX 10 zPk
      rw [roX f1 f2 f3]
      unfold ngC pkC roC at hev
      rw [hi] at hev
      unfold roC
      refine vgo_call rfl rfl rfl rfl (hev _) ?_
      simp -implicitDefEqProofs only [go_sem]
    · have hcn : ((p.code.toNat : Nat) : Int) = 6 := by rw [e]; rfl
      rw [hcn] at d1 d2 hreq hans
      have hw : rCodeW n p = (evW n 11 p.id zPk, evLR n 11) := by unfold rCodeW; rw [e]; rfl
      rw [hw]
      simp -implicitDefEqProofs only [go_sem, hcn, hi, d1, d2, Bool.not_true, Bool.not_false, cond_true, cond_false]
      obtain ⟨a, s, x, b, t, y, u, v, w, z, hev, f1, f2, f3⟩ := evX 11 zPk
      rw [roX f1 f2 f3]
      unfold ngC pkC roC at hev
      rw [hi] at hev
      unfold roC
      refine vgo_call rfl rfl rfl rfl (hev _) ?_
      simp -implicitDefEqProofs only [go_sem]
    · have hcn : ((p.code.toNat : Nat) : Int) = 7 := by rw [e]; rfl
      rw [hcn] at d1 d2 hreq hans
      have hw : rCodeW n p = (evW n (bif mayC p.d then 13 else 14) p.id zPk, evLR n (bif mayC p.d then 13 else 14)) := by unfold rCodeW; rw [e]; rfl
      rw [hw]
      simp -implicitDefEqProofs only [go_sem, hcn, hi, d1, d2, Bool.not_true, Bool.not_false, cond_true, cond_false]
      simp -implicitDefEqProofs only [bv_length]
      cases hdd : p.d with
      | nil =>
        have hm : mayC ([] : List UInt8) = true := rfl
        rw [hm]
        have g0 : decide ((0 : Int) < (((([] : List UInt8).length : Nat)) : Int)) = false := rfl
        have g0' : decide ((0 : Int) < ((0 : Nat) : Int)) = false := rfl
        have g0'' : decide ((0 : Nat) < 0) = false := rfl
        have gl : (bv ([] : List UInt8)).length = 0 := rfl
        simp -implicitDefEqProofs only [go_sem, bv_length, g0, g0', g0'', gl, List.length_nil, cond_true]
        obtain ⟨a, s, x, b, t, y, u, v, w, z, hev, f1, f2, f3⟩ := evX 13 zPk
        rw [roX f1 f2 f3]
        unfold ngC pkC roC at hev
        rw [hi] at hev
        unfold roC
        refine vgo_call rfl rfl rfl rfl (hev _) ?_
        simp -implicitDefEqProofs only [go_sem]
      | cons c0 r0 =>
        have g0 : decide ((0 : Int) < (((c0 :: r0).length : Nat) : Int)) = true := by simp
        have g0' : decide ((0 : Int) < ((r0.length + 1 : Nat) : Int)) = true := by simp
        have g0'' : decide (0 < r0.length + 1) = true := by simp
        have g1 : (bv (c0 :: r0)).getD 0 .undef = .int .u8 c0.toNat := rfl
        have g2 : 0 < (bv (c0 :: r0)).length := by simp [bv]
        have g3 : (0 : Int) < (((bv (c0 :: r0)).length : Nat) : Int) := by omega
        have g4 : decide ((1 : Int) ≤ (c0.toNat : Int)) = !decide ((c0.toNat : Int) < 1) := by rw [Bool.eq_iff_iff]; simp
        have g5 : decide ((c0.toNat : Int) ≤ 7) = !decide ((7 : Int) < (c0.toNat : Int)) := by rw [Bool.eq_iff_iff]; simp
        have hm : mayC (c0 :: r0) = (decide ((c0.toNat : Int) < 1) || decide ((7 : Int) < (c0.toNat : Int))) := rfl
        rw [hm]
        cases m1 : decide ((c0.toNat : Int) < 1)
        · cases m2 : decide ((7 : Int) < (c0.toNat : Int))
          · simp -implicitDefEqProofs only [go_sem, bv_length, g0, g0', g0'', g1, g2, g4, g5, m1, m2, Bool.not_false, Bool.false_or, cond_false]
            first | refine ⟨by omega, by omega, ?_⟩ | refine ⟨by omega, ?_⟩ | skip
            obtain ⟨a, s, x, b, t, y, u, v, w, z, hev, f1, f2, f3⟩ := evX 14 zPk
            rw [roX f1 f2 f3]
            unfold ngC pkC roC at hev
            rw [hi] at hev
            unfold roC
            refine vgo_call rfl rfl rfl rfl (hev _) ?_
            simp -implicitDefEqProofs only [go_sem]
          · simp -implicitDefEqProofs only [go_sem, bv_length, g0, g0', g0'', g1, g2, g4, g5, m1, m2, Bool.not_false, Bool.not_true, Bool.false_or, cond_true]
            first | refine ⟨by omega, by omega, ?_⟩ | refine ⟨by omega, ?_⟩ | skip
            obtain ⟨a, s, x, b, t, y, u, v, w, z, hev, f1, f2, f3⟩ := evX 13 zPk
            rw [roX f1 f2 f3]
            unfold ngC pkC roC at hev
            rw [hi] at hev
            unfold roC
            refine vgo_call rfl rfl rfl rfl (hev _) ?_
            simp -implicitDefEqProofs only [go_sem]
        · simp -implicitDefEqProofs only [go_sem, bv_length, g0, g0', g0'', g1, g2, g4, g5, m1, Bool.not_true, Bool.true_or, cond_true]
          first | refine ⟨by omega, by omega, ?_⟩ | refine ⟨by omega, ?_⟩ | skip
          obtain ⟨a, s, x, b, t, y, u, v, w, z, hev, f1, f2, f3⟩ := evX 13 zPk
          rw [roX f1 f2 f3]
          unfold ngC pkC roC at hev
          rw [hi] at hev
          unfold roC
          refine vgo_call rfl rfl rfl rfl (hev _) ?_
          simp -implicitDefEqProofs only [go_sem]
    · have hcn : ((p.code.toNat : Nat) : Int) = 8 := by rw [e]; rfl
      rw [hcn] at d1 d2 hreq hans
      have hw : rCodeW n p = (evW n (bif !decide (p.d.take 2 = [192, 33]) then 13 else 14) p.id zPk, evLR n (bif !decide (p.d.take 2 = [192, 33]) then 13 else 14)) := by unfold rCodeW; rw [e]; rfl
      rw [hw]
      simp -implicitDefEqProofs only [go_sem, hcn, hi, d1, d2, Bool.not_true, Bool.not_false, cond_true, cond_false]
      simp -implicitDefEqProofs only [bv_length]
      have short : decide ((2 : Int) ≤ (p.d.length : Int)) = false → decide (p.d.take 2 = [192, 33]) = false := fun h => prefix_short (by have := of_decide_eq_false h; omega)
      cases h2 : decide ((2 : Int) ≤ (p.d.length : Int))
      · rw [short h2]
        simp -implicitDefEqProofs only [go_sem, h2, Bool.not_false, cond_true]
        obtain ⟨a, s, x, b, t, y, u, v, w, z, hev, f1, f2, f3⟩ := evX 13 zPk
        rw [roX f1 f2 f3]
        unfold ngC pkC roC at hev
        rw [hi] at hev
        unfold roC
        refine vgo_call rfl rfl rfl rfl (hev _) ?_
        simp -implicitDefEqProofs only [go_sem]
      have hlen : 2 ≤ p.d.length := by have := of_decide_eq_true h2; omega
      have g1 : (bv p.d).getD 0 .undef = .int .u8 (p.d[0]'(by omega)).toNat := bv_getD (by omega)
      have g1' : (bv p.d).getD 1 .undef = .int .u8 (p.d[1]'(by omega)).toNat := bv_getD (by omega)
      have g2 : 0 < (bv p.d).length := by rw [bv_length]; omega
      have g2' : 1 < (bv p.d).length := by rw [bv_length]; omega
      have g3 : (0 : Int) < ((p.d.length : Nat) : Int) := by omega
      have g3' : (1 : Int) < ((p.d.length : Nat) : Int) := by omega
      have k1 : ((((p.d[0]'(by omega)).toNat : Nat) : Int) == 192) = ((p.d[0]'(by omega)) == 192) := toNat_beq _ 192
      have k2 : ((((p.d[1]'(by omega)).toNat : Nat) : Int) == 33) = ((p.d[1]'(by omega)) == 33) := toNat_beq _ 33
      have ht : p.d.take 2 = [p.d[0]'(by omega), p.d[1]'(by omega)] := by
        rw [List.take_succ_eq_append_getElem (by omega : 1 < p.d.length), List.take_succ_eq_append_getElem (by omega : 0 < p.d.length)]
        rfl
      have hdec : decide (p.d.take 2 = [192, 33]) = (((p.d[0]'(by omega)) == 192) && ((p.d[1]'(by omega)) == 33)) := by
        rw [ht, Bool.eq_iff_iff]
        simp
      rw [hdec]
      cases m1 : ((p.d[0]'(by omega)) == 192)
      · simp -implicitDefEqProofs only [go_sem, h2, g1, g2, g3, bv_length, k1, m1, Bool.false_and, Bool.not_false, cond_true]
        first | refine ⟨by omega, ?_⟩ | skip
        obtain ⟨a, s, x, b, t, y, u, v, w, z, hev, f1, f2, f3⟩ := evX 13 zPk
        rw [roX f1 f2 f3]
        unfold ngC pkC roC at hev
        rw [hi] at hev
        unfold roC
        refine vgo_call rfl rfl rfl rfl (hev _) ?_
        simp -implicitDefEqProofs only [go_sem]
      cases m2 : ((p.d[1]'(by omega)) == 33)
      · simp -implicitDefEqProofs only [go_sem, h2, g1, g2, g3, g1', g2', g3', bv_length, k1, m1, k2, m2, Bool.and_false, Bool.not_false, cond_true]
        first | refine ⟨by omega, by omega, ?_⟩ | refine ⟨by omega, ?_⟩ | skip
        obtain ⟨a, s, x, b, t, y, u, v, w, z, hev, f1, f2, f3⟩ := evX 13 zPk
        rw [roX f1 f2 f3]
        unfold ngC pkC roC at hev
        rw [hi] at hev
        unfold roC
        refine vgo_call rfl rfl rfl rfl (hev _) ?_
        simp -implicitDefEqProofs only [go_sem]
      · simp -implicitDefEqProofs only [go_sem, h2, g1, g2, g3, g1', g2', g3', bv_length, k1, m1, k2, m2, Bool.and_self, Bool.not_true, cond_false]
        first | refine ⟨by omega, by omega, ?_⟩ | refine ⟨by omega, ?_⟩ | skip
        obtain ⟨a, s, x, b, t, y, u, v, w, z, hev, f1, f2, f3⟩ := evX 14 zPk
        rw [roX f1 f2 f3]
        unfold ngC pkC roC at hev
        rw [hi] at hev
        unfold roC
        refine vgo_call rfl rfl rfl rfl (hev _) ?_
        simp -implicitDefEqProofs only [go_sem]
    · have hcn : ((p.code.toNat : Nat) : Int) = 9 := by rw [e]; rfl
      rw [hcn] at d1 d2 hreq hans
      have hw : rCodeW n p = (bif decide (4 ≤ p.d.length) then (evW n 15 p.id (echoP n p), evLR n 15) else (stayW n, nilV)) := by unfold rCodeW; rw [e]; rfl
      rw [hw]
      simp -implicitDefEqProofs only [go_sem, hcn, hi, d1, d2, Bool.not_true, Bool.not_false, cond_true, cond_false]
      simp -implicitDefEqProofs only [bv_length]
      have e4 : decide ((4 : Int) ≤ (p.d.length : Int)) = decide (4 ≤ p.d.length) := by rw [Bool.eq_iff_iff]; simp; omega
      cases h4 : decide (4 ≤ p.d.length)
      · simp -implicitDefEqProofs only [go_sem, e4, h4, cond_false]
        rw [ro_stay]; unfold roC; rw [hi]
      have hlen : 4 ≤ p.d.length := of_decide_eq_true h4
      have htd : bv (fourB (magicN n)) ++ List.drop 4 (List.take p.d.length (bv p.d)) = bv (fourB (magicN n) ++ p.d.drop 4) := by
        rw [List.take_of_length_le (Nat.le_of_eq (bv_length p.d))]
        unfold bv
        rw [List.map_append, List.map_drop]
      have hf4 : (bv (fourB (magicN n))).length = 4 := rfl
      simp -implicitDefEqProofs only [go_sem, e4, h4, cond_true]
      obtain ⟨a, s, x, b, t, y, u, v, w, z, hev, f1, f2, f3⟩ := evX 15 (echoP n p)
      rw [roX f1 f2 f3]
      unfold ngC pkC roC at hev
      rw [hi] at hev
      unfold roC
      have hEx : (echoP n p).d = fourB (magicN n) ++ p.d.drop 4 := rfl
      refine w_walk2 [6, 7] [0, 1, 2, 3, 4, 5, 6, 7] [161, 162, 163, 164, 165, 166] [0, 1, 3, 0, 8, 24, 63, 127] rfl rfl rfl rfl ?_
      simp -implicitDefEqProofs only [go_sem]
      refine vdgo_call rfl rfl rfl rfl (hmg _) ?_
      simp -implicitDefEqProofs only [go_sem]
      refine vdgo_call rfl rfl rfl rfl (c_rfour' (magicN n) _) ?_
      simp -implicitDefEqProofs only [go_sem, bv_length, hf4, htd]
      refine ⟨by omega, Nat.le_refl _, by simp [bv]; unfold lim; omega, ?_⟩
      refine vgo_call rfl rfl rfl rfl (hev _) ?_
      simp -implicitDefEqProofs only [go_sem]
    · have hcn : ((p.code.toNat : Nat) : Int) = 10 := by rw [e]; rfl
      rw [hcn] at d1 d2 hreq hans
      have hw : rCodeW n p = (stayW n, nilV) := by unfold rCodeW; rw [e]; rfl
      rw [hw]
      simp -implicitDefEqProofs only [go_sem, hcn, hi, d1, d2, Bool.not_true, Bool.not_false, cond_true, cond_false]
      rw [ro_stay]; unfold roC; rw [hi]
    · have hcn : ((p.code.toNat : Nat) : Int) = 11 := by rw [e]; rfl
      rw [hcn] at d1 d2 hreq hans
      have hw : rCodeW n p = (stayW n, nilV) := by unfold rCodeW; rw [e]; rfl
      rw [hw]
      simp -implicitDefEqProofs only [go_sem, hcn, hi, d1, d2, Bool.not_true, Bool.not_false, cond_true, cond_false]
      rw [ro_stay]; unfold roC; rw [hi]
  cases d3 : decide ((7 : Int) < (p.code.toNat : Int))
  case true =>
    rw [d1, d2, d3, hi] at hko
    rw [hko]
    obtain ⟨a, s, x, b, t, y, u, v, w, z, hev, f1, f2, f3⟩ := evX 12 (rejR p n.a.id)
    simp -implicitDefEqProofs only [go_sem, d1, d2, hi, d3, Bool.true_or, Bool.false_or, Bool.or_true, Bool.and_self, Bool.not_true, Bool.not_false, cond_true, cond_false]
    rw [roX f1 f2 f3]
    unfold ngC pkC roC at hev
    rw [hi] at hev
    unfold roC
    refine w_walk2 [9] [0, 1, 2, 3, 4, 5, 6, 7, 8, 9] [33, 34, 35, 36, 37, 38, 39, 40, 41] [0, 0, 0, 4, 12, 30, 0, 64, 255, 511] rfl rfl rfl rfl ?_
    simp -implicitDefEqProofs only [go_sem]
    refine vdgo_call rfl rfl rfl rfl (hrej _) ?_
    simp -implicitDefEqProofs only [go_sem, pkv, pkC]
    refine vdgo_call rfl rfl rfl rfl (hev _) ?_
    simp -implicitDefEqProofs only [go_sem]
  case false =>
    rw [d1, d2, d3, hi] at hko
    have hkn : knownC true p.code = true := by rw [hko]; rfl
    have hb := known_b hkn
    have hcs : p.code = 1 ∨ p.code = 2 ∨ p.code = 3 ∨ p.code = 4 ∨ p.code = 5 ∨ p.code = 6 ∨ p.code = 7 ∨ p.code = 8 ∨ p.code = 9 ∨ p.code = 10 ∨ p.code = 11 := code_11 hb
    rw [hkn]
    rw [hi] at hreq hans hmg
    rcases hcs with e | e | e | e | e | e | e | e | e | e | e
    · have hcn : ((p.code.toNat : Nat) : Int) = 1 := by rw [e]; rfl
      rw [hcn] at d1 d2 d3 hreq hans
      have hw : rCodeW n p = rReqW n p := by unfold rCodeW; rw [e]; rfl
      rw [hw]
      simp -implicitDefEqProofs only [go_sem, hcn, hi, d1, d2, d3, Bool.not_true, Bool.not_false, cond_true, cond_false]
      obtain ⟨a1, a2, a3, a4, a5, a6, a7, a8, a9, b1, b2, b3, hro⟩ := ro_res (rReqW n p) (rreq_ok n p).1 (rreq_ok n p).2
      rw [hro] at hreq ⊢
      unfold roC at hreq ⊢
      refine vgo_call rfl rfl rfl rfl (hreq _) ?_
      simp -implicitDefEqProofs only [go_sem]
    · have hcn : ((p.code.toNat : Nat) : Int) = 2 := by rw [e]; rfl
      rw [hcn] at d1 d2 d3 hreq hans
      have hw : rCodeW n p = (bif decide (encL n.ours = p.d) && p.id == n.a.id then (evW n 8 p.id zPk, evLR n 8) else (stayW n, nilV)) := by unfold rCodeW; rw [e]; rfl
      rw [hw]
      simp -implicitDefEqProofs only [go_sem, hcn, hi, d1, d2, d3, Bool.not_true, Bool.not_false, cond_true, cond_false]
      refine vgo_call rfl rfl rfl rfl (hby _) ?_
      simp -implicitDefEqProofs only [go_sem]
      refine vgo_call rfl rfl rfl rfl (c_row _ _ _ _ (encL n.ours) p.d (by have := of_decide_eq_true henc; unfold lim; omega) _) ?_
      cases r1 : decide (encL n.ours = p.d)
      · simp -implicitDefEqProofs only [go_sem, Bool.false_and, cond_false]
        rw [ro_stay]; unfold roC; rw [hi]
      cases r2 : p.id == n.a.id
      · simp -implicitDefEqProofs only [go_sem, e1, r2, Bool.true_and, cond_false]
        rw [ro_stay]; unfold roC; rw [hi]
      simp -implicitDefEqProofs only [go_sem, e1, r2, Bool.true_and, cond_true]
      obtain ⟨a, s, x, b, t, y, u, v, w, z, hev, f1, f2, f3⟩ := evX 8 zPk
      rw [roX f1 f2 f3]
      unfold ngC pkC roC at hev
      rw [hi] at hev
      unfold roC
      refine vgo_call rfl rfl rfl rfl (hev _) ?_
      simp -implicitDefEqProofs only [go_sem]
    · have hcn : ((p.code.toNat : Nat) : Int) = 3 := by rw [e]; rfl
      rw [hcn] at d1 d2 d3 hreq hans
      have hw : rCodeW n p = rNakW n p := by unfold rCodeW; rw [e]; rfl
      rw [hw]
      simp -implicitDefEqProofs only [go_sem, hcn, hi, d1, d2, d3, Bool.not_true, Bool.not_false, cond_true, cond_false]
      obtain ⟨a1, a2, a3, a4, a5, a6, a7, a8, a9, b1, b2, b3, hro⟩ := ro_res (rNakW n p) (rnak_ok n p).1 (rnak_ok n p).2
      rw [hro] at hans ⊢
      unfold roC at hans ⊢
      refine vgo_call rfl rfl rfl rfl (hans _) ?_
      simp -implicitDefEqProofs only [go_sem]
    · have hcn : ((p.code.toNat : Nat) : Int) = 4 := by rw [e]; rfl
      rw [hcn] at d1 d2 d3 hreq hans
      have hw : rCodeW n p = rNakW n p := by unfold rCodeW; rw [e]; rfl
      rw [hw]
      simp -implicitDefEqProofs only [go_sem, hcn, hi, d1, d2, d3, Bool.not_true, Bool.not_false, cond_true, cond_false]
      obtain ⟨a1, a2, a3, a4, a5, a6, a7, a8, a9, b1, b2, b3, hro⟩ := ro_res (rNakW n p) (rnak_ok n p).1 (rnak_ok n p).2
      rw [hro] at hans ⊢
      unfold roC at hans ⊢
      refine vgo_call rfl rfl rfl rfl (hans _) ?_
      simp -implicitDefEqProofs only [go_sem]
    · have hcn : ((p.code.toNat : Nat) : Int) = 5 := by rw [e]; rfl
      rw [hcn] at d1 d2 d3 hreq hans
      have hw : rCodeW n p = (evW n 10 p.id zPk, evLR n 10) := by unfold rCodeW; rw [e]; rfl
      rw [hw]
      simp -implicitDefEqProofs only [go_sem, hcn, hi, d1, d2, d3, Bool.not_true, Bool.not_false, cond_true, cond_false]
      obtain ⟨a, s, x, b, t, y, u, v, w, z, hev, f1, f2, f3⟩ := evX 10 zPk
      rw [roX f1 f2 f3]
      unfold ngC pkC roC at hev
      rw [hi] at hev
      unfold roC
      refine vgo_call rfl rfl rfl rfl (hev _) ?_
      simp -implicitDefEqProofs only [go_sem]
    · have hcn : ((p.code.toNat : Nat) : Int) = 6 := by rw [e]; rfl
      rw [hcn] at d1 d2 d3 hreq hans
      have hw : rCodeW n p = (evW n 11 p.id zPk, evLR n 11) := by unfold rCodeW; rw [e]; rfl
      rw [hw]
      simp -implicitDefEqProofs only [go_sem, hcn, hi, d1, d2, d3, Bool.not_true, Bool.not_false, cond_true, cond_false]
      obtain ⟨a, s, x, b, t, y, u, v, w, z, hev, f1, f2, f3⟩ := evX 11 zPk
      rw [roX f1 f2 f3]
      unfold ngC pkC roC at hev
      rw [hi] at hev
      unfold roC
      refine vgo_call rfl rfl rfl rfl (hev _) ?_
      simp -implicitDefEqProofs only [go_sem]
    · have hcn : ((p.code.toNat : Nat) : Int) = 7 := by rw [e]; rfl
      rw [hcn] at d1 d2 d3 hreq hans
      have hw : rCodeW n p = (evW n (bif mayC p.d then 13 else 14) p.id zPk, evLR n (bif mayC p.d then 13 else 14)) := by unfold rCodeW; rw [e]; rfl
      rw [hw]
      simp -implicitDefEqProofs only [go_sem, hcn, hi, d1, d2, d3, Bool.not_true, Bool.not_false, cond_true, cond_false]
      simp -implicitDefEqProofs only [bv_length]
      cases hdd : p.d with
      | nil =>
        have hm : mayC ([] : List UInt8) = true := rfl
        rw [hm]
        have g0 : decide ((0 : Int) < (((([] : List UInt8).length : Nat)) : Int)) = false := rfl
        have g0' : decide ((0 : Int) < ((0 : Nat) : Int)) = false := rfl
        have g0'' : decide ((0 : Nat) < 0) = false := rfl
        have gl : (bv ([] : List UInt8)).length = 0 := rfl
        simp -implicitDefEqProofs only [go_sem, bv_length, g0, g0', g0'', gl, List.length_nil, cond_true]
        obtain ⟨a, s, x, b, t, y, u, v, w, z, hev, f1, f2, f3⟩ := evX 13 zPk
        rw [roX f1 f2 f3]
        unfold ngC pkC roC at hev
        rw [hi] at hev
        unfold roC
        refine vgo_call rfl rfl rfl rfl (hev _) ?_
        simp -implicitDefEqProofs only [go_sem]
      | cons c0 r0 =>
        have g0 : decide ((0 : Int) < (((c0 :: r0).length : Nat) : Int)) = true := by simp
        have g0' : decide ((0 : Int) < ((r0.length + 1 : Nat) : Int)) = true := by simp
        have g0'' : decide (0 < r0.length + 1) = true := by simp
        have g1 : (bv (c0 :: r0)).getD 0 .undef = .int .u8 c0.toNat := rfl
        have g2 : 0 < (bv (c0 :: r0)).length := by simp [bv]
        have g3 : (0 : Int) < (((bv (c0 :: r0)).length : Nat) : Int) := by omega
        have g4 : decide ((1 : Int) ≤ (c0.toNat : Int)) = !decide ((c0.toNat : Int) < 1) := by rw [Bool.eq_iff_iff]; simp
        have g5 : decide ((c0.toNat : Int) ≤ 7) = !decide ((7 : Int) < (c0.toNat : Int)) := by rw [Bool.eq_iff_iff]; simp
        have hm : mayC (c0 :: r0) = (decide ((c0.toNat : Int) < 1) || decide ((7 : Int) < (c0.toNat : Int))) := rfl
        rw [hm]
        cases m1 : decide ((c0.toNat : Int) < 1)
        · cases m2 : decide ((7 : Int) < (c0.toNat : Int))
          · simp -implicitDefEqProofs only [go_sem, bv_length, g0, g0', g0'', g1, g2, g4, g5, m1, m2, Bool.not_false, Bool.false_or, cond_false]
            first | refine ⟨by omega, by omega, ?_⟩ | refine ⟨by omega, ?_⟩ | skip
            obtain ⟨a, s, x, b, t, y, u, v, w, z, hev, f1, f2, f3⟩ := evX 14 zPk
            rw [roX f1 f2 f3]
            unfold ngC pkC roC at hev
            rw [hi] at hev
            unfold roC
            refine vgo_call rfl rfl rfl rfl (hev _) ?_
            simp -implicitDefEqProofs only [go_sem]
          · simp -implicitDefEqProofs only [go_sem, bv_length, g0, g0', g0'', g1, g2, g4, g5, m1, m2, Bool.not_false, Bool.not_true, Bool.false_or, cond_true]
            first | refine ⟨by omega, by omega, ?_⟩ | refine ⟨by omega, ?_⟩ | skip
            obtain ⟨a, s, x, b, t, y, u, v, w, z, hev, f1, f2, f3⟩ := evX 13 zPk
            rw [roX f1 f2 f3]
            unfold ngC pkC roC at hev
            rw [hi] at hev
            unfold roC
            refine vgo_call rfl rfl rfl rfl (hev _) ?_
            simp -implicitDefEqProofs only [go_sem]
        · simp -implicitDefEqProofs only [go_sem, bv_length, g0, g0', g0'', g1, g2, g4, g5, m1, Bool.not_true, Bool.true_or, cond_true]
          first | refine ⟨by omega, by omega, ?_⟩ | refine ⟨by omega, ?_⟩ | skip
          obtain ⟨a, s, x, b, t, y, u, v, w, z, hev, f1, f2, f3⟩ := evX 13 zPk
          rw [roX f1 f2 f3]
          unfold ngC pkC roC at hev
          rw [hi] at hev
          unfold roC
          refine vgo_call rfl rfl rfl rfl (hev _) ?_
          simp -implicitDefEqProofs only [go_sem]
    · exact absurd (of_decide_eq_false d3) (by rw [e]; decide)
    · exact absurd (of_decide_eq_false d3) (by rw [e]; decide)
    · exact absurd (of_decide_eq_false d3) (by rw [e]; decide)
    · exact absurd (of_decide_eq_false d3) (by rw [e]; decide)

end Go.VL
