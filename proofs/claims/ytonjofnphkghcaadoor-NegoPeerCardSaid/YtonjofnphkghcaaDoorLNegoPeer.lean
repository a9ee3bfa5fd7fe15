/- NegoPeer: at every three numbers the law answers true, and leaves its arguments as they were. Conditions: none. -/
import Derived.Test.YtonjofnphkghcaaDoorSSe
import Derived.Test.YtonjofnphkghcaaDoorSSd
set_option linter.unusedVariables false
set_option linter.unusedSimpArgs false
/- Contracts of this program's functions: options read as the document says. Conditions: none. -/
namespace Go.VL
open Go.Proofs

def rcO (o : OV) : OV := { o with c := false }
def readR : Option (List OV) → V
  | some os => .tup [.sl os.isEmpty false 2 (osv (os.map rcO)), .int .i64 0]
  | none => .tup [.sl true false 0 [], .int .i64 2]
theorem same_rc : ∀ l m : List OV, same (l.map rcO) m = same l m
  | [], [] => rfl
  | [], _ :: _ => rfl
  | _ :: _, [] => rfl
  | o :: l, x :: m => by
    rw [List.map_cons]
    show (eqO (rcO o) x && same (l.map rcO) m) = (eqO o x && same l m)
    rw [same_rc l m]
    rfl

set_option maxHeartbeats 1000000 in
set_option maxRecDepth 20000 in
theorem c_rread (nl : Bool) (d : List UInt8) (hd : d.length ≤ 1000000) (σ : St) : VCalls Tryd.prog 16 [.sl nl false 1 (bv d)] σ fun r σ' => r = readR (parse nl [] d) ∧ σ' = σ := by
  refine vcalls_intro (C := cfg Tryd.prog [] [] []) (cfg_ok mixed) Tryd.func16 rfl rfl rfl rfl rfl ?_
  simp -implicitDefEqProofs only [go_sem]
  refine loop_adopt 4 2 σ.length rfl rfl ?_
  refine w_loop (fun s => s.1 ≤ d.length ∧ 2 * s.2.length ≤ s.1 ∧ parse nl s.2 (d.drop s.1) = parse nl [] d) (fun s => [(5, .int .i64 s.1), (4, .rsl σ.length s.2.length 0 s.2.length), (3, .int .i64 0), (2, .sl true false 0 []), (0, .sl nl false 1 (bv d))]) (fun s => σ ++ [.arr s.2.isEmpty s.2.length 2 (osv (s.2.map rcO))]) (fun s => d.length - s.1) ((0, []) : Nat × List OV) ⟨Nat.zero_le _, Nat.le_refl _, rfl⟩ ?_ rfl ?_
  · simp -implicitDefEqProofs only [go_sem]
    rfl
  rintro ⟨i, xs⟩ ⟨hi, hx, hp⟩
  simp only at hi hx hp
  rcases Nat.lt_or_ge i d.length with h | h
  · have hw1 : IntKind.i64.wrap ((i : Int) + 1) = ((i + 1 : Nat) : Int) := wrap_ok (by omega) (by omega)
    rcases Nat.lt_or_ge (i + 1) d.length with h1 | h1
    · have e1 : (((i + 1 : Nat) : Int) == ((d.length : Nat) : Int)) = false := by simp; omega
      have hn8 : d[i + 1].toNat < 256 := d[i + 1].toNat_lt
      have hwn : IntKind.i64.wrap (d[i + 1].toNat : Int) = (d[i + 1].toNat : Int) := wrap_ok (by omega) (by omega)
      have hw2 : IntKind.i64.wrap ((i : Int) + 2) = ((i + 2 : Nat) : Int) := wrap_ok (by omega) (by omega)
      have hw3 : IntKind.i64.wrap ((i : Int) + (d[i + 1].toNat : Int)) = ((i + d[i + 1].toNat : Nat) : Int) := wrap_ok (by omega) (by omega)
      have hdr : d.drop i = d[i] :: d[i + 1] :: d.drop (i + 2) := by rw [List.drop_eq_getElem_cons h, List.drop_eq_getElem_cons h1]
      have hpd := hp
      rw [hdr, parse] at hpd
      have hrl : (d.drop (i + 2)).length = d.length - (i + 2) := List.length_drop
      rw [hrl] at hpd
      simp -implicitDefEqProofs only [go_sem, bv_length, h, hw1, e1, h1, bv_getD h1, hwn]
      cases c2 : decide ((d[i + 1].toNat : Int) < 2)
      · have c2' : ¬ d[i + 1].toNat < 2 := by simp only [decide_eq_false_iff_not] at c2; omega
        simp -implicitDefEqProofs only [go_sem, bv_length, c2, hw3]
        cases c3 : decide (d.length < i + d[i + 1].toNat)
        · have c3' : i + d[i + 1].toNat ≤ d.length := by simp only [decide_eq_false_iff_not] at c3; omega
          rw [if_neg (by omega)] at hpd
          have hlen : (osv (xs.map rcO)).length = xs.length := by simp [osv]
          simp -implicitDefEqProofs only [go_sem, c3]
          refine w_walk2 [14, 15] [0, 1, 2, 3, 4, 5, 6, 7, 8, 9, 10, 11, 12, 13, 14, 15] [32, 33, 34, 35, 36, 37, 38, 39, 40, 41, 42, 43, 44, 45] [0, 0, 0, 6, 14, 0, 0, 64, 0, 0, 768, 2016, 4094, 8190, 16383, 32767] rfl rfl rfl rfl ?_
          simp -implicitDefEqProofs only [go_sem, bv_length, h, bv_getD h, hw2, hw3, hlen, Nat.zero_add, Nat.sub_zero]
          have he : V.agg [.int .u8 d[i].toNat, .sl nl false 1 (List.drop (i + 2) (List.take (i + d[i + 1].toNat) (bv d)))] = ov (rcO (optOf nl d[i] d[i + 1] (d.drop (i + 2)))) := by
            unfold ov rcO optOf
            simp only [V.agg.injEq, List.cons.injEq, V.sl.injEq, true_and, and_true]
            unfold bv
            rw [← List.map_take, ← List.map_drop, List.drop_take]
            congr 2
            omega
          refine ⟨by omega, c3', by unfold lim; omega, l_next (i + d[i + 1].toNat, xs ++ [optOf nl d[i] d[i + 1] (d.drop (i + 2))]) ⟨c3', ?_, ?_⟩ ?_ ?_ ?_⟩
          · simp; omega
          · show parse nl (xs ++ [optOf nl d[i] d[i + 1] (d.drop (i + 2))]) (d.drop (i + d[i + 1].toNat)) = _
            rw [← hpd, List.drop_drop]
            congr 2
            omega
          · show d.length - (i + d[i + 1].toNat) < d.length - i
            omega
          · simp -implicitDefEqProofs only [go_sem, List.length_append, List.length_cons, List.length_nil, Nat.zero_add]
          · simp -implicitDefEqProofs only [go_sem, Bool.false_and, List.map_append, List.map_cons, List.map_nil, osv, he, List.length_append, List.length_cons, List.length_nil, Nat.zero_add]
            have hem : (xs ++ [optOf nl d[i] d[i + 1] (d.drop (i + 2))]).isEmpty = false := by cases xs <;> rfl
            rw [hem]
        · have c3' : d.length < i + d[i + 1].toNat := by have := of_decide_eq_true c3; omega
          rw [if_pos (.inr (by omega))] at hpd
          simp -implicitDefEqProofs only [go_sem, c3]
          refine l_ret ?_
          rw [← hpd]
          simp -implicitDefEqProofs only [go_sem, readR]
      · have c2' : d[i + 1].toNat < 2 := by have := of_decide_eq_true c2; omega
        rw [if_pos (.inl c2')] at hpd
        simp -implicitDefEqProofs only [go_sem, c2]
        refine l_ret ?_
        rw [← hpd]
        simp -implicitDefEqProofs only [go_sem, readR]
    · have e1 : (((i + 1 : Nat) : Int) == ((d.length : Nat) : Int)) = true := by simp; omega
      have hdr : d.drop i = [d[i]] := by
        rw [List.drop_eq_getElem_cons h, List.drop_eq_nil_of_le (by omega)]
      rw [hdr, parse] at hp
      simp -implicitDefEqProofs only [go_sem, bv_length, h, hw1, e1]
      refine l_ret ?_
      rw [← hp]
      simp -implicitDefEqProofs only [go_sem, readR]
  · have hn : ¬ (i < d.length) := by omega
    have hdr : d.drop i = [] := List.drop_eq_nil_of_le h
    rw [hdr, parse] at hp
    simp -implicitDefEqProofs only [go_sem, bv_length, hn]
    refine l_exit ?_
    rw [← hp]
    have htk : (osv (xs.map rcO)).take xs.length = osv (xs.map rcO) := by rw [List.take_of_length_le]; simp [osv]
    simp -implicitDefEqProofs only [go_sem, Nat.sub_zero, readR, htk]

end Go.VL

/- The law NegoAcks, over values. Conditions: none. -/
namespace Go.VL
open Go.Proofs

/-- What may be sent as an answer to a packet. -/
structure SentOK (m : NgV) (p x : PkV) : Prop where
  c2 : x.code = 2 → p.code = 1 ∧ x.id = p.id ∧ x.d = p.d ∧ x.sz = 1
  c1 : x.code = 1 → x.id = m.a.id ∧ x.d = encL m.ours ∧ x.sz = 1 ∧ x.c = false
  cx : x.code = 6 ∨ x.code = 10 ∨ x.code = 3 ∨ x.code = 4 → x.id = p.id
  l : x.d.length ≤ 1496
  z : PkOK x
theorem outs_len (n : NgV) (pid : UInt8) (reply : PkV) (l : List Int) : (outsOf n pid reply l).length ≤ (l.filter sends).length := by
  unfold outsOf
  induction l with
  | nil => exact Nat.le_refl _
  | cons x l ih =>
    rw [List.flatMap_cons, List.length_append, List.filter_cons]
    have h1 := outOf_len n pid reply x
    split
    · rw [List.length_cons]; omega
    · rename_i hx
      have : outOf n pid reply x = [] := by
        unfold sends at hx
        simp only [Bool.or_eq_true, beq_iff_eq, not_or] at hx
        unfold outOf
        rw [if_neg (by omega), if_neg (by omega), if_neg (by omega), if_neg (by omega)]
      rw [this]
      simpa using ih
theorem evO_len (n : NgV) (e : Int) (pid : UInt8) (reply : PkV) : (evO n e pid reply).length ≤ 2 := by
  unfold evO
  cases hd : doneB n e
  · exact Nat.zero_le _
  · simp only [cond_true]
    have hd' : (nextP n.a.st e).2.2 = true := hd
    obtain ⟨hs, he⟩ := next_range hd'
    have hq := next_q hs he
    unfold tabQ at hq
    rw [hd'] at hq
    simp only [cond_true, Bool.and_eq_true, decide_eq_true_eq] at hq
    have := outs_len (evN n e) pid reply (doA n.a e).2.1
    rw [(do_done hd).2] at this ⊢
    exact Nat.le_trans this hq.1.2
theorem out_ok {n m : NgV} {p reply : PkV} (hr : ReplyOK p reply) (hid : n.a.id = m.a.id) (ho : n.ours = m.ours) (hm : Good m) {y : Int} {x : PkV} (h : x ∈ outOf n p.id reply y) : SentOK m p x := by
  have hl : (encL m.ours).length ≤ 1496 := by
    have := hm.e
    unfold encOK at this
    simp only [Bool.and_eq_true, decide_eq_true_eq] at this
    exact this.2
  unfold outOf at h
  split at h
  · rw [List.mem_singleton.1 h]
    refine ⟨fun h => absurd (show (1 : UInt8) = 2 from h) (by decide), fun _ => ⟨hid, ?_, rfl, rfl⟩, fun h => absurd (show (1 : UInt8) = 6 ∨ (1 : UInt8) = 10 ∨ (1 : UInt8) = 3 ∨ (1 : UInt8) = 4 from h) (by decide), ?_, .inl rfl⟩
    · show encL n.ours = _
      rw [ho]
    · show (encL n.ours).length ≤ _
      rw [ho]
      exact hl
  split at h
  · rw [List.mem_singleton.1 h]
    exact ⟨fun h => absurd (show (5 : UInt8) = 2 from h) (by decide), fun h => absurd (show (5 : UInt8) = 1 from h) (by decide), fun h => absurd (show (5 : UInt8) = 6 ∨ (5 : UInt8) = 10 ∨ (5 : UInt8) = 3 ∨ (5 : UInt8) = 4 from h) (by decide), Nat.zero_le _, .inr ⟨rfl, rfl⟩⟩
  split at h
  · rw [List.mem_singleton.1 h]
    exact ⟨fun h => absurd (show (6 : UInt8) = 2 from h) (by decide), fun h => absurd (show (6 : UInt8) = 1 from h) (by decide), fun _ => rfl, Nat.zero_le _, .inr ⟨rfl, rfl⟩⟩
  split at h
  · rw [List.mem_singleton.1 h]
    exact ⟨hr.c2, fun h => absurd h hr.c1, hr.cx, hr.l, hr.z⟩
  · cases h
theorem take_sent {n : NgV} (h : Good n) (p : PkV) (hd : p.d.length ≤ 1496) : Good (takeW n p).1 ∧ ∃ os ts, IsSl (takeW n p).2.1 3 (pkvs os) ∧ IsSl (takeW n p).2.2 1 (zv64 ts) ∧ os.length ≤ 2 ∧ ∀ x ∈ os, SentOK (takeW n p).1 p x := by
  have ht := take_is h p hd
  generalize takeW n p = r at ht
  cases ht with
  | stay => exact ⟨h, [], [], nil_sl 3, nil_sl 1, Nat.zero_le _, fun x h => by cases h⟩
  | ev n0 m e reply h0 ha hr hma hmo hm =>
    refine ⟨hm, _, _, (ev_sl n0 e p.id reply).1, (ev_sl n0 e p.id reply).2, evO_len _ _ _ _, fun x hx => ?_⟩
    unfold evO at hx
    cases hdn : doneB n0 e
    · rw [hdn] at hx; cases hx
    · rw [hdn] at hx
      obtain ⟨y, _, hy⟩ := List.mem_flatMap.1 hx
      exact out_ok hr (by rw [← hma]) hmo.symm hm hy

theorem same_norm' (nl : Bool) (l : List OV) : same ((l.map (normO nl)).map rcO) l = true := by
  rw [same_rc]
  induction l with
  | nil => rfl
  | cons o l ih =>
    rw [List.map_cons]
    show (eqO (normO nl o) o && same (l.map (normO nl)) l) = true
    rw [ih]
    simp [eqO, normO]

set_option maxHeartbeats 4000000 in
set_option maxRecDepth 20000 in
theorem c_lacks (n : NgV) (p : PkV) (hps : n.ps = 2) (hp : p.sz = 1) (σ : St) : VCalls Tryd.prog 4 [ngv n, pkv p] σ fun r σ' => r = .bool true ∧ σ' = σ := by
  refine vcalls_intro (C := cfg Tryd.prog [] [] []) (cfg_ok mixed) Tryd.func4 rfl rfl rfl rfl rfl ?_
  have hsm := c_small14 n hps σ
  simp only [ngv, ngC] at hsm
  simp -implicitDefEqProofs only [go_sem, ngv, ngC, pkv, pkC, hp]
  refine vgo_call rfl rfl rfl rfl (c_shown σ) ?_
  simp -implicitDefEqProofs only [go_sem]
  refine vgo_call rfl rfl rfl rfl hsm ?_
  cases hs : smallN n
  · simp -implicitDefEqProofs only [go_sem]
  have hs' := hs
  unfold smallN at hs'
  simp only [Bool.and_eq_true] at hs'
  obtain ⟨hf1, hf2⟩ := hs'
  have hri := c_rright14 n hf1 σ
  simp only [ngv, ngC] at hri
  simp -implicitDefEqProofs only [go_sem]
  refine vgo_call rfl rfl rfl rfl hri ?_
  cases hr : rightN n
  · simp -implicitDefEqProofs only [go_sem]
  have hg := good_of hf1 hr
  simp -implicitDefEqProofs only [go_sem, bv_length]
  cases hd : decide ((1496 : Int) < (p.d.length : Int))
  · have hd' : p.d.length ≤ 1496 := by simp only [decide_eq_false_iff_not] at hd; omega
    have h3 := c_takeG hg p hp hd' σ
    obtain ⟨g3, os, ts, o3, t3, hol, hox⟩ := take_sent hg p hd'
    generalize takeW n p = w3 at h3 g3 o3 t3 hox
    obtain ⟨m, v3, x3⟩ := w3
    obtain ⟨nl, sz, e3, hsz⟩ := o3
    obtain ⟨nl', sz', f3, _⟩ := t3
    simp only at e3 f3 hox g3
    subst e3 f3
    simp only [rsV, ngv, ngC, pkv, pkC, hp] at h3
    simp -implicitDefEqProofs only [go_sem, hd]
    refine vgo_call rfl rfl rfl rfl h3 ?_
    simp -implicitDefEqProofs only [go_sem]
    refine w_loop (fun i => i ≤ os.length) (fun i => [(9, .int .i64 i), (7, .sl nl false sz (pkvs os)), (6, .cell (ngC m)), (5, .bool true), (4, .bool false), (3, .ip (pkC p)), (2, .ip (ngC n))]) (fun _ => σ) (fun i => os.length - i) 0 (Nat.zero_le _) ?_ rfl ?_
    · simp -implicitDefEqProofs only [go_sem, ngC, pkC, hp]
      rfl
    intro i hi
    rcases Nat.lt_or_ge i os.length with h | h
    · have hw : IntKind.i64.wrap ((i : Int) + 1) = ((i + 1 : Nat) : Int) := wrap_ok (by omega) (by omega)
      have hx := hox os[i] (List.getElem_mem h)
      obtain rfl : sz = 3 := by
        rcases hsz with hsz | ⟨_, hsz⟩
        · exact hsz
        · have := pkvs_length os
          rw [hsz, List.length_nil] at this
          omega
      have hid : (((p.id.toNat : Nat) : Int) == ((p.id.toNat : Nat) : Int)) = true := by simp
      have hid2 : (((m.a.id.toNat : Nat) : Int) == ((m.a.id.toNat : Nat) : Int)) = true := by simp
      have h96 : decide ((1496 : Int) < ((os[i].d.length : Nat) : Int)) = false := by have := hx.l; simp; omega
      simp -implicitDefEqProofs only [go_sem, h, pkvs_length, pkvs_getD h, pkv, pkC, ngC]
      generalize os[i] = x at hx h96
      have t2 : ((x.code.toNat : Int) == 2) = (x.code == 2) := toNat_beq x.code 2
      have t1 : ((x.code.toNat : Int) == 1) = (x.code == 1) := toNat_beq x.code 1
      have t6 : ((x.code.toNat : Int) == 6) = (x.code == 6) := toNat_beq x.code 6
      have t10 : ((x.code.toNat : Int) == 10) = (x.code == 10) := toNat_beq x.code 10
      have t3 : ((x.code.toNat : Int) == 3) = (x.code == 3) := toNat_beq x.code 3
      have t4 : ((x.code.toNat : Int) == 4) = (x.code == 4) := toNat_beq x.code 4
      cases q2 : x.code == 2
      · cases q1 : x.code == 1
        · cases q6 : x.code == 6
          · cases q10 : x.code == 10
            · cases q3 : x.code == 3
              · cases q4 : x.code == 4
                · simp -implicitDefEqProofs only [go_sem, t1, t2, t3, t4, t6, t10, q1, q2, q3, q4, q6, q10, bv_length, h96]
                  refine l_next (i + 1) h (by omega) ?_ rfl
                  simp -implicitDefEqProofs only [go_sem, hw, pkC, ngC, hp]
                · have hxi := hx.cx (.inr (.inr (.inr (by simpa using q4))))
                  simp -implicitDefEqProofs only [go_sem, t1, t2, t3, t4, t6, t10, q1, q2, q3, q4, q6, q10, pkC, hxi, bne, hid, Bool.not_true, bv_length, h96]
                  refine l_next (i + 1) h (by omega) ?_ rfl
                  simp -implicitDefEqProofs only [go_sem, hw, pkC, ngC, hp]
              · have hxi := hx.cx (.inr (.inr (.inl (by simpa using q3))))
                simp -implicitDefEqProofs only [go_sem, t1, t2, t3, t4, t6, t10, q1, q2, q3, q6, q10, pkC, hxi, bne, hid, Bool.not_true, bv_length, h96]
                refine l_next (i + 1) h (by omega) ?_ rfl
                simp -implicitDefEqProofs only [go_sem, hw, pkC, ngC, hp]
            · have hxi := hx.cx (.inr (.inl (by simpa using q10)))
              simp -implicitDefEqProofs only [go_sem, t1, t2, t3, t4, t6, t10, q1, q2, q6, q10, pkC, hxi, bne, hid, Bool.not_true, bv_length, h96]
              refine l_next (i + 1) h (by omega) ?_ rfl
              simp -implicitDefEqProofs only [go_sem, hw, pkC, ngC, hp]
          · have hxi := hx.cx (.inl (by simpa using q6))
            simp -implicitDefEqProofs only [go_sem, t1, t2, t3, t4, t6, t10, q1, q2, q6, pkC, hxi, bne, hid, Bool.not_true, bv_length, h96]
            refine l_next (i + 1) h (by omega) ?_ rfl
            simp -implicitDefEqProofs only [go_sem, hw, pkC, ngC, hp]
        · obtain ⟨b1, b2, b3, b4⟩ := hx.c1 (by simpa using q1)
          have hen := g3.e
          have hda := enc_data' hen
          have hel : m.ours.length ≤ 1000 := (enc_few hen).1
          have hrd := c_rread x.nl x.d (by have := hx.l; omega) σ
          rw [b2, parse_enc x.nl m.ours [] hda, List.nil_append] at hrd
          simp only [readR] at hrd
          have hsa := c_same (m.ours.map (normO x.nl)).isEmpty false m.on m.oc ((m.ours.map (normO x.nl)).map rcO) m.ours (by simp; unfold lim; omega) (fun o ho => by
            obtain ⟨y, hy, rfl⟩ := List.mem_map.1 ho
            obtain ⟨z, hz, rfl⟩ := List.mem_map.1 hy
            have := hda z hz
            show z.d.length ≤ lim
            unfold lim
            omega) σ
          rw [same_norm'] at hsa
          have e0 : ((0 : Int) == 0) = true := rfl
          simp -implicitDefEqProofs only [go_sem, t1, t2, q1, q2, b2, b3, b4]
          refine vgo_call rfl rfl rfl rfl hrd ?_
          simp -implicitDefEqProofs only [go_sem, b1, bne, hid2, e0, Bool.not_true]
          refine vgo_call rfl rfl rfl rfl hsa ?_
          rw [← b2]
          simp -implicitDefEqProofs only [go_sem, bv_length, h96]
          refine l_next (i + 1) h (by omega) ?_ rfl
          simp -implicitDefEqProofs only [go_sem, hw, pkC, ngC, hp]
      · obtain ⟨b1, b2, b3, b4⟩ := hx.c2 (by simpa using q2)
        have hrw := c_row x.nl x.c p.nl p.c x.d p.d (by have := hx.l; unfold lim; omega) σ
        rw [b3] at hrw
        have hpc : ((p.code.toNat : Int) == 1) = true := by rw [b1]; rfl
        have hdd : decide (p.d = p.d) = true := by simp
        rw [hdd] at hrw
        have h96p : decide ((1496 : Int) < ((p.d.length : Nat) : Int)) = false := hd
        simp -implicitDefEqProofs only [go_sem, t2, q2, pkC, hpc, bne, b2, b3, b4, hp, hid, Bool.not_true]
        refine vgo_call rfl rfl rfl rfl hrw ?_
        simp -implicitDefEqProofs only [go_sem, bv_length, h96p]
        refine l_next (i + 1) h (by omega) ?_ rfl
        simp -implicitDefEqProofs only [go_sem, hw, pkC, ngC, hp]
    · have hn : ¬ (i < os.length) := by omega
      have h2 : decide (((os.length : Nat) : Int) ≤ 2) = true := by simp; omega
      simp -implicitDefEqProofs only [go_sem, pkvs_length, hn]
      refine l_exit ?_
      simp -implicitDefEqProofs only [go_sem, pkvs_length, h2]
  · simp -implicitDefEqProofs only [go_sem, hd]

end Go.VL

/- Two protocols that hand over to each other all that they send, in plain Lean. Conditions: none. -/
namespace Go.VL
open Go.Proofs

/-! What a value says is sent. -/
def byteV : V → UInt8
  | .int _ n => UInt8.ofNat n.toNat
  | _ => 0
def unpk : V → PkV
  | .agg [.int _ c, .int _ i, .sl nl cl sz es] => ⟨UInt8.ofNat c.toNat, UInt8.ofNat i.toNat, nl, cl, sz, es.map byteV⟩
  | _ => zPk
theorem unpk_pkv (p : PkV) : unpk (pkv p) = p := by
  cases p
  show PkV.mk _ _ _ _ _ _ = _
  simp only [PkV.mk.injEq, true_and]
  refine ⟨by simp, by simp, ?_⟩
  unfold bv
  rw [List.map_map]
  rename_i d
  induction d with
  | nil => rfl
  | cons b d ih =>
    rw [List.map_cons, ih]
    congr 1
    show UInt8.ofNat ((b.toNat : Int).toNat) = b
    simp
def osOf : V → List PkV
  | .sl _ _ _ es => es.map unpk
  | _ => []
theorem os_of {v : V} {os : List PkV} (h : IsSl v 3 (pkvs os)) : osOf v = os := by
  obtain ⟨nl, s, rfl, _⟩ := h
  show (pkvs os).map unpk = os
  unfold pkvs
  rw [List.map_map]
  conv => rhs; rw [← List.map_id os]
  apply List.map_congr_left
  intro p _
  exact unpk_pkv p

def takeO (n : NgV) (p : PkV) : List PkV := osOf (takeW n p).2.1
def tickO (n : NgV) : List PkV := osOf (tickW n).2.1
/-- A packet that may be handed over. -/
def PkG (p : PkV) : Prop := PkOK p ∧ p.d.length ≤ 1496
theorem take_step {n : NgV} (h : Good n) {p : PkV} (hp : PkG p) : Good (takeW n p).1 ∧ IsSl (takeW n p).2.1 3 (pkvs (takeO n p)) ∧ (∃ ts, IsSl (takeW n p).2.2 1 (zv64 ts)) ∧ (takeO n p).length ≤ 2 ∧ ∀ x ∈ takeO n p, PkG x := by
  obtain ⟨h1, os, ts, h2, h3, h4, h5⟩ := take_sent h p hp.2
  have e : takeO n p = os := os_of h2
  rw [e]
  exact ⟨h1, h2, ⟨ts, h3⟩, h4, fun x hx => ⟨(h5 x hx).z, (h5 x hx).l⟩⟩
theorem tick_step {n : NgV} (h : Good n) : Good (tickW n).1 ∧ IsSl (tickW n).2.1 3 (pkvs (tickO n)) ∧ (∃ ts, IsSl (tickW n).2.2 1 (zv64 ts)) ∧ (tickO n).length ≤ 10 ∧ ∀ x ∈ tickO n, PkG x := by
  obtain ⟨h1, _⟩ := tick_good h
  have h2 : IsSl (tickW n).2.1 3 (pkvs (outsOf (tickW n).1 0 zPk (tickA n.a).2)) := out_sl _
  have e : tickO n = outsOf (tickW n).1 0 zPk (tickA n.a).2 := os_of h2
  rw [e]
  refine ⟨h1, h2, ⟨_, tel_sl _⟩, ?_, fun x hx => ?_⟩
  · have h3 : (tickA n.a).2.length ≤ 10 := by
      unfold tickA
      cases n.a.left == 0
      · cases decide (0 < n.a.left - 1)
        · exact do_len _ _
        · exact Nat.zero_le _
      · exact Nat.zero_le _
    have := outsOf_len (tickW n).1 0 zPk (tickA n.a).2 _ (Nat.le_refl _)
    rw [List.take_length] at this
    omega
  · obtain ⟨y, _, hy⟩ := List.mem_flatMap.1 hx
    have := out_ok (p := zPk) (zero_ok zPk) rfl rfl h1 hy
    exact ⟨this.z, this.l⟩

/-- Packets that are handed over. -/
def recvStep (w : NgV × List PkV) (q : PkV) : NgV × List PkV := ((takeW w.1 q).1, w.2 ++ takeO w.1 q)
def recv (n : NgV) (s : List PkV) : NgV × List PkV := s.foldl recvStep (n, [])
theorem recv_take (n : NgV) {s : List PkV} {i : Nat} (h : i < s.length) : recv n (s.take (i + 1)) = recvStep (recv n (s.take i)) s[i] := by
  unfold recv
  rw [List.take_succ_eq_append_getElem h, List.foldl_append]
  rfl
theorem recv_good {n : NgV} (h : Good n) {s : List PkV} (hs : ∀ q ∈ s, PkG q) : ∀ i, i ≤ s.length → Good (recv n (s.take i)).1 ∧ (recv n (s.take i)).2.length ≤ 2 * i ∧ ∀ x ∈ (recv n (s.take i)).2, PkG x
  | 0, _ => ⟨h, Nat.le_refl _, fun x hx => by cases hx⟩
  | i + 1, hi => by
    obtain ⟨h1, h2, h3⟩ := recv_good h hs i (by omega)
    obtain ⟨g1, _, _, g4, g5⟩ := take_step h1 (hs s[i] (List.getElem_mem _))
    rw [recv_take n hi]
    refine ⟨g1, ?_, fun x hx => ?_⟩
    · show ((recv n (s.take i)).2 ++ takeO _ _).length ≤ _
      rw [List.length_append]
      omega
    · rcases List.mem_append.1 hx with hx | hx
      · exact h3 x hx
      · exact g5 x hx

/-- Two protocols, and what lies between them. -/
abbrev Two := NgV × NgV × List PkV × List PkV
def roundS (w : Two) : Two := ((recv w.1 w.2.2.2).1, (recv w.2.1 w.2.2.1).1, (recv w.1 w.2.2.2).2, (recv w.2.1 w.2.2.1).2)
def rounds (w : Two) : Nat → Two
  | 0 => w
  | n + 1 => roundS (rounds w n)
structure TwoOK (w : Two) (n : Nat) : Prop where
  x : Good w.1
  y : Good w.2.1
  s : ∀ q ∈ w.2.2.1, PkG q
  t : ∀ q ∈ w.2.2.2, PkG q
  ls : w.2.2.1.length ≤ 10 * 2 ^ n
  lt : w.2.2.2.length ≤ 10 * 2 ^ n
theorem round_ok {w : Two} {n : Nat} (h : TwoOK w n) : TwoOK (roundS w) (n + 1) := by
  have h1 := recv_good h.x h.t _ (Nat.le_refl _)
  have h2 := recv_good h.y h.s _ (Nat.le_refl _)
  rw [List.take_length] at h1 h2
  refine ⟨h1.1, h2.1, h1.2.2, h2.2.2, ?_, ?_⟩
  · have := h.lt
    have := h1.2.1
    show (recv w.1 w.2.2.2).2.length ≤ 10 * (2 ^ n * 2)
    omega
  · have := h.ls
    have := h2.2.1
    show (recv w.2.1 w.2.2.1).2.length ≤ 10 * (2 ^ n * 2)
    omega
theorem rounds_ok {w : Two} (h : TwoOK w 0) : ∀ n, TwoOK (rounds w n) n
  | 0 => h
  | n + 1 => round_ok (rounds_ok h n)
def ticked (p : NgV × NgV) : Two := ((tickW p.1).1, (tickW p.2).1, tickO p.1, tickO p.2)
theorem ticked_ok {p : NgV × NgV} (hx : Good p.1) (hy : Good p.2) : TwoOK (ticked p) 0 := by
  obtain ⟨a1, _, _, a4, a5⟩ := tick_step hx
  obtain ⟨b1, _, _, b4, b5⟩ := tick_step hy
  exact ⟨a1, b1, a5, b5, a4, b4⟩
def stepS (p : NgV × NgV) : NgV × NgV := ((rounds (ticked p) 6).1, (rounds (ticked p) 6).2.1)
def steps (p : NgV × NgV) : Nat → NgV × NgV
  | 0 => p
  | i + 1 => stepS (steps p i)
theorem steps_ok {p : NgV × NgV} (hx : Good p.1) (hy : Good p.2) : ∀ i, Good (steps p i).1 ∧ Good (steps p i).2
  | 0 => ⟨hx, hy⟩
  | i + 1 => by
    obtain ⟨h1, h2⟩ := steps_ok hx hy i
    have e : steps p (i + 1) = stepS (steps p i) := by rw [steps]
    rw [e]
    generalize steps p i = q at h1 h2
    have hR := rounds_ok (ticked_ok h1 h2) 6
    unfold stepS
    generalize rounds (ticked q) 6 = w at hR
    exact ⟨hR.x, hR.y⟩
def agreeB (x y : NgV) : Bool := ((steps (x, y) 12).1.a.st == 9) && ((steps (x, y) 12).2.a.st == 9)

end Go.VL

/- Contracts of this program's functions: two protocols that agree. Conditions: none. -/
namespace Go.VL
open Go.Proofs

theorem all_ref {n : Nat} : ∀ {F : Fr}, (F.all fun p => refV n p.2) = true → ∀ t, refV n (lk F t) = true
  | [], _, _ => rfl
  | (k, v) :: F, h, t => by
    simp only [List.all_cons, Bool.and_eq_true] at h
    unfold lk
    cases k.beq t
    · exact all_ref h.2 t
    · exact h.1
theorem exit_row {σ : St} {fr F' : Fr} {t g sz m : Nat} {nl : Bool} {es : List V} (hm : m = es.length) (h : lk fr t = .rsl σ.length g 0 m) (hk : Keeps F' ((t, .sl nl false sz es) :: fr)) (hr : (F'.all fun p => refV σ.length p.2) = true) : Ghost σ fr (σ ++ [.arr nl g sz es]) F' σ := by
  subst hm
  have g1 := Ghost.freeze (σ0 := σ) fr (σ ++ [.arr nl g sz es]) t σ.length g 0 es.length sz nl es h (get_at _ _)
  rw [List.take_length, List.drop_zero, set_at] at g1
  have g2 := keeps_ghost (σ0 := σ) hk (σ ++ [.dead])
  have g3 := Ghost.drop (σ0 := σ) F' (σ ++ [.dead]) σ.length (Nat.le_refl _) (all_ref hr) fun i o hi ho => .inl (by rw [List.getElem?_append_left hi] at ho; exact ho)
  rw [List.take_left'] at g3
  · exact .trans _ _ _ _ _ _ g1 (.trans _ _ _ _ _ _ g2 g3)
  · rfl
theorem c_takeP {n : NgV} (h : Good n) {p : PkV} (hp : PkG p) (σ : St) : VCalls Tryd.prog 13 [ngv n, pkv p] σ fun r σ' => r = rsV (takeW n p) ∧ σ' = σ :=
  (c_takeG h { p with sz := 1 } rfl hp.2 σ).ne ⟨.refl _, pk_ne hp.1, trivial⟩

set_option maxHeartbeats 4000000 in
set_option maxRecDepth 20000 in
theorem c_agree (x y : NgV) (hx : Good x) (hy : Good y) (σ : St) : VCalls Tryd.prog 21 [ngv x, ngv y] σ fun r σ' => r = .bool (agreeB x y) ∧ σ' = σ := by
  refine vcalls_intro (C := cfg Tryd.prog [] [2, 3] []) (cfg_ok mixed) Tryd.func21 rfl rfl rfl rfl rfl ?_
  simp -implicitDefEqProofs only [go_sem, ngv, ngC]
  refine w_loop (fun i : Nat => i ≤ 12) (fun i : Nat => [(5, .int .i64 i), (4, .bool false), (3, .cell (ngC (steps (x, y) i).2)), (2, .cell (ngC (steps (x, y) i).1))]) (fun _ : Nat => σ) (fun i : Nat => 12 - i) (0 : Nat) (Nat.zero_le _) ?_ rfl ?_
  · simp -implicitDefEqProofs only [go_sem, ngC]
    exact ⟨rfl, rfl, rfl⟩
  intro i hi
  rcases Nat.lt_or_ge i 12 with h | h
  · have hw : IntKind.i64.wrap ((i : Int) + 1) = ((i + 1 : Nat) : Int) := wrap_ok (by omega) (by omega)
    have h12 : decide ((i : Int) < 12) = true := by simp; omega
    obtain ⟨g1, g2⟩ := steps_ok (p := (x, y)) hx hy i
    have hS : steps (x, y) (i + 1) = stepS (steps (x, y) i) := rfl
    generalize steps (x, y) i = P at g1 g2 hS
    obtain ⟨X, Y⟩ := P
    have t1 := tick_step g1
    have t2 := tick_step g2
    have h1 := c_ntick X g1.cnt g1.left.2 g1.e σ
    have h2 := c_ntick Y g2.cnt g2.left.2 g2.e σ
    have hok := rounds_ok (ticked_ok (p := (X, Y)) g1 g2)
    have hT : ticked (X, Y) = ((tickW X).1, (tickW Y).1, tickO X, tickO Y) := rfl
    unfold stepS at hS
    rw [hT] at hS hok
    simp only at t1 t2 h1 h2
    generalize tickO X = s0 at t1 hS hok
    generalize tickO Y = t0 at t2 hS hok
    generalize tickW X = w1 at h1 t1 hS hok
    generalize tickW Y = w2 at h2 t2 hS hok
    obtain ⟨X1, v1, u1⟩ := w1
    obtain ⟨Y1, v2, u2⟩ := w2
    obtain ⟨_, is1, ⟨ts1, nl1', sz1', e1', _⟩, _, _⟩ := t1
    obtain ⟨_, is2, ⟨ts2, nl2', sz2', e2', _⟩, _, _⟩ := t2
    have is1' := is1
    have is2' := is2
    obtain ⟨nl1, sz1, e1, _⟩ := is1'
    obtain ⟨nl2, sz2, e2, _⟩ := is2'
    simp only at e1 e1' e2 e2' is1 is2 hS hok
    subst e1 e1' e2 e2'
    simp only [rsV, ngv, ngC] at h1 h2
    simp -implicitDefEqProofs only [go_sem, h12, ngC]
    refine vgo_call rfl rfl rfl rfl h1 ?_
    simp -implicitDefEqProofs only [go_sem, ngC]
    refine vgo_call rfl rfl rfl rfl h2 ?_
    simp -implicitDefEqProofs only [go_sem, ngC]
    refine w_loop (fun s => s.1 ≤ 6 ∧ IsSl s.2.1 3 (pkvs (rounds (X1, Y1, s0, t0) s.1).2.2.1) ∧ IsSl s.2.2 3 (pkvs (rounds (X1, Y1, s0, t0) s.1).2.2.2)) (fun s => [(12, .int .i64 s.1), (10, s.2.2), (7, s.2.1), (3, .cell (ngC (rounds (X1, Y1, s0, t0) s.1).2.1)), (2, .cell (ngC (rounds (X1, Y1, s0, t0) s.1).1)), (5, .int .i64 i), (4, .bool false)]) (fun _ => σ) (fun s => 6 - s.1) ((0, .sl nl1 false sz1 (pkvs s0), .sl nl2 false sz2 (pkvs t0)) : Nat × V × V) ⟨Nat.zero_le _, is1, is2⟩ ?_ rfl ?_
    · simp -implicitDefEqProofs only [go_sem, ngC]
      exact ⟨rfl, rfl, rfl⟩
    rintro ⟨n, vs, vt⟩ ⟨hn, hs, ht⟩
    simp only at hn hs ht
    rcases Nat.lt_or_ge n 6 with hn6 | hn6
    · have h6 : decide ((n : Int) < 6) = true := by simp; omega
      have hwn : IntKind.i64.wrap ((n : Int) + 1) = ((n + 1 : Nat) : Int) := wrap_ok (by omega) (by omega)
      have hk := hok n
      have hR : rounds (X1, Y1, s0, t0) (n + 1) = roundS (rounds (X1, Y1, s0, t0) n) := rfl
      generalize rounds (X1, Y1, s0, t0) n = w at hs ht hk hR
      obtain ⟨Xn, Yn, sn, tn⟩ := w
      have hls := hk.ls
      have hlt := hk.lt
      have h2n : 2 ^ n ≤ 64 := by
        have : ∀ k : Fin 6, 2 ^ k.val ≤ 64 := by decide
        exact this ⟨n, hn6⟩
      obtain ⟨kx, ky, ks, kt, _, _⟩ := hk
      simp only at kx ky ks kt hs ht hls hlt
      have hs' := hs
      have ht' := ht
      obtain ⟨nls, szs, es, hzs⟩ := hs'
      obtain ⟨nlt, szt, et, hzt⟩ := ht'
      subst es et
      simp -implicitDefEqProofs only [go_sem, h6, ngC]
      refine loop_adopt 13 3 σ.length rfl rfl ?_
      refine w_loop (fun k : Nat => k ≤ sn.length) (fun k : Nat => [(14, .int .i64 k), (13, .rsl σ.length k 0 (recv Yn (sn.take k)).2.length), (7, .sl nls false szs (pkvs sn)), (3, .cell (ngC (recv Yn (sn.take k)).1)), (10, .sl nlt false szt (pkvs tn)), (2, .cell (ngC Xn)), (12, .int .i64 n), (5, .int .i64 i), (4, .bool false)]) (fun k : Nat => σ ++ [.arr (recv Yn (sn.take k)).2.isEmpty k 3 (pkvs (recv Yn (sn.take k)).2)]) (fun k : Nat => sn.length - k) (0 : Nat) (Nat.zero_le _) ?_ rfl ?_
      · simp -implicitDefEqProofs only [go_sem, ngC]
        exact ⟨rfl, rfl, rfl⟩
      intro k hk
      obtain ⟨r1, r2, r3⟩ := recv_good ky ks k hk
      rcases Nat.lt_or_ge k sn.length with hkl | hkl
      · have hwk : IntKind.i64.wrap ((k : Int) + 1) = ((k + 1 : Nat) : Int) := wrap_ok (by omega) (by omega)
        obtain rfl : szs = 3 := by
          rcases hzs with hzs | ⟨_, hzs⟩
          · exact hzs
          · have := pkvs_length sn
            rw [hzs, List.length_nil] at this
            omega
        have hq := ks sn[k] (List.getElem_mem hkl)
        obtain ⟨q1, q2, ⟨ts, nl', sz', q3, _⟩, q4, q5⟩ := take_step r1 hq
        have hct := fun σ => c_takeP r1 hq σ
        have hrt := recv_take Yn hkl
        generalize recv Yn (sn.take k) = rk at r1 r2 r3 q1 q2 q3 q4 q5 hct hrt
        obtain ⟨Yk, bk⟩ := rk
        simp only at r1 r2 r3 q1 q2 q3 q4 q5 hct
        unfold recvStep at hrt
        simp only at hrt
        generalize takeO Yk sn[k] = os at q2 q4 q5 hrt
        generalize takeW Yk sn[k] = wt at q1 q2 q3 hct hrt
        obtain ⟨Yk', vo, vt⟩ := wt
        obtain ⟨nlo, szo, q2', hzo⟩ := q2
        simp only at q2' q3
        subst q2' q3
        simp only [rsV, ngv, ngC, pkv, pkC] at hct
        have hlb : (pkvs bk).length = bk.length := pkvs_length bk
        have hlo : (pkvs os).length = os.length := pkvs_length os
        simp -implicitDefEqProofs only [go_sem, hkl, pkvs_length, pkvs_getD hkl, pkv, pkC, ngC]
        refine w_walk2 [10, 11, 12, 13] [0, 1, 2, 3, 4, 5, 6, 7, 8, 9, 10, 11, 12, 13] [51, 52, 53, 54, 55, 56, 50, 57, 58, 59] [0, 0, 0, 6, 14, 31, 63, 127, 127, 127, 0, 1279, 3583, 8191] rfl rfl rfl rfl ?_
        simp -implicitDefEqProofs only [go_sem, hkl, pkvs_length, pkvs_getD hkl, pkv, pkC, ngC]
        refine vdgo_call rfl rfl rfl rfl (hct _) ?_
        simp -implicitDefEqProofs only [go_sem, hlb, hlo, Nat.zero_add, Nat.sub_zero]
        refine ⟨by rcases hzo with hz | hz; exact .inr hz; exact .inl hz.2, by unfold lim; omega, l_next (k + 1) hkl (by omega) ?_ ?_⟩
        · rw [hrt]
          simp -implicitDefEqProofs only [go_sem, ngC, hwk, List.length_append]
        · rw [hrt]
          have e1 : pkvs (bk ++ os) = pkvs bk ++ pkvs os := List.map_append
          have e2 : (bk ++ os).isEmpty = (bk.isEmpty && (pkvs os).isEmpty) := by cases bk <;> cases os <;> rfl
          simp -implicitDefEqProofs only [go_sem, e1, e2]
      · have hkn : ¬ (k < sn.length) := by omega
        rw [List.take_of_length_le hkl] at r1 r2 r3
        simp -implicitDefEqProofs only [go_sem, pkvs_length, hkn, ngC, List.take_of_length_le hkl]
        refine l_exit' (exit_row (t := 13) (F' := [(13, .sl (recv Yn sn).2.isEmpty false 3 (pkvs (recv Yn sn).2)), (10, .sl nlt false szt (pkvs tn)), (3, .cell (ngC (recv Yn sn).1)), (2, .cell (ngC Xn)), (12, .int .i64 n), (5, .int .i64 i), (4, .bool false)]) (pkvs_length _).symm rfl ?_ rfl) ?_
        · simp -implicitDefEqProofs only [go_sem, ngC]
        simp -implicitDefEqProofs only [go_sem, ngC]
        refine loop_adopt 7 3 σ.length rfl rfl ?_
        refine w_loop (fun k : Nat => k ≤ tn.length) (fun k : Nat => [(18, .int .i64 k), (7, .rsl σ.length k 0 (recv Xn (tn.take k)).2.length), (10, .sl nlt false szt (pkvs tn)), (2, .cell (ngC (recv Xn (tn.take k)).1)), (13, .sl (recv Yn sn).2.isEmpty false 3 (pkvs (recv Yn sn).2)), (3, .cell (ngC (recv Yn sn).1)), (12, .int .i64 n), (5, .int .i64 i), (4, .bool false)]) (fun k : Nat => σ ++ [.arr (recv Xn (tn.take k)).2.isEmpty k 3 (pkvs (recv Xn (tn.take k)).2)]) (fun k : Nat => tn.length - k) (0 : Nat) (Nat.zero_le _) ?_ rfl ?_
        · simp -implicitDefEqProofs only [go_sem, ngC]
          exact ⟨rfl, rfl, rfl⟩
        intro k hk
        obtain ⟨r1, r2, r3⟩ := recv_good kx kt k hk
        rcases Nat.lt_or_ge k tn.length with hkl | hkl
        · have hwk : IntKind.i64.wrap ((k : Int) + 1) = ((k + 1 : Nat) : Int) := wrap_ok (by omega) (by omega)
          obtain rfl : szt = 3 := by
            rcases hzt with hzt | ⟨_, hzt⟩
            · exact hzt
            · have := pkvs_length tn
              rw [hzt, List.length_nil] at this
              omega
          have hq := kt tn[k] (List.getElem_mem hkl)
          obtain ⟨q1, q2, ⟨ts, nl', sz', q3, _⟩, q4, q5⟩ := take_step r1 hq
          have hct := fun σ => c_takeP r1 hq σ
          have hrt := recv_take Xn hkl
          generalize recv Xn (tn.take k) = rk at r1 r2 r3 q1 q2 q3 q4 q5 hct hrt
          obtain ⟨Yk, bk⟩ := rk
          simp only at r1 r2 r3 q1 q2 q3 q4 q5 hct
          unfold recvStep at hrt
          simp only at hrt
          generalize takeO Yk tn[k] = os at q2 q4 q5 hrt
          generalize takeW Yk tn[k] = wt at q1 q2 q3 hct hrt
          obtain ⟨Yk', vo, vt⟩ := wt
          obtain ⟨nlo, szo, q2', hzo⟩ := q2
          simp only at q2' q3
          subst q2' q3
          simp only [rsV, ngv, ngC, pkv, pkC] at hct
          have hlb : (pkvs bk).length = bk.length := pkvs_length bk
          have hlo : (pkvs os).length = os.length := pkvs_length os
          simp -implicitDefEqProofs only [go_sem, hkl, pkvs_length, pkvs_getD hkl, pkv, pkC, ngC]
          refine w_walk2 [10, 11, 12, 13] [0, 1, 2, 3, 4, 5, 6, 7, 8, 9, 10, 11, 12, 13] [71, 72, 73, 74, 75, 76, 70, 77, 78, 79] [0, 0, 0, 6, 14, 31, 63, 127, 127, 127, 0, 1279, 3583, 8191] rfl rfl rfl rfl ?_
          simp -implicitDefEqProofs only [go_sem, hkl, pkvs_length, pkvs_getD hkl, pkv, pkC, ngC]
          refine vdgo_call rfl rfl rfl rfl (hct _) ?_
          simp -implicitDefEqProofs only [go_sem, hlb, hlo, Nat.zero_add, Nat.sub_zero]
          refine ⟨by rcases hzo with hz | hz; exact .inr hz; exact .inl hz.2, by unfold lim; omega, l_next (k + 1) hkl (by omega) ?_ ?_⟩
          · rw [hrt]
            simp -implicitDefEqProofs only [go_sem, ngC, hwk, List.length_append]
          · rw [hrt]
            have e1 : pkvs (bk ++ os) = pkvs bk ++ pkvs os := List.map_append
            have e2 : (bk ++ os).isEmpty = (bk.isEmpty && (pkvs os).isEmpty) := by cases bk <;> cases os <;> rfl
            simp -implicitDefEqProofs only [go_sem, e1, e2]
        · have hkn : ¬ (k < tn.length) := by omega
          rw [List.take_of_length_le hkl] at r1 r2 r3
          simp -implicitDefEqProofs only [go_sem, pkvs_length, hkn, ngC, List.take_of_length_le hkl]
          refine l_exit' (exit_row (t := 7) (F' := [(7, .sl (recv Xn tn).2.isEmpty false 3 (pkvs (recv Xn tn).2)), (13, .sl (recv Yn sn).2.isEmpty false 3 (pkvs (recv Yn sn).2)), (3, .cell (ngC (recv Yn sn).1)), (2, .cell (ngC (recv Xn tn).1)), (12, .int .i64 n), (5, .int .i64 i), (4, .bool false)]) (pkvs_length _).symm rfl ?_ rfl) ?_
          · simp -implicitDefEqProofs only [go_sem, ngC]
          simp -implicitDefEqProofs only [go_sem, ngC]
          refine l_next ((n + 1, .sl (recv Xn tn).2.isEmpty false 3 (pkvs (recv Xn tn).2), .sl (recv Yn sn).2.isEmpty false 3 (pkvs (recv Yn sn).2)) : Nat × V × V) ⟨hn6, ?_, ?_⟩ ?_ ?_ rfl
          · rw [hR]; exact ⟨_, _, rfl, .inl rfl⟩
          · rw [hR]; exact ⟨_, _, rfl, .inl rfl⟩
          · show 6 - (n + 1) < 6 - n
            omega
          · rw [hR]
            simp -implicitDefEqProofs only [go_sem, ngC, hwn]
            exact ⟨rfl, rfl⟩
    · have h6 : decide ((n : Int) < 6) = false := by simp; omega
      have en : n = 6 := by omega
      subst en
      simp -implicitDefEqProofs only [go_sem, h6, ngC]
      refine l_exit ?_
      simp -implicitDefEqProofs only [go_sem]
      refine l_next (i + 1) h (by omega) ?_ rfl
      rw [hS]
      simp -implicitDefEqProofs only [go_sem, ngC, hw]
  · have h12 : decide ((i : Int) < 12) = false := by simp; omega
    have en : i = 12 := by omega
    subst en
    simp -implicitDefEqProofs only [go_sem, h12, ngC]
    refine l_exit ?_
    unfold agreeB
    simp -implicitDefEqProofs only [go_sem]
    cases q1 : (steps (x, y) 12).1.a.st == 9 <;> simp -implicitDefEqProofs only [go_sem, q1, Bool.true_and, Bool.false_and]

end Go.VL

/- Two protocols with nothing lost between them: both come to be Opened, in plain Lean. Conditions: none. -/
namespace Go.VL
open Go.Proofs

/-- A protocol that asks for its magic number. -/
def peN (m c : UInt32) (a : AuV) : NgV := ⟨a, ⟨false, m, c, 0, 0⟩, [numO 5 4 m], false, false, 0, [], true, false, 0⟩
/-- The same, when the peer has asked for its own. -/
def pwN (m c o : UInt32) (a : AuV) : NgV := ⟨a, ⟨false, m, c, 0, 0⟩, [numO 5 4 m], false, false, 0, [normO false (numO 5 4 o)], false, false, 2⟩
def ackP (o : UInt32) : PkV := ⟨2, 2, false, false, 1, encL [numO 5 4 o]⟩
theorem tick_of {n m : NgV} {a' : AuV} {l : List Int} (h1 : tickA n.a = (a', l)) (h2 : actN (withA n a') n.a.st l = m) : tickW n = (m, outV (outsOf m 0 zPk l), telV (toldOf l)) := by
  unfold tickW
  rw [h1]
  simp only
  rw [h2]
theorem d_t1 : tickA ⟨6, 4, 3, 1⟩ = (⟨6, 4, 2, 1⟩, []) := by decide +kernel
theorem d_t2 : tickA ⟨6, 4, 2, 1⟩ = (⟨6, 4, 1, 1⟩, []) := by decide +kernel
theorem d_t3 : tickA ⟨6, 4, 1, 1⟩ = (⟨6, 3, 3, 2⟩, [7]) := by decide +kernel
theorem d_t4 : tickA ⟨9, 5, 0, 2⟩ = (⟨9, 5, 0, 2⟩, []) := by decide +kernel
theorem d_e6 : (nextP 6 6).2.2 = true ∧ doA ⟨6, 3, 3, 2⟩ 6 = (⟨8, 3, 3, 2⟩, [8], 0) := by decide +kernel
theorem d_e8 : (nextP 8 8).2.2 = true ∧ doA ⟨8, 3, 3, 2⟩ 8 = (⟨9, 5, 0, 2⟩, [5, 1], 0) := by decide +kernel

section two
variable (m o c : UInt32)
theorem k_t1 : tickW (peN m c ⟨6, 4, 3, 1⟩) = (peN m c ⟨6, 4, 2, 1⟩, outV [], telV []) := tick_of (n := peN m c ⟨6, 4, 3, 1⟩) d_t1 rfl
theorem k_t2 : tickW (peN m c ⟨6, 4, 2, 1⟩) = (peN m c ⟨6, 4, 1, 1⟩, outV [], telV []) := tick_of (n := peN m c ⟨6, 4, 2, 1⟩) d_t2 rfl
theorem k_t3 : tickW (peN m c ⟨6, 4, 1, 1⟩) = (peN m c ⟨6, 3, 3, 2⟩, outV [reqP (peN m c ⟨6, 3, 3, 2⟩)], telV []) := tick_of (n := peN m c ⟨6, 4, 1, 1⟩) d_t3 rfl

theorem k_ans (ho : o ≠ 0) (hm : o ≠ m) : ansP ⟨false, m, c, 0, 0⟩ [normO false (numO 5 4 o)] 0 = (2, [normO false (numO 5 4 o)]) := by
  have hk : isK ⟨false, m, c, 0, 0⟩ (normO false (numO 5 4 o)) = true := rfl
  have hn : notO ⟨false, m, c, 0, 0⟩ (normO false (numO 5 4 o)) = false := by
    show (numU (fourB o) == 0 || numU (fourB o) == m) = false
    rw [numU_fourB]
    simp [ho, hm]
  have e1 : oddL ⟨false, m, c, 0, 0⟩ [normO false (numO 5 4 o)] = [] := by unfold oddL; simp [hk]
  have e2 : asL ⟨false, m, c, 0, 0⟩ [normO false (numO 5 4 o)] = [] := by unfold asL; simp [hn]
  have e3 : toL ⟨false, m, c, 0, 0⟩ [normO false (numO 5 4 o)] = [] := by unfold toL; rw [e2]; rfl
  have e4 : ∀ b, refL ⟨false, m, c, 0, 0⟩ [normO false (numO 5 4 o)] b = [] := fun b => by unfold refL; rw [e1, e2]; cases b <;> rfl
  unfold ansP
  rw [e4, e3]
  rfl
theorem k_req (ho : o ≠ 0) (hm : o ≠ m) : takeW (peN m c ⟨6, 3, 3, 2⟩) (reqP (peN o c ⟨6, 3, 3, 2⟩)) = (pwN m c o ⟨8, 3, 3, 2⟩, outV [ackP o], telV []) := by
  have h0 : takeW (peN m c ⟨6, 3, 3, 2⟩) (reqP (peN o c ⟨6, 3, 3, 2⟩)) = reqW (peN m c ⟨6, 3, 3, 2⟩) (reqP (peN o c ⟨6, 3, 3, 2⟩)) := rfl
  have hp : parse (reqP (peN o c ⟨6, 3, 3, 2⟩)).nl [] (reqP (peN o c ⟨6, 3, 3, 2⟩)).d = some [normO false (numO 5 4 o)] := parse_enc false [numO 5 4 o] [] (by intro x hx; rw [List.mem_singleton.1 hx]; show (4 : Nat) ≤ 253; decide)
  have hN : reqN (peN m c ⟨6, 3, 3, 2⟩) = peN m c ⟨6, 3, 3, 2⟩ := rfl
  have ha : ansP (peN m c ⟨6, 3, 3, 2⟩).r [normO false (numO 5 4 o)] (peN m c ⟨6, 3, 3, 2⟩).naks = (2, [normO false (numO 5 4 o)]) := k_ans m o c ho hm
  have hE : reqE (peN m c ⟨6, 3, 3, 2⟩) [normO false (numO 5 4 o)] = 6 := by unfold reqE; rw [ha]; rfl
  have he : encOK [normO false (numO 5 4 o)] = true := rfl
  have hr : repP 2 (reqP (peN o c ⟨6, 3, 3, 2⟩)).id [normO false (numO 5 4 o)] = ackP o := by unfold repP; rw [he]; rfl
  have hev : evW (peN m c ⟨6, 3, 3, 2⟩) 6 (reqP (peN o c ⟨6, 3, 3, 2⟩)).id (ackP o) = (peN m c ⟨8, 3, 3, 2⟩, outV [ackP o], telV []) := ev_of (n := peN m c ⟨6, 3, 3, 2⟩) (e := 6) _ _ d_e6.1 d_e6.2 rfl
  have hl : evL (peN m c ⟨6, 3, 3, 2⟩) 6 = [8] := by
    unfold evL
    have h1 : doneB (peN m c ⟨6, 3, 3, 2⟩) 6 = true := d_e6.1
    have h2 : doA (peN m c ⟨6, 3, 3, 2⟩).a 6 = (⟨8, 3, 3, 2⟩, [8], 0) := d_e6.2
    rw [h1, h2]
    rfl
  rw [h0]
  unfold reqW
  rw [hp]
  simp only [hN, ha, hE, hl, hr, hev]
  rfl
theorem k_ack : takeW (pwN m c o ⟨8, 3, 3, 2⟩) (ackP m) = (pwN m c o ⟨9, 5, 0, 2⟩, outV [], telV [1]) := by
  have h0 : takeW (pwN m c o ⟨8, 3, 3, 2⟩) (ackP m) = ackW (pwN m c o ⟨8, 3, 3, 2⟩) (ackP m) := rfl
  have h1 : ((ackP m).id == (pwN m c o ⟨8, 3, 3, 2⟩).a.id && decide (encL (pwN m c o ⟨8, 3, 3, 2⟩).ours = (ackP m).d)) = true := by
    have e : encL (pwN m c o ⟨8, 3, 3, 2⟩).ours = (ackP m).d := rfl
    rw [e]
    simp
    rfl
  rw [h0]
  unfold ackW
  rw [h1]
  exact ev_of (n := pwN m c o ⟨8, 3, 3, 2⟩) (e := 8) _ _ d_e8.1 d_e8.2 rfl
theorem k_t4 : tickW (pwN m c o ⟨9, 5, 0, 2⟩) = (pwN m c o ⟨9, 5, 0, 2⟩, outV [], telV []) := tick_of (n := pwN m c o ⟨9, 5, 0, 2⟩) d_t4 rfl
end two

theorem tickO_of {n : NgV} {r : RS} {os : List PkV} (h : tickW n = r) (hr : r.2.1 = outV os) : tickO n = os := by
  unfold tickO
  rw [h, hr]
  exact os_of (out_sl os)
theorem recv_one {n n' : NgV} {q : PkV} {v : V} {os : List PkV} (h : takeW n q = (n', outV os, v)) : recv n [q] = (n', os) := by
  show ((takeW n q).1, [] ++ takeO n q) = _
  have : takeO n q = os := by
    unfold takeO
    rw [h]
    exact os_of (out_sl os)
  rw [this, h]
  rfl
theorem ticked_of {x y x' y' : NgV} {s t : List PkV} {u v : V} (h1 : tickW x = (x', outV s, u)) (h2 : tickW y = (y', outV t, v)) : ticked (x, y) = (x', y', s, t) := by
  show ((tickW x).1, (tickW y).1, tickO x, tickO y) = _
  rw [tickO_of h1 rfl, tickO_of h2 rfl, h1, h2]
theorem round_none (x y : NgV) : ∀ n, rounds (x, y, [], []) n = (x, y, [], [])
  | 0 => by rw [rounds]
  | n + 1 => by rw [rounds, round_none x y n]; rfl
theorem step_none {x y x' y' : NgV} {u v : V} (h1 : tickW x = (x', outV [], u)) (h2 : tickW y = (y', outV [], v)) : stepS (x, y) = (x', y') := by
  unfold stepS
  rw [ticked_of h1 h2, round_none]

theorem agree_true (a b c : UInt32) (ha : a ≠ 0) (hb : b ≠ 0) (hab : a ≠ b) : agreeB (peN a c ⟨6, 4, 3, 1⟩) (peN b c ⟨6, 4, 3, 1⟩) = true := by
  have s1 : stepS (peN a c ⟨6, 4, 3, 1⟩, peN b c ⟨6, 4, 3, 1⟩) = (peN a c ⟨6, 4, 2, 1⟩, peN b c ⟨6, 4, 2, 1⟩) := step_none (k_t1 a c) (k_t1 b c)
  have s2 : stepS (peN a c ⟨6, 4, 2, 1⟩, peN b c ⟨6, 4, 2, 1⟩) = (peN a c ⟨6, 4, 1, 1⟩, peN b c ⟨6, 4, 1, 1⟩) := step_none (k_t2 a c) (k_t2 b c)
  have s3 : stepS (peN a c ⟨6, 4, 1, 1⟩, peN b c ⟨6, 4, 1, 1⟩) = (pwN a c b ⟨9, 5, 0, 2⟩, pwN b c a ⟨9, 5, 0, 2⟩) := by
    unfold stepS
    rw [ticked_of (k_t3 a c) (k_t3 b c)]
    have r1 : roundS (peN a c ⟨6, 3, 3, 2⟩, peN b c ⟨6, 3, 3, 2⟩, [reqP (peN a c ⟨6, 3, 3, 2⟩)], [reqP (peN b c ⟨6, 3, 3, 2⟩)]) = (pwN a c b ⟨8, 3, 3, 2⟩, pwN b c a ⟨8, 3, 3, 2⟩, [ackP b], [ackP a]) := by
      unfold roundS
      simp only [recv_one (k_req a b c hb (Ne.symm hab)), recv_one (k_req b a c ha hab)]
    have r2 : roundS (pwN a c b ⟨8, 3, 3, 2⟩, pwN b c a ⟨8, 3, 3, 2⟩, [ackP b], [ackP a]) = (pwN a c b ⟨9, 5, 0, 2⟩, pwN b c a ⟨9, 5, 0, 2⟩, [], []) := by
      unfold roundS
      simp only [recv_one (k_ack a b c), recv_one (k_ack b a c)]
    have r3 : roundS (pwN a c b ⟨9, 5, 0, 2⟩, pwN b c a ⟨9, 5, 0, 2⟩, [], []) = (pwN a c b ⟨9, 5, 0, 2⟩, pwN b c a ⟨9, 5, 0, 2⟩, [], []) := rfl
    simp only [rounds, r1, r2, r3]
  have s4 : stepS (pwN a c b ⟨9, 5, 0, 2⟩, pwN b c a ⟨9, 5, 0, 2⟩) = (pwN a c b ⟨9, 5, 0, 2⟩, pwN b c a ⟨9, 5, 0, 2⟩) := step_none (k_t4 a b c) (k_t4 b a c)
  unfold agreeB
  simp only [steps, s1, s2, s3, s4]
  rfl

end Go.VL

/- The law NegoPeer, over values. Conditions: none. -/
namespace Go.VL
open Go.Proofs

def ruN (m c : UInt32) : RV := ⟨false, m, c, 0, 0⟩
def opN (m c : UInt32) : NgV := { newN (ruN m c) with a := ⟨1, 0, 0, 0⟩ }
def upN (m c : UInt32) : NgV := { newN (ruN m c) with a := ⟨6, 4, 3, 1⟩ }
theorem w_op (m c : UInt32) : doW (newN (ruN m c)) 2 = (opN m c, outV [], telV [3]) := ev_of (n := newN (ruN m c)) (e := 2) 0 zPk x_a1 x_a2 rfl
theorem w_up (m c : UInt32) : doW (opN m c) 0 = (upN m c, outV [reqP (upN m c)], telV []) := ev_of (n := opN m c) (e := 0) 0 zPk x_b1 x_b2 rfl
set_option maxHeartbeats 4000000 in
set_option maxRecDepth 20000 in
theorem c_opened (m c : UInt32) (σ : St) : VCalls Tryd.prog 19 [ngv (newN (ruN m c))] σ fun r σ' => r = rsV (upN m c, outV [reqP (upN m c)], telV []) ∧ σ' = σ := by
  refine vcalls_intro (C := cfg Tryd.prog [] [] []) (cfg_ok mixed) Tryd.func19 rfl rfl rfl rfl rfl ?_
  have h1 := c_ndo (newN (ruN m c)) 2 (by show (0 : Int) ≤ 0 ∧ (0 : Int) ≤ 5; decide) (ask_enc (ruN m c)) σ
  rw [w_op] at h1
  have h2 := c_ndo (opN m c) 0 (by show (0 : Int) ≤ 0 ∧ (0 : Int) ≤ 5; decide) (ask_enc (ruN m c)) σ
  rw [w_up] at h2
  simp only [rsV, ngv, ngC, outV, telV, List.isEmpty] at h1 h2
  simp -implicitDefEqProofs only [go_sem, ngv, ngC]
  refine vgo_call rfl rfl rfl rfl h1 ?_
  simp -implicitDefEqProofs only [go_sem]
  refine vgo_call rfl rfl rfl rfl h2 ?_
  simp -implicitDefEqProofs only [go_sem, rsV, ngv, ngC, outV, telV, List.isEmpty]

theorem drop_ask (m c : UInt32) : dropO (upN m c).ours 3 = [numO 5 4 m] := rfl
theorem pe_good (m c : UInt32) : Good (peN m c ⟨6, 4, 3, 1⟩) := ⟨by show aokB ⟨6, 4, 3, 1⟩ = true; decide, ⟨Int.le_refl _, by show (0 : Int) ≤ 3; decide⟩, rfl, rfl⟩

set_option maxHeartbeats 4000000 in
set_option maxRecDepth 20000 in
theorem c_lpeer (a b c : UInt32) (σ : St) : VCalls Tryd.prog 5 [.int .u32 a.toNat, .int .u32 b.toNat, .int .u32 c.toNat] σ fun r σ' => r = .bool true ∧ σ' = σ := by
  refine vcalls_intro (C := cfg Tryd.prog [] [] []) (cfg_ok mixed) Tryd.func5 rfl rfl rfl rfl rfl ?_
  have t0 : ∀ n : UInt32, ((n.toNat : Int) == 0) = (n == 0) := fun n => toNat32_beq n 0
  simp -implicitDefEqProofs only [go_sem]
  refine vgo_call rfl rfl rfl rfl (c_shown σ) ?_
  simp -implicitDefEqProofs only [go_sem, t0, toNat32_beq]
  cases q1 : a == b
  · simp -implicitDefEqProofs only [go_sem, q1, t0]
    cases q2 : a == 0
    · simp -implicitDefEqProofs only [go_sem, q2, t0]
      cases q3 : b == 0
      · simp -implicitDefEqProofs only [go_sem, q3, t0]
        cases q4 : c == 0
        · simp -implicitDefEqProofs only [go_sem, q4, toNat32_beq]
          cases q5 : c == a
          · simp -implicitDefEqProofs only [go_sem, q5, toNat32_beq]
            cases q6 : c == b
            · have ha : a ≠ 0 := by simpa using q2
              have hb : b ≠ 0 := by simpa using q3
              have hab : a ≠ b := by simpa using q1
              have n1 := fun σ => c_new (ruN a c) σ
              have n2 := fun σ => c_new (ruN b c) σ
              have o1 := fun σ => c_opened a c σ
              have o2 := fun σ => c_opened b c σ
              have d1 := fun σ => c_rdrop (upN a c).on (upN a c).oc (upN a c).ours 3 (by show (2 : Nat) < lim; decide) σ
              have d2 := fun σ => c_rdrop (upN b c).on (upN b c).oc (upN b c).ours 3 (by show (2 : Nat) < lim; decide) σ
              rw [drop_ask] at d1 d2
              have ag := fun σ => c_agree (peN a c ⟨6, 4, 3, 1⟩) (peN b c ⟨6, 4, 3, 1⟩) (pe_good a c) (pe_good b c) σ
              rw [agree_true a b c ha hb hab] at ag
              simp only [rsV, ngv, ngC, outV, telV, List.isEmpty, pkvs, List.map, rowO] at o1 o2 d1 d2
              simp -implicitDefEqProofs only [go_sem, q6]
              refine vgo_call rfl rfl rfl rfl (n1 _) ?_
              simp -implicitDefEqProofs only [go_sem, ngv, ngC]
              refine vgo_call rfl rfl rfl rfl (n2 _) ?_
              simp -implicitDefEqProofs only [go_sem, ngv, ngC]
              refine vgo_call rfl rfl rfl rfl (o1 _) ?_
              simp -implicitDefEqProofs only [go_sem]
              refine vgo_call rfl rfl rfl rfl (o2 _) ?_
              simp -implicitDefEqProofs only [go_sem]
              refine vgo_call rfl rfl rfl rfl (d1 _) ?_
              simp -implicitDefEqProofs only [go_sem]
              refine vgo_call rfl rfl rfl rfl (d2 _) ?_
              simp -implicitDefEqProofs only [go_sem]
              refine vgo_call rfl rfl rfl rfl (ag _) ?_
              simp -implicitDefEqProofs only [go_sem]
            · simp -implicitDefEqProofs only [go_sem, q6]
          · simp -implicitDefEqProofs only [go_sem, q5]
        · simp -implicitDefEqProofs only [go_sem, q4]
      · simp -implicitDefEqProofs only [go_sem, q3]
    · simp -implicitDefEqProofs only [go_sem, q2]
  · simp -implicitDefEqProofs only [go_sem, q1]

end Go.VL

/- NegoPeer: at every three numbers the law answers true, and leaves its arguments as they were. Conditions: none. -/
namespace Go.Proofs.YtonjofnphkghcaaDoor
open Go.VL Go.ChangeShapes Go.WideShapes Go.RowKit

theorem negoPeer_calls (vs : List V) (h : argsV [shU32, shU32, shU32] vs) : VCalls Tryd.prog 5 vs [] fun r _ => r = .bool true := by
  obtain ⟨c1, r1, rfl, ⟨a, rfl, ha⟩, c2, r2, rfl, ⟨b, rfl, hb⟩, c3, r3, rfl, ⟨c, rfl, hc⟩, rfl⟩ := h
  obtain ⟨a, rfl⟩ := wf_u32 ha
  obtain ⟨b, rfl⟩ := wf_u32 hb
  obtain ⟨c, rfl⟩ := wf_u32 hc
  exact (c_lpeer a b c []).mono fun _ _ h => h.1

set_option maxRecDepth 100000 in
theorem negoPeer_lifted (os : Os) (started : os.Started) (H : Type) (enc : TypeId × Value → H) :
    ReturnsInHanded {} Tryd.checked os 5 .any (fun w args => (Rows.negoPeerSpec.pre enc Tryd.prog Tryd.f5 Rows.negoPeerRow.domain false w args ∧ laidMetH Tryd.prog laidL w) ∧ sizedMet enc Tryd.prog Tryd.f5 (OpenSpec.ofChange Rows.negoPeerSpec) false w args)
      (Rows.negoPeerSpec.post enc Tryd.prog Tryd.f5 false true false false) := by
  refine returnsInHanded_of_change_and (C := Tryd.checked) (X := fun w _ => laidMetH Tryd.prog laidL w) (fun _ _ _ hh h => h.of_heap hh) own started (by kernel_rfl) Tryd.func5
    (ChangeSpec.witness_shaped (enc := enc) (C := Tryd.checked) (os := os) (X := fun w _ => laidMetH Tryd.prog laidL w) false (World.laidAll Tryd.prog os laidL) #[.int .u32 0, .int .u32 0, .int .u32 0] 8 (World.laidAll_os _ _ _)
      (World.shaped_of_ZipB (by kernel_rfl) (by kernel_rfl)) (by kernel_rfl) (by kernel_rfl) (by kernel_rfl)
      (by rw [MakeChecks.laidMetH_plain _ _ _ (by kernel_rfl)]; exact laidMet_laidAll _ (by kernel_rfl) (by kernel_rfl))) ?_
  intro W base args ds gs before hval0 hW hcnd hsz0 hL _
  have hW' := hW
  obtain ⟨p, q, hA0, hV, rfl, hfz, hnd⟩ := hW
  obtain ⟨rfl, rfl⟩ := trodVars_none hV
  have hval : ∀ (j : Nat) t v, (Tryd.f5.params.toList)[j]? = some t → args.toList[j]? = some v → Value.okWide Tryd.prog W .any base t v := fun j t v h1 h2 => hval0 j t v (by simpa using h1) (by simpa using h2)
  refine (law_calls_g (ss := [shU32, shU32, shU32]) (by kernel_rfl) negoPeer_calls (glo_of hL) hval hA0 hsz0).mono fun e W' ⟨he, bel⟩ => ?_
  subst he
  have hb := again_of' laidOut bel (by kernel_rfl) hA0
  obtain ⟨v0, vs0, d0, ds0, p0, q0, e0a, rfl, e0b, h0, r0⟩ := trodAll_cons (show DataW.TrodAll enc Tryd.prog W 0 (fun _ => true) true [24, 24, 24] args.toList ds p from hA0)
  obtain ⟨v1, vs1, d1, ds1, p1, q1, e1a, rfl, e1b, h1, r1⟩ := trodAll_cons r0
  obtain ⟨v2, vs2, d2, ds2, p2, q2, e2a, rfl, e2b, h2, r2⟩ := trodAll_cons r1
  obtain ⟨_, rfl, _⟩ := trodAll_nil r2
  exact ⟨_, rfl, _, _, _, [], _, [], hW', trodAll_mk1 (shut_bool Tryd.underlying4 _), hb, rfl, bel.frame _, fun h => by cases h⟩

theorem negoPeer_holds : Rows.NegoPeerSaid :=
  OpenClaim.holds_of_wide 5 Tryd.f5 rfl rfl rfl rfl rfl rfl rfl ⟨rfl, rfl, rfl, rfl, rfl⟩ rfl rfl rfl rfl rfl (by kernel_rfl) Tryd.func5 (by kernel_rfl)
    (of_decide_eq_true (by kernel_rfl)) (by unfold Func.isWrapper; first | (rw [if_pos (by decide +kernel)]; kernel_rfl) | (rw [if_neg (by decide +kernel)]; exact ⟨rfl, rfl⟩))
    (fun os started H enc _ => negoPeer_lifted os started H enc)
theorem negoPeer_card : Rows.NegoPeerCardSaid :=
  Claim7.holds_tied_plain_at .later [] [.listed, .data] true (true, "17513860bfd2e1a7c8681d4397f10b1ef564f10324ec62577607b0678db139ca") false
    negoPeer_holds (fun _ h => by cases h) (by kernel_rfl) (fun _ h => by cases h) negoPeer_row_tie rfl ⟨rfl, rfl⟩ (by kernel_rfl) rfl
    (fun f fn hf hfn => by
      obtain rfl : f = 5 := Option.some.inj ((show Tryd.prog.funcNamed "portreeve/portreevelaw14.NegoPeer" = some 5 by kernel_rfl).symm.trans hf) |>.symm
      obtain rfl : fn = Tryd.f5 := (Option.some.inj (Tryd.func5.symm.trans hfn)).symm
      exact ⟨by kernel_rfl, fun j t ht => by
        have ht : (#[24, 24, 24] : Array TypeId)[j]? = some t := ht
        have hm : t ∈ [24, 24, 24] := by simpa using Array.mem_of_getElem? ht
        have hall : ([24, 24, 24].all fun u => !Tryd.prog.wantsStandIn u) = true := by kernel_rfl
        exact (show Tryd.prog.wantsStandIn t = false by simpa using List.all_eq_true.1 hall t hm)⟩)
    (by kernel_rfl)
#print axioms negoPeer_holds
#print axioms negoPeer_card

end Go.Proofs.YtonjofnphkghcaaDoor
