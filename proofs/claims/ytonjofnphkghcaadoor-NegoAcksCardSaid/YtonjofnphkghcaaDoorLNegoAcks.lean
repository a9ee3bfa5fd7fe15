/- NegoAcks: at every protocol and every packet the law answers true, and leaves its arguments as they were. Conditions: none. -/
import Derived.Test.YtonjofnphkghcaaDoorSSe
import Derived.Test.YtonjofnphkghcaaDoorSSd
set_option linter.unusedVariables false
set_option linter.unusedSimpArgs false
/- Contracts of this program's functions: options read as the document says. Conditions: none. -/
namespace Go.VL
open Go.Proofs

def rcO (o : OV) : OV := { o with c := false }
def readR : Option (List OV) → V
  | some os => .tup [.sl os.isEmpty false 2 (osv (os.map rcO)), .int .i64 0]
  | none => .tup [.sl true false 0 [], .int .i64 2]
theorem same_rc : ∀ l m : List OV, same (l.map rcO) m = same l m
  | [], [] => rfl
  | [], _ :: _ => rfl
  | _ :: _, [] => rfl
  | o :: l, x :: m => by
    rw [List.map_cons]
    show (eqO (rcO o) x && same (l.map rcO) m) = (eqO o x && same l m)
    rw [same_rc l m]
    rfl

set_option maxHeartbeats 1000000 in
set_option maxRecDepth 20000 in
theorem c_rread (nl : Bool) (d : List UInt8) (hd : d.length ≤ 1000000) (σ : St) : VCalls Tryd.prog 16 [.sl nl false 1 (bv d)] σ fun r σ' => r = readR (parse nl [] d) ∧ σ' = σ := by
  refine vcalls_intro (C := cfg Tryd.prog [] [] []) (cfg_ok mixed) Tryd.func16 rfl rfl rfl rfl rfl ?_
  simp -implicitDefEqProofs only [go_sem]
  refine loop_adopt 4 2 σ.length rfl rfl ?_
  refine w_loop (fun s => s.1 ≤ d.length ∧ 2 * s.2.length ≤ s.1 ∧ parse nl s.2 (d.drop s.1) = parse nl [] d) (fun s => [(5, .int .i64 s.1), (4, .rsl σ.length s.2.length 0 s.2.length), (3, .int .i64 0), (2, .sl true false 0 []), (0, .sl nl false 1 (bv d))]) (fun s => σ ++ [.arr s.2.isEmpty s.2.length 2 (osv (s.2.map rcO))]) (fun s => d.length - s.1) ((0, []) : Nat × List OV) ⟨Nat.zero_le _, Nat.le_refl _, rfl⟩ ?_ rfl ?_
  · simp -implicitDefEqProofs only [go_sem]
    rfl
  rintro ⟨i, xs⟩ ⟨hi, hx, hp⟩
  simp only at hi hx hp
  rcases Nat.lt_or_ge i d.length with h | h
  · have hw1 : IntKind.i64.wrap ((i : Int) + 1) = ((i + 1 : Nat) : Int) := wrap_ok (by omega) (by omega)
    rcases Nat.lt_or_ge (i + 1) d.length with h1 | h1
    · have e1 : (((i + 1 : Nat) : Int) == ((d.length : Nat) : Int)) = false := by simp; omega
      have hn8 : d[i + 1].toNat < 256 := d[i + 1].toNat_lt
      have hwn : IntKind.i64.wrap (d[i + 1].toNat : Int) = (d[i + 1].toNat : Int) := wrap_ok (by omega) (by omega)
      have hw2 : IntKind.i64.wrap ((i : Int) + 2) = ((i + 2 : Nat) : Int) := wrap_ok (by omega) (by omega)
      have hw3 : IntKind.i64.wrap ((i : Int) + (d[i + 1].toNat : Int)) = ((i + d[i + 1].toNat : Nat) : Int) := wrap_ok (by omega) (by omega)
      have hdr : d.drop i = d[i] :: d[i + 1] :: d.drop (i + 2) := by rw [List.drop_eq_getElem_cons h, List.drop_eq_getElem_cons h1]
      have hpd := hp
      rw [hdr, parse] at hpd
      have hrl : (d.drop (i + 2)).length = d.length - (i + 2) := List.length_drop
      rw [hrl] at hpd
      simp -implicitDefEqProofs only [go_sem, bv_length, h, hw1, e1, h1, bv_getD h1, hwn]
      cases c2 : decide ((d[i + 1].toNat : Int) < 2)
      · have c2' : ¬ d[i + 1].toNat < 2 := by simp only [decide_eq_false_iff_not] at c2; omega
        simp -implicitDefEqProofs only [go_sem, bv_length, c2, hw3]
        cases c3 : decide (d.length < i + d[i + 1].toNat)
        · have c3' : i + d[i + 1].toNat ≤ d.length := by simp only [decide_eq_false_iff_not] at c3; omega
          rw [if_neg (by omega)] at hpd
          have hlen : (osv (xs.map rcO)).length = xs.length := by simp [osv]
          simp -implicitDefEqProofs only [go_sem, c3]
          refine w_walk2 [14, 15] [0, 1, 2, 3, 4, 5, 6, 7, 8, 9, 10, 11, 12, 13, 14, 15] [32, 33, 34, 35, 36, 37, 38, 39, 40, 41, 42, 43, 44, 45] [0, 0, 0, 6, 14, 0, 0, 64, 0, 0, 768, 2016, 4094, 8190, 16383, 32767] rfl rfl rfl rfl ?_
          simp -implicitDefEqProofs only [go_sem, bv_length, h, bv_getD h, hw2, hw3, hlen, Nat.zero_add, Nat.sub_zero]
          have he : V.agg [.int .u8 d[i].toNat, .sl nl false 1 (List.drop (i + 2) (List.take (i + d[i + 1].toNat) (bv d)))] = ov (rcO (optOf nl d[i] d[i + 1] (d.drop (i + 2)))) := by
            unfold ov rcO optOf
            simp only [V.agg.injEq, List.cons.injEq, V.sl.injEq, true_and, and_true]
            unfold bv
            rw [← List.map_take, ← List.map_drop, List.drop_take]
            congr 2
            omega
          refine ⟨by omega, c3', by unfold lim; omega, l_next (i + d[i + 1].toNat, xs ++ [optOf nl d[i] d[i + 1] (d.drop (i + 2))]) ⟨c3', ?_, ?_⟩ ?_ ?_ ?_⟩
          · simp; omega
          · show parse nl (xs ++ [optOf nl d[i] d[i + 1] (d.drop (i + 2))]) (d.drop (i + d[i + 1].toNat)) = _
            rw [← hpd, List.drop_drop]
            congr 2
            omega
          · show d.length - (i + d[i + 1].toNat) < d.length - i
            omega
          · simp -implicitDefEqProofs only [go_sem, List.length_append, List.length_cons, List.length_nil, Nat.zero_add]
          · simp -implicitDefEqProofs only [go_sem, Bool.false_and, List.map_append, List.map_cons, List.map_nil, osv, he, List.length_append, List.length_cons, List.length_nil, Nat.zero_add]
            have hem : (xs ++ [optOf nl d[i] d[i + 1] (d.drop (i + 2))]).isEmpty = false := by cases xs <;> rfl
            rw [hem]
        · have c3' : d.length < i + d[i + 1].toNat := by have := of_decide_eq_true c3; omega
          rw [if_pos (.inr (by omega))] at hpd
          simp -implicitDefEqProofs only [go_sem, c3]
          refine l_ret ?_
          rw [← hpd]
          simp -implicitDefEqProofs only [go_sem, readR]
      · have c2' : d[i + 1].toNat < 2 := by have := of_decide_eq_true c2; omega
        rw [if_pos (.inl c2')] at hpd
        simp -implicitDefEqProofs only [go_sem, c2]
        refine l_ret ?_
        rw [← hpd]
        simp -implicitDefEqProofs only [go_sem, readR]
    · have e1 : (((i + 1 : Nat) : Int) == ((d.length : Nat) : Int)) = true := by simp; omega
      have hdr : d.drop i = [d[i]] := by
        rw [List.drop_eq_getElem_cons h, List.drop_eq_nil_of_le (by omega)]
      rw [hdr, parse] at hp
      simp -implicitDefEqProofs only [go_sem, bv_length, h, hw1, e1]
      refine l_ret ?_
      rw [← hp]
      simp -implicitDefEqProofs only [go_sem, readR]
  · have hn : ¬ (i < d.length) := by omega
    have hdr : d.drop i = [] := List.drop_eq_nil_of_le h
    rw [hdr, parse] at hp
    simp -implicitDefEqProofs only [go_sem, bv_length, hn]
    refine l_exit ?_
    rw [← hp]
    have htk : (osv (xs.map rcO)).take xs.length = osv (xs.map rcO) := by rw [List.take_of_length_le]; simp [osv]
    simp -implicitDefEqProofs only [go_sem, Nat.sub_zero, readR, htk]

end Go.VL

/- The law NegoAcks, over values. Conditions: none. -/
namespace Go.VL
open Go.Proofs

/-- What may be sent as an answer to a packet. -/
structure SentOK (m : NgV) (p x : PkV) : Prop where
  c2 : x.code = 2 → p.code = 1 ∧ x.id = p.id ∧ x.d = p.d ∧ x.sz = 1
  c1 : x.code = 1 → x.id = m.a.id ∧ x.d = encL m.ours ∧ x.sz = 1 ∧ x.c = false
  cx : x.code = 6 ∨ x.code = 10 ∨ x.code = 3 ∨ x.code = 4 → x.id = p.id
  l : x.d.length ≤ 1496
theorem outs_len (n : NgV) (pid : UInt8) (reply : PkV) (l : List Int) : (outsOf n pid reply l).length ≤ (l.filter sends).length := by
  unfold outsOf
  induction l with
  | nil => exact Nat.le_refl _
  | cons x l ih =>
    rw [List.flatMap_cons, List.length_append, List.filter_cons]
    have h1 := outOf_len n pid reply x
    split
    · rw [List.length_cons]; omega
    · rename_i hx
      have : outOf n pid reply x = [] := by
        unfold sends at hx
        simp only [Bool.or_eq_true, beq_iff_eq, not_or] at hx
        unfold outOf
        rw [if_neg (by omega), if_neg (by omega), if_neg (by omega), if_neg (by omega)]
      rw [this]
      simpa using ih
theorem evO_len (n : NgV) (e : Int) (pid : UInt8) (reply : PkV) : (evO n e pid reply).length ≤ 2 := by
  unfold evO
  cases hd : doneB n e
  · exact Nat.zero_le _
  · simp only [cond_true]
    have hd' : (nextP n.a.st e).2.2 = true := hd
    obtain ⟨hs, he⟩ := next_range hd'
    have hq := next_q hs he
    unfold tabQ at hq
    rw [hd'] at hq
    simp only [cond_true, Bool.and_eq_true, decide_eq_true_eq] at hq
    have := outs_len (evN n e) pid reply (doA n.a e).2.1
    rw [(do_done hd).2] at this ⊢
    exact Nat.le_trans this hq.1.2
theorem out_ok {n m : NgV} {p reply : PkV} (hr : ReplyOK p reply) (hid : n.a.id = m.a.id) (ho : n.ours = m.ours) (hm : Good m) {y : Int} {x : PkV} (h : x ∈ outOf n p.id reply y) : SentOK m p x := by
  have hl : (encL m.ours).length ≤ 1496 := by
    have := hm.e
    unfold encOK at this
    simp only [Bool.and_eq_true, decide_eq_true_eq] at this
    exact this.2
  unfold outOf at h
  split at h
  · rw [List.mem_singleton.1 h]
    refine ⟨fun h => absurd (show (1 : UInt8) = 2 from h) (by decide), fun _ => ⟨hid, ?_, rfl, rfl⟩, fun h => absurd (show (1 : UInt8) = 6 ∨ (1 : UInt8) = 10 ∨ (1 : UInt8) = 3 ∨ (1 : UInt8) = 4 from h) (by decide), ?_⟩
    · show encL n.ours = _
      rw [ho]
    · show (encL n.ours).length ≤ _
      rw [ho]
      exact hl
  split at h
  · rw [List.mem_singleton.1 h]
    exact ⟨fun h => absurd (show (5 : UInt8) = 2 from h) (by decide), fun h => absurd (show (5 : UInt8) = 1 from h) (by decide), fun h => absurd (show (5 : UInt8) = 6 ∨ (5 : UInt8) = 10 ∨ (5 : UInt8) = 3 ∨ (5 : UInt8) = 4 from h) (by decide), Nat.zero_le _⟩
  split at h
  · rw [List.mem_singleton.1 h]
    exact ⟨fun h => absurd (show (6 : UInt8) = 2 from h) (by decide), fun h => absurd (show (6 : UInt8) = 1 from h) (by decide), fun _ => rfl, Nat.zero_le _⟩
  split at h
  · rw [List.mem_singleton.1 h]
    exact ⟨hr.c2, fun h => absurd h hr.c1, hr.cx, hr.l⟩
  · cases h
theorem take_sent {n : NgV} (h : Good n) (p : PkV) (hd : p.d.length ≤ 1496) : Good (takeW n p).1 ∧ ∃ os ts, IsSl (takeW n p).2.1 3 (pkvs os) ∧ IsSl (takeW n p).2.2 1 (zv64 ts) ∧ os.length ≤ 2 ∧ ∀ x ∈ os, SentOK (takeW n p).1 p x := by
  have ht := take_is h p hd
  generalize takeW n p = r at ht
  cases ht with
  | stay => exact ⟨h, [], [], nil_sl 3, nil_sl 1, Nat.zero_le _, fun x h => by cases h⟩
  | ev n0 m e reply h0 ha hr hma hmo hm =>
    refine ⟨hm, _, _, (ev_sl n0 e p.id reply).1, (ev_sl n0 e p.id reply).2, evO_len _ _ _ _, fun x hx => ?_⟩
    unfold evO at hx
    cases hdn : doneB n0 e
    · rw [hdn] at hx; cases hx
    · rw [hdn] at hx
      obtain ⟨y, _, hy⟩ := List.mem_flatMap.1 hx
      exact out_ok hr (by rw [← hma]) hmo.symm hm hy

theorem same_norm' (nl : Bool) (l : List OV) : same ((l.map (normO nl)).map rcO) l = true := by
  rw [same_rc]
  induction l with
  | nil => rfl
  | cons o l ih =>
    rw [List.map_cons]
    show (eqO (normO nl o) o && same (l.map (normO nl)) l) = true
    rw [ih]
    simp [eqO, normO]

set_option maxHeartbeats 4000000 in
set_option maxRecDepth 20000 in
theorem c_lacks (n : NgV) (p : PkV) (hps : n.ps = 2) (hp : p.sz = 1) (σ : St) : VCalls Tryd.prog 4 [ngv n, pkv p] σ fun r σ' => r = .bool true ∧ σ' = σ := by
  refine vcalls_intro (C := cfg Tryd.prog [] [] []) (cfg_ok mixed) Tryd.func4 rfl rfl rfl rfl rfl ?_
  have hsm := c_small14 n hps σ
  simp only [ngv, ngC] at hsm
  simp -implicitDefEqProofs only [go_sem, ngv, ngC, pkv, pkC, hp]
  refine vgo_call rfl rfl rfl rfl (c_shown σ) ?_
  simp -implicitDefEqProofs only [go_sem]
  refine vgo_call rfl rfl rfl rfl hsm ?_
  cases hs : smallN n
  · simp -implicitDefEqProofs only [go_sem]
  have hs' := hs
  unfold smallN at hs'
  simp only [Bool.and_eq_true] at hs'
  obtain ⟨hf1, hf2⟩ := hs'
  have hri := c_rright14 n hf1 σ
  simp only [ngv, ngC] at hri
  simp -implicitDefEqProofs only [go_sem]
  refine vgo_call rfl rfl rfl rfl hri ?_
  cases hr : rightN n
  · simp -implicitDefEqProofs only [go_sem]
  have hg := good_of hf1 hr
  simp -implicitDefEqProofs only [go_sem, bv_length]
  cases hd : decide ((1496 : Int) < (p.d.length : Int))
  · have hd' : p.d.length ≤ 1496 := by simp only [decide_eq_false_iff_not] at hd; omega
    have h3 := c_takeG hg p hp hd' σ
    obtain ⟨g3, os, ts, o3, t3, hol, hox⟩ := take_sent hg p hd'
    generalize takeW n p = w3 at h3 g3 o3 t3 hox
    obtain ⟨m, v3, x3⟩ := w3
    obtain ⟨nl, sz, e3, hsz⟩ := o3
    obtain ⟨nl', sz', f3, _⟩ := t3
    simp only at e3 f3 hox g3
    subst e3 f3
    simp only [rsV, ngv, ngC, pkv, pkC, hp] at h3
    simp -implicitDefEqProofs only [go_sem, hd]
    refine vgo_call rfl rfl rfl rfl h3 ?_
    simp -implicitDefEqProofs only [go_sem]
    refine w_loop (fun i => i ≤ os.length) (fun i => [(9, .int .i64 i), (7, .sl nl false sz (pkvs os)), (6, .cell (ngC m)), (5, .bool true), (4, .bool false), (3, .ip (pkC p)), (2, .ip (ngC n))]) (fun _ => σ) (fun i => os.length - i) 0 (Nat.zero_le _) ?_ rfl ?_
    · simp -implicitDefEqProofs only [go_sem, ngC, pkC, hp]
      rfl
    intro i hi
    rcases Nat.lt_or_ge i os.length with h | h
    · have hw : IntKind.i64.wrap ((i : Int) + 1) = ((i + 1 : Nat) : Int) := wrap_ok (by omega) (by omega)
      have hx := hox os[i] (List.getElem_mem h)
      obtain rfl : sz = 3 := by
        rcases hsz with hsz | ⟨_, hsz⟩
        · exact hsz
        · have := pkvs_length os
          rw [hsz, List.length_nil] at this
          omega
      have hid : (((p.id.toNat : Nat) : Int) == ((p.id.toNat : Nat) : Int)) = true := by simp
      have hid2 : (((m.a.id.toNat : Nat) : Int) == ((m.a.id.toNat : Nat) : Int)) = true := by simp
      have h96 : decide ((1496 : Int) < ((os[i].d.length : Nat) : Int)) = false := by have := hx.l; simp; omega
      simp -implicitDefEqProofs only [go_sem, h, pkvs_length, pkvs_getD h, pkv, pkC, ngC]
      generalize os[i] = x at hx h96
      have t2 : ((x.code.toNat : Int) == 2) = (x.code == 2) := toNat_beq x.code 2
      have t1 : ((x.code.toNat : Int) == 1) = (x.code == 1) := toNat_beq x.code 1
      have t6 : ((x.code.toNat : Int) == 6) = (x.code == 6) := toNat_beq x.code 6
      have t10 : ((x.code.toNat : Int) == 10) = (x.code == 10) := toNat_beq x.code 10
      have t3 : ((x.code.toNat : Int) == 3) = (x.code == 3) := toNat_beq x.code 3
      have t4 : ((x.code.toNat : Int) == 4) = (x.code == 4) := toNat_beq x.code 4
      cases q2 : x.code == 2
      · cases q1 : x.code == 1
        · cases q6 : x.code == 6
          · cases q10 : x.code == 10
            · cases q3 : x.code == 3
              · cases q4 : x.code == 4
                · simp -implicitDefEqProofs only [go_sem, t1, t2, t3, t4, t6, t10, q1, q2, q3, q4, q6, q10, bv_length, h96]
                  refine l_next (i + 1) h (by omega) ?_ rfl
                  simp -implicitDefEqProofs only [go_sem, hw, pkC, ngC, hp]
                · have hxi := hx.cx (.inr (.inr (.inr (by simpa using q4))))
                  simp -implicitDefEqProofs only [go_sem, t1, t2, t3, t4, t6, t10, q1, q2, q3, q4, q6, q10, pkC, hxi, bne, hid, Bool.not_true, bv_length, h96]
                  refine l_next (i + 1) h (by omega) ?_ rfl
                  simp -implicitDefEqProofs only [go_sem, hw, pkC, ngC, hp]
              · have hxi := hx.cx (.inr (.inr (.inl (by simpa using q3))))
                simp -implicitDefEqProofs only [go_sem, t1, t2, t3, t4, t6, t10, q1, q2, q3, q6, q10, pkC, hxi, bne, hid, Bool.not_true, bv_length, h96]
                refine l_next (i + 1) h (by omega) ?_ rfl
                simp -implicitDefEqProofs only [go_sem, hw, pkC, ngC, hp]
            · have hxi := hx.cx (.inr (.inl (by simpa using q10)))
              simp -implicitDefEqProofs only [go_sem, t1, t2, t3, t4, t6, t10, q1, q2, q6, q10, pkC, hxi, bne, hid, Bool.not_true, bv_length, h96]
              refine l_next (i + 1) h (by omega) ?_ rfl
              simp -implicitDefEqProofs only [go_sem, hw, pkC, ngC, hp]
          · have hxi := hx.cx (.inl (by simpa using q6))
            simp -implicitDefEqProofs only [go_sem, t1, t2, t3, t4, t6, t10, q1, q2, q6, pkC, hxi, bne, hid, Bool.not_true, bv_length, h96]
            refine l_next (i + 1) h (by omega) ?_ rfl
            simp -implicitDefEqProofs only [go_sem, hw, pkC, ngC, hp]
        · obtain ⟨b1, b2, b3, b4⟩ := hx.c1 (by simpa using q1)
          have hen := g3.e
          have hda := enc_data' hen
          have hel : m.ours.length ≤ 1000 := (enc_few hen).1
          have hrd := c_rread x.nl x.d (by have := hx.l; omega) σ
          rw [b2, parse_enc x.nl m.ours [] hda, List.nil_append] at hrd
          simp only [readR] at hrd
          have hsa := c_same (m.ours.map (normO x.nl)).isEmpty false m.on m.oc ((m.ours.map (normO x.nl)).map rcO) m.ours (by simp; unfold lim; omega) (fun o ho => by
            obtain ⟨y, hy, rfl⟩ := List.mem_map.1 ho
            obtain ⟨z, hz, rfl⟩ := List.mem_map.1 hy
            have := hda z hz
            show z.d.length ≤ lim
            unfold lim
            omega) σ
          rw [same_norm'] at hsa
          have e0 : ((0 : Int) == 0) = true := rfl
          simp -implicitDefEqProofs only [go_sem, t1, t2, q1, q2, b2, b3, b4]
          refine vgo_call rfl rfl rfl rfl hrd ?_
          simp -implicitDefEqProofs only [go_sem, b1, bne, hid2, e0, Bool.not_true]
          refine vgo_call rfl rfl rfl rfl hsa ?_
          rw [← b2]
          simp -implicitDefEqProofs only [go_sem, bv_length, h96]
          refine l_next (i + 1) h (by omega) ?_ rfl
          simp -implicitDefEqProofs only [go_sem, hw, pkC, ngC, hp]
      · obtain ⟨b1, b2, b3, b4⟩ := hx.c2 (by simpa using q2)
        have hrw := c_row x.nl x.c p.nl p.c x.d p.d (by have := hx.l; unfold lim; omega) σ
        rw [b3] at hrw
        have hpc : ((p.code.toNat : Int) == 1) = true := by rw [b1]; rfl
        have hdd : decide (p.d = p.d) = true := by simp
        rw [hdd] at hrw
        have h96p : decide ((1496 : Int) < ((p.d.length : Nat) : Int)) = false := hd
        simp -implicitDefEqProofs only [go_sem, t2, q2, pkC, hpc, bne, b2, b3, b4, hp, hid, Bool.not_true]
        refine vgo_call rfl rfl rfl rfl hrw ?_
        simp -implicitDefEqProofs only [go_sem, bv_length, h96p]
        refine l_next (i + 1) h (by omega) ?_ rfl
        simp -implicitDefEqProofs only [go_sem, hw, pkC, ngC, hp]
    · have hn : ¬ (i < os.length) := by omega
      have h2 : decide (((os.length : Nat) : Int) ≤ 2) = true := by simp; omega
      simp -implicitDefEqProofs only [go_sem, pkvs_length, hn]
      refine l_exit ?_
      simp -implicitDefEqProofs only [go_sem, pkvs_length, h2]
  · simp -implicitDefEqProofs only [go_sem, hd]

end Go.VL

/- NegoAcks: at every protocol and every packet the law answers true, and leaves its arguments as they were. Conditions: none. -/
namespace Go.Proofs.YtonjofnphkghcaaDoor
open Go.VL Go.ChangeShapes Go.WideShapes Go.RowKit

theorem negoAcks_calls (vs : List V) (h : argsV [shNego, shPkt] vs) : VCalls Tryd.prog 4 vs [] fun r _ => r = .bool true := by
  obtain ⟨c1, r1, rfl, h1, c2, r2, rfl, h2, rfl⟩ := h
  obtain ⟨n, e1, hps⟩ := nego_of h1
  obtain ⟨p, e2, hp⟩ := pkt_of h2
  show VCalls Tryd.prog _ [.agg c1, .agg c2] _ _
  rw [e1, e2]
  exact (c_lacks n p hps hp []).mono fun _ _ h => h.1

set_option maxRecDepth 100000 in
theorem negoAcks_lifted (os : Os) (started : os.Started) (H : Type) (enc : TypeId × Value → H) :
    ReturnsInHanded {} Tryd.checked os 4 .any (fun w args => (Rows.negoAcksSpec.pre enc Tryd.prog Tryd.f4 Rows.negoAcksRow.domain false w args ∧ laidMetH Tryd.prog laidL w) ∧ sizedMet enc Tryd.prog Tryd.f4 (OpenSpec.ofChange Rows.negoAcksSpec) false w args)
      (Rows.negoAcksSpec.post enc Tryd.prog Tryd.f4 false true false false) := by
  refine returnsInHanded_of_change_and (C := Tryd.checked) (X := fun w _ => laidMetH Tryd.prog laidL w) (fun _ _ _ hh h => h.of_heap hh) own started (by kernel_rfl) Tryd.func4
    (ChangeSpec.witness_shaped (enc := enc) (C := Tryd.checked) (os := os) (X := fun w _ => laidMetH Tryd.prog laidL w) false (World.laidAll Tryd.prog os laidL) #[.agg #[.int .i64 0, .int .i64 0, .int .i64 0, .int .u8 0, .bool false, .int .u32 0, .int .u32 0, .int .u32 0, .int .u32 0, .slice none 0 0, .int .i64 0, .slice none 0 0], .agg #[.int .u8 0, .int .u8 0, .slice none 0 0]] 8 (World.laidAll_os _ _ _)
      (World.shaped_of_ZipB (by kernel_rfl) (by kernel_rfl)) (by kernel_rfl) (by kernel_rfl) (by kernel_rfl)
      (by rw [MakeChecks.laidMetH_plain _ _ _ (by kernel_rfl)]; exact laidMet_laidAll _ (by kernel_rfl) (by kernel_rfl))) ?_
  intro W base args ds gs before hval0 hW hcnd hsz0 hL _
  have hW' := hW
  obtain ⟨p, q, hA0, hV, rfl, hfz, hnd⟩ := hW
  obtain ⟨rfl, rfl⟩ := trodVars_none hV
  have hval : ∀ (j : Nat) t v, (Tryd.f4.params.toList)[j]? = some t → args.toList[j]? = some v → Value.okWide Tryd.prog W .any base t v := fun j t v h1 h2 => hval0 j t v (by simpa using h1) (by simpa using h2)
  refine (law_calls_g (ss := [shNego, shPkt]) (by kernel_rfl) negoAcks_calls (glo_of hL) hval hA0 hsz0).mono fun e W' ⟨he, bel⟩ => ?_
  subst he
  have hb := again_of' laidOut bel (by kernel_rfl) hA0
  obtain ⟨v0, vs0, d0, ds0, p0, q0, e0a, rfl, e0b, h0, r0⟩ := trodAll_cons (show DataW.TrodAll enc Tryd.prog W 0 (fun _ => true) true [29, 32] args.toList ds p from hA0)
  obtain ⟨v1, vs1, d1, ds1, p1, q1, e1a, rfl, e1b, h1, r1⟩ := trodAll_cons r0
  obtain ⟨_, rfl, _⟩ := trodAll_nil r1
  exact ⟨_, rfl, _, _, _, [], _, [], hW', trodAll_mk1 (shut_bool Tryd.underlying4 _), hb, rfl, bel.frame _, fun h => by cases h⟩

theorem negoAcks_holds : Rows.NegoAcksSaid :=
  OpenClaim.holds_of_wide 4 Tryd.f4 rfl rfl rfl rfl rfl rfl rfl ⟨rfl, rfl, rfl, rfl, rfl⟩ rfl rfl rfl rfl rfl (by kernel_rfl) Tryd.func4 (by kernel_rfl)
    (of_decide_eq_true (by kernel_rfl)) (by unfold Func.isWrapper; first | (rw [if_pos (by decide +kernel)]; kernel_rfl) | (rw [if_neg (by decide +kernel)]; exact ⟨rfl, rfl⟩))
    (fun os started H enc _ => negoAcks_lifted os started H enc)
theorem negoAcks_card : Rows.NegoAcksCardSaid :=
  Claim7.holds_tied_plain_at .later [] [.listed, .data] true (true, "17513860bfd2e1a7c8681d4397f10b1ef564f10324ec62577607b0678db139ca") false
    negoAcks_holds (fun _ h => by cases h) (by kernel_rfl) (fun _ h => by cases h) negoAcks_row_tie rfl ⟨rfl, rfl⟩ (by kernel_rfl) rfl
    (fun f fn hf hfn => by
      obtain rfl : f = 4 := Option.some.inj ((show Tryd.prog.funcNamed "portreeve/portreevelaw14.NegoAcks" = some 4 by kernel_rfl).symm.trans hf) |>.symm
      obtain rfl : fn = Tryd.f4 := (Option.some.inj (Tryd.func4.symm.trans hfn)).symm
      exact ⟨by kernel_rfl, fun j t ht => by
        have ht : (#[29, 32] : Array TypeId)[j]? = some t := ht
        have hm : t ∈ [29, 32] := by simpa using Array.mem_of_getElem? ht
        have hall : ([29, 32].all fun u => !Tryd.prog.wantsStandIn u) = true := by kernel_rfl
        exact (show Tryd.prog.wantsStandIn t = false by simpa using List.all_eq_true.1 hall t hm)⟩)
    (by kernel_rfl)
#print axioms negoAcks_holds
#print axioms negoAcks_card

end Go.Proofs.YtonjofnphkghcaaDoor
