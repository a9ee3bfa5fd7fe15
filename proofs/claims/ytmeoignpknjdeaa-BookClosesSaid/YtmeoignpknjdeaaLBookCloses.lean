/- BookCloses: at every book the law answers true, and leaves its argument as it was. Conditions: none. -/
import Derived.Test.YtmeoignpknjdeaaSSc
set_option linter.unusedVariables false
set_option linter.unusedSimpArgs false
/- BookCloses over values. Conditions: none. -/
namespace Go.VL
open Go.Proofs

theorem right_closeS {b : BV} (R : RightP b) : ∀ k, k ≤ b.ol.length → RightP (closeS b k)
  | 0, _ => R
  | k + 1, h => by
    have := right_apply (right_closeS R k (by omega)) (clO b.ol[k])
    rwa [closeS_step R.f (by omega)] at this
theorem right_closeP {b : BV} (R : RightP b) : RightP (closeP b) := right_closeS R _ (Nat.le_refl _)
theorem closeP_ol (b : BV) : (closeP b).ol = [] := by unfold closeP; rw [closeS_ol, List.drop_length]
theorem closeP_nil {c : BV} (h : c.ol = []) : closeP c = c := by unfold closeP; rw [h]; rfl
theorem free_nil {c : BV} (h : c.ol = []) : freeP c = (167772161, true) := by unfold freeP; rw [h]; rfl

def cntK (id kind : Int) (l : List IV) : Nat := l.countP fun x => x.id == id && x.kind == kind
theorem cntK_take (id kind : Int) {l : List IV} {i : Nat} (h : i < l.length) : cntK id kind (l.take (i + 1)) = cntK id kind (l.take i) + (bif l[i].id == id && l[i].kind == kind then 1 else 0) := by
  unfold cntK
  rw [List.take_succ_eq_append_getElem h, List.countP_append, List.countP_cons, List.countP_nil]
  cases l[i].id == id && l[i].kind == kind <;> simp
theorem cntK_le (id kind : Int) (l : List IV) (i : Nat) : cntK id kind (l.take i) ≤ i := Nat.le_trans List.countP_le_length (by simp; omega)
def cntOK (id : Int) (l : List IV) : Prop := match prevOf id l with
  | none => cntK id 1 l = 0 ∧ cntK id 3 l = 0
  | some y => cntK id 1 l = 1 ∧ cntK id 3 l = (if y.kind = 3 then 1 else 0)
theorem cnt_lines {n : Int} {l : List IV} (hl : ∀ (i : Nat) (h : i < l.length), lineB n (l.take i) l[i] = true) (id : Int) : ∀ m, m ≤ l.length → cntOK id (l.take m)
  | 0, _ => ⟨rfl, rfl⟩
  | m + 1, h => by
    have ih := cnt_lines hl id m (by omega)
    unfold cntOK at *
    rw [prevOf_take id (by omega), cntK_take id 1 (by omega), cntK_take id 3 (by omega)]
    have hb := hl m (by omega)
    unfold lineB at hb
    simp only [Bool.and_eq_true] at hb
    have hb := hb.2
    by_cases e : l[m].id = id
    · have e1 : idI id l[m] = true := by simp [idI, e]
      have e2 : (l[m].id == id) = true := by simp [e]
      rw [e1, e2]
      rw [e] at hb
      cases hp : prevOf id (l.take m) with
      | none =>
        rw [hp] at ih hb
        simp only at ih hb
        unfold startB at hb
        simp only [Bool.and_eq_true, beq_iff_eq] at hb
        simp [hb.1.1.1, ih.1, ih.2]
      | some y =>
        rw [hp] at ih hb
        simp only at ih hb
        unfold onB at hb
        simp only [Bool.and_eq_true, Bool.not_eq_true', beq_eq_false_iff_ne] at hb
        obtain ⟨⟨⟨b1, _⟩, _⟩, b2⟩ := hb
        rw [if_neg b1] at ih
        cases hc : l[m].kind == 2 && l[m].cause == 0
        · rw [hc] at b2
          simp only [cond_false, Bool.and_eq_true, beq_iff_eq] at b2
          simp [b2.1.1, ih.1, ih.2]
        · simp only [Bool.and_eq_true, beq_iff_eq] at hc
          simp [hc.1, ih.1, ih.2]
    · have e1 : idI id l[m] = false := by simp [idI, e]
      have e2 : (l[m].id == id) = false := by simp [e]
      rw [e1, e2]
      simpa using ih
theorem prev_none {id : Int} {l : List IV} (h : prevOf id l = none) {x : IV} (hx : x ∈ l) : x.id ≠ id := by
  rcases last_prev id l l.length (Nat.le_refl _) with ⟨h1, _⟩ | ⟨n, _, _, _, h1, _⟩
  · rcases lastL_spec (idI id) l l.length (Nat.le_refl _) with ⟨_, h2⟩ | ⟨i, _, _, h2, _⟩
    · rw [List.take_length] at h2
      have := List.all_eq_true.1 h2 x hx
      simpa [idI] using this
    · rw [h1] at h2
      exact absurd h2 (by omega)
  · rw [List.take_length, h] at h1; cases h1
theorem cnt_closed {c : BV} (R : RightP c) (ho : c.ol = []) {x : IV} (hx : x ∈ c.il) : cntK x.id 1 c.il = 1 ∧ cntK x.id 3 c.il = 1 := by
  have h := cnt_lines R.line x.id c.il.length (Nat.le_refl _)
  have hs := R.st x.id
  rw [List.take_length] at h
  unfold cntOK at h
  rw [ho] at hs
  cases hp : prevOf x.id c.il with
  | none => exact absurd rfl (prev_none hp hx)
  | some y =>
    rw [hp] at h hs
    have hk : y.kind = 3 := hs
    simp only [hk, if_true] at h
    exact h

set_option maxHeartbeats 4000000 in
set_option maxRecDepth 20000 in
theorem c_lcloses (b : BV) (ok : BOK b) (h1 : b.ol.length < 4611686018427387904) (h2 : b.il.length < 4611686018427387904) (σ : St) :
    VCalls Try.prog 5 [bkv b] σ fun r σ' => r = .bool true := by
  refine vcalls_intro (C := cfg Try.prog [] [] []) (cfg_ok mixed) Try.func5 rfl rfl rfl rfl rfl ?_
  simp -implicitDefEqProofs only [go_sem, bkv, bvC]
  refine vgo_call rfl rfl rfl rfl (c_shown σ) ?_
  simp -implicitDefEqProofs only [go_sem]
  refine vgo_call rfl rfl rfl rfl (c_rright b h1 h2 σ) ?_
  cases hR : rightB b
  · simp -implicitDefEqProofs only [go_sem]
  have R := ((right_iff b).1 hR).p
  have hlen := R.len
  have hcc := c_bclose b R.f ok σ
  have Rc := right_closeP R
  have okc : BOK (closeP b) := closeS_ok ok _
  have hol := closeP_ol b
  have hnx : (closeP b).next = b.next := closeS_next _ _
  have hil : (closeP b).il.length = b.il.length + b.ol.length := by
    unfold closeP
    rw [closeS_il]
    simp
  have hll : (closeP b).ll = b.ll := (closeS_ll _ _).1
  generalize closeP b = c at hcc Rc okc hol hnx hil hll
  have hlc := Rc.len
  have hlk := Rc.lks
  have hcf := c_free c (by unfold lim; omega) σ
  rw [free_nil hol] at hcf
  have hcr := c_rright c (by omega) (by omega) σ
  rw [(right_iff _).2 Rc.f] at hcr
  have hc2 := c_bclose c Rc.f okc σ
  rw [closeP_nil hol] at hc2
  have hcs := c_rsame c c (by unfold lim; omega) (by unfold lim; omega) (by unfold lim; omega) σ
  rw [sameB_self] at hcs
  have hol0 : c.ol.length = 0 := by rw [hol]; rfl
  have e0 : (((0 : Nat) : Int) == 0) = true := rfl
  have e1 : (((1 : Nat) : Int) == 1) = true := rfl
  have en : (b.next == b.next) = true := by simp
  have hw0 : IntKind.i64.wrap ((b.il.length : Int) + (b.ol.length : Int)) = ((b.il.length + b.ol.length : Nat) : Int) := by rw [IntKind.wrap_i64]; omega
  have el : (((b.il.length + b.ol.length : Nat) : Int) == ((b.il.length + b.ol.length : Nat) : Int)) = true := by simp
  have ell : ((b.ll.length : Int) == (b.ll.length : Int)) = true := by simp
  simp -implicitDefEqProofs only [go_sem]
  refine vgo_call rfl rfl rfl rfl hcc ?_
  simp -implicitDefEqProofs only [go_sem, bkv, bvC]
  refine vgo_call rfl rfl rfl rfl hcf ?_
  simp -implicitDefEqProofs only [go_sem, bkv, bvC]
  refine w_walk2 [] [0, 1, 2, 3, 4, 5, 6, 7, 8, 9, 10, 11, 12, 13, 14, 15, 16, 17, 18, 19, 20, 21, 22, 23, 24, 25, 26, 27, 28, 29, 30, 31, 32, 33, 34, 35, 36, 37, 38, 39, 40, 41, 42, 43] [23, 24, 25, 26, 27, 28, 29, 30, 31, 32, 33, 34, 35, 36, 37, 38, 39, 40, 41, 42, 43, 44, 45, 46, 47, 48, 49, 50, 51, 52, 53, 54, 55, 56, 57, 58, 59, 60, 61, 62, 63, 64, 65, 66] [0, 1, 3, 7, 15, 31, 63, 127, 255, 511, 1023, 2047, 4095, 8191, 16383, 32767, 65535, 131071, 262143, 524287, 262143, 2097151, 4194303, 8388607, 16777215, 33554431, 67108863, 33554431, 167772159, 536870911, 1073741823, 2147483647, 4294967295, 8589934591, 17179869183, 4294967295, 38654705663, 107374182399, 4294967295, 279172874239, 828928688127, 2168958484479, 4398046511103, 8796093022207] rfl rfl rfl rfl ?_
  simp -implicitDefEqProofs only [go_sem, bkv, bvC, svs_length, hol0, e0, bne]
  refine vdgo_call rfl rfl rfl rfl hcr ?_
  simp -implicitDefEqProofs only [go_sem, bkv, bvC]
  refine vdgo_call rfl rfl rfl rfl hc2 ?_
  simp -implicitDefEqProofs only [go_sem, bkv, bvC]
  refine vdgo_call rfl rfl rfl rfl hcs ?_
  simp -implicitDefEqProofs only [go_sem, bkv, bvC, hnx, en, ivs_length, svs_length, hil, hw0, el, bne]
  refine w_loop (fun i => i ≤ c.il.length) (fun i => [(7, .int .i64 i), (4, .cell (bvC c)), (3, .bool true), (2, .bool false), (1, .ip (bvC b))]) (fun _ => σ) (fun i => c.il.length - i) 0 (Nat.zero_le _) ?_ rfl ?_
  · simp -implicitDefEqProofs only [go_sem, bvC, hnx]
    rfl
  intro i hi
  rcases Nat.lt_or_ge i c.il.length with h | h
  · have hw : IntKind.i64.wrap ((i : Int) + 1) = ((i + 1 : Nat) : Int) := wrap_ok (by omega) (by omega)
    obtain ⟨k1, k2⟩ := cnt_closed Rc hol (List.getElem_mem h)
    simp -implicitDefEqProofs only [go_sem, bvC, ivs_length, h, ivs_getD h]
    refine w_loop (fun k => k ≤ c.il.length) (fun k => [(10, .int .i64 k), (9, .int .i64 (cntK c.il[i].id 1 (c.il.take k))), (8, .int .i64 (cntK c.il[i].id 3 (c.il.take k))), (7, .int .i64 i), (4, .cell (bvC c)), (3, .bool true), (2, .bool false), (1, .ip (bvC b))]) (fun _ => σ) (fun k => c.il.length - k) 0 (Nat.zero_le _) ?_ rfl ?_
    · simp -implicitDefEqProofs only [go_sem, bvC]
      exact ⟨rfl, rfl, rfl⟩
    intro k hk
    rcases Nat.lt_or_ge k c.il.length with hkl | hkl
    · have hwk : IntKind.i64.wrap ((k : Int) + 1) = ((k + 1 : Nat) : Int) := wrap_ok (by omega) (by omega)
      have t1 := cntK_take c.il[i].id 1 hkl
      have t3 := cntK_take c.il[i].id 3 hkl
      have u1 : IntKind.i64.wrap ((cntK c.il[i].id 1 (c.il.take k) : Int) + 1) = ((cntK c.il[i].id 1 (c.il.take k) + 1 : Nat) : Int) := by have := cntK_le c.il[i].id 1 c.il k; exact wrap_ok (by omega) (by omega)
      have u3 : IntKind.i64.wrap ((cntK c.il[i].id 3 (c.il.take k) : Int) + 1) = ((cntK c.il[i].id 3 (c.il.take k) + 1 : Nat) : Int) := by have := cntK_le c.il[i].id 3 c.il k; exact wrap_ok (by omega) (by omega)
      simp -implicitDefEqProofs only [go_sem, bvC, ivs_length, hkl]
      refine w_walk2 [] [0, 1, 2, 3, 4, 5, 6, 7, 8, 9, 10, 11, 12, 13, 14, 15, 16, 17, 18, 19, 20, 21] [81, 82, 83, 84, 85, 86, 87, 88, 89, 90, 91, 92, 93, 94, 95, 96, 97, 98, 99, 100, 101, 102] [0, 1, 0, 7, 15, 31, 0, 64, 0, 448, 960, 1984, 4095, 8191, 16383, 32767, 16383, 131071, 262143, 524287, 1048575, 2097151] rfl rfl rfl rfl ?_
      simp -implicitDefEqProofs only [go_sem, bvC, ivs_length, h, hkl, ivs_getD h, ivs_getD hkl]
      cases q1 : c.il[k].id == c.il[i].id
      · rw [q1] at t1 t3
        simp -implicitDefEqProofs only [go_sem, q1]
        refine w_walk2 [] [0, 1, 2, 3, 4, 5, 6, 7, 8, 9, 10, 11, 12, 13, 14, 15, 16, 17, 18, 19, 20, 21] [105, 106, 107, 108, 109, 110, 111, 112, 113, 114, 115, 116, 117, 118, 119, 120, 121, 122, 123, 124, 125, 126] [0, 1, 0, 7, 15, 31, 0, 64, 0, 448, 960, 1984, 4095, 8191, 16383, 32767, 16383, 131071, 262143, 524287, 1048575, 2097151] rfl rfl rfl rfl ?_
        simp -implicitDefEqProofs only [go_sem, bvC, ivs_length, h, hkl, ivs_getD h, ivs_getD hkl, q1]
        refine l_next (k + 1) hkl (by omega) ?_ rfl
        simp -implicitDefEqProofs only [go_sem, bvC, hwk, t1, t3, u1, u3, q1, Bool.false_and, Bool.true_and, Bool.and_false, Bool.and_true, cond_true, cond_false, Nat.add_zero]
      cases q3 : c.il[k].kind == 3
      · cases q2 : c.il[k].kind == 1
        · rw [q1, q2] at t1
          rw [q1, q3] at t3
          simp -implicitDefEqProofs only [go_sem, ivs_length, hkl, ivs_getD hkl, q1, q3]
          refine w_walk2 [] [0, 1, 2, 3, 4, 5, 6, 7, 8, 9, 10, 11, 12, 13, 14, 15, 16, 17, 18, 19, 20, 21] [105, 106, 107, 108, 109, 110, 111, 112, 113, 114, 115, 116, 117, 118, 119, 120, 121, 122, 123, 124, 125, 126] [0, 1, 0, 7, 15, 31, 0, 64, 0, 448, 960, 1984, 4095, 8191, 16383, 32767, 16383, 131071, 262143, 524287, 1048575, 2097151] rfl rfl rfl rfl ?_
          simp -implicitDefEqProofs only [go_sem, bvC, ivs_length, h, hkl, ivs_getD h, ivs_getD hkl, q1, q2]
          refine l_next (k + 1) hkl (by omega) ?_ rfl
          simp -implicitDefEqProofs only [go_sem, bvC, hwk, t1, t3, u1, u3, q1, Bool.false_and, Bool.true_and, Bool.and_false, Bool.and_true, cond_true, cond_false, Nat.add_zero]
        · rw [q1, q2] at t1
          rw [q1, q3] at t3
          simp -implicitDefEqProofs only [go_sem, ivs_length, hkl, ivs_getD hkl, q1, q3]
          refine w_walk2 [] [0, 1, 2, 3, 4, 5, 6, 7, 8, 9, 10, 11, 12, 13, 14, 15, 16, 17, 18, 19, 20, 21] [105, 106, 107, 108, 109, 110, 111, 112, 113, 114, 115, 116, 117, 118, 119, 120, 121, 122, 123, 124, 125, 126] [0, 1, 0, 7, 15, 31, 0, 64, 0, 448, 960, 1984, 4095, 8191, 16383, 32767, 16383, 131071, 262143, 524287, 1048575, 2097151] rfl rfl rfl rfl ?_
          simp -implicitDefEqProofs only [go_sem, bvC, ivs_length, h, hkl, ivs_getD h, ivs_getD hkl, q1, q2]
          refine l_next (k + 1) hkl (by omega) ?_ rfl
          simp -implicitDefEqProofs only [go_sem, bvC, hwk, t1, t3, u1, u3, q1, Bool.false_and, Bool.true_and, Bool.and_false, Bool.and_true, cond_true, cond_false, Nat.add_zero]
      · have q2 : (c.il[k].kind == 1) = false := by
          have := beq_iff_eq.1 q3
          rw [this]; rfl
        rw [q1, q2] at t1
        rw [q1, q3] at t3
        simp -implicitDefEqProofs only [go_sem, ivs_length, hkl, ivs_getD hkl, q1, q3]
        refine w_walk2 [] [0, 1, 2, 3, 4, 5, 6, 7, 8, 9, 10, 11, 12, 13, 14, 15, 16, 17, 18, 19, 20, 21] [105, 106, 107, 108, 109, 110, 111, 112, 113, 114, 115, 116, 117, 118, 119, 120, 121, 122, 123, 124, 125, 126] [0, 1, 0, 7, 15, 31, 0, 64, 0, 448, 960, 1984, 4095, 8191, 16383, 32767, 16383, 131071, 262143, 524287, 1048575, 2097151] rfl rfl rfl rfl ?_
        simp -implicitDefEqProofs only [go_sem, bvC, ivs_length, h, hkl, ivs_getD h, ivs_getD hkl, q1, q2]
        refine l_next (k + 1) hkl (by omega) ?_ rfl
        simp -implicitDefEqProofs only [go_sem, bvC, hwk, t1, t3, u1, u3, q1, Bool.false_and, Bool.true_and, Bool.and_false, Bool.and_true, cond_true, cond_false, Nat.add_zero]
    · have hh : ¬ (k < c.il.length) := by omega
      simp -implicitDefEqProofs only [go_sem, bvC, ivs_length, hh]
      refine l_exit ?_
      rw [List.take_of_length_le hkl, k1, k2]
      simp -implicitDefEqProofs only [go_sem, e1, bne]
      refine l_next (i + 1) h (by omega) ?_ rfl
      simp -implicitDefEqProofs only [go_sem, bvC, hw]
  · have hh : ¬ (i < c.il.length) := by omega
    simp -implicitDefEqProofs only [go_sem, bvC, ivs_length, hh]
    refine l_exit ?_
    simp -implicitDefEqProofs only [go_sem, bvC, lvs_length, hll, ell]

end Go.VL

/- BookCloses: at every book the law answers true, and leaves its argument as it was. Conditions: none. -/
namespace Go.Proofs.Ytmeoignpknjdeaa
open Go.VL Go.ChangeShapes Go.WideShapes Go.RowKit

theorem bookCloses_calls (vs : List V) (h : argsV [shBook] vs) : VCalls Try.prog 5 vs [] fun r _ => r = .bool true := by
  obtain ⟨c1, r1, rfl, h1, rfl⟩ := h
  obtain ⟨b, e1, ok, l1, l2, l3⟩ := book_of h1
  show VCalls Try.prog _ [.agg c1] _ _
  rw [e1]
  exact c_lcloses b ok l1 l2 []

theorem bookCloses_lifted (os : Os) (started : os.Started) (H : Type) (enc : TypeId × Value → H) :
    ReturnsInHanded {} Try.checked os 5 .any (Rows.bookClosesSpec.pre6 enc Try.prog Try.f5 Rows.bookClosesRow.domain false) (Rows.bookClosesSpec.post enc Try.prog Try.f5 false true false false) := by
  refine returnsInHanded_of_change_sized (C := Try.checked) own started (by kernel_rfl) Try.func5
    (ChangeSpec.witness6 (enc := enc) (C := Try.checked) false ⟨#[], #[.agg #[.int .i64 0, .slice none 0 0, .slice none 0 0, .slice none 0 0]], []⟩ 8 (by kernel_rfl) (by kernel_rfl) (by kernel_rfl) (by kernel_rfl)) ?_
  intro W base args ds gs before hval0 hW hcnd hsz0 _
  have hW' := hW
  obtain ⟨p, q, hA0, hV, rfl, hfz, hnd⟩ := hW
  obtain ⟨rfl, rfl⟩ := trodVars_none hV
  have hval : ∀ (j : Nat) t v, (Try.f5.params.toList)[j]? = some t → args.toList[j]? = some v → Value.okWide Try.prog W .any base t v := fun j t v h1 h2 => hval0 j t v (by simpa using h1) (by simpa using h2)
  refine (law_calls (fun _ => rfl) (ss := [shBook]) (by kernel_rfl) bookCloses_calls hval hA0 hsz0).mono fun e W' ⟨he, bel⟩ => ?_
  subst he
  have hb := again_of' laidOut bel (by kernel_rfl) hA0
  obtain ⟨v0, vs0, d0, ds0, p0, q0, e0a, rfl, e0b, h0, r0⟩ := trodAll_cons (show DataW.TrodAll enc Try.prog W 0 (fun _ => true) true [26] args.toList ds p from hA0)
  obtain ⟨_, rfl, _⟩ := trodAll_nil r0
  exact ⟨_, rfl, _, _, _, [], _, [], hW', trodAll_mk1 (shut_bool Try.underlying4 _), hb, rfl, bel.frame _, fun h => by cases h⟩

theorem bookCloses_holds : Rows.BookClosesSaid :=
  OpenClaim.holds_of_wide 5 Try.f5 rfl rfl rfl rfl rfl rfl rfl ⟨rfl, rfl, rfl, rfl, rfl⟩ rfl rfl rfl rfl rfl (by kernel_rfl) Try.func5 (by kernel_rfl)
    (of_decide_eq_true (by kernel_rfl)) (by unfold Func.isWrapper; first | (rw [if_pos (by decide +kernel)]; kernel_rfl) | (rw [if_neg (by decide +kernel)]; exact ⟨rfl, rfl⟩))
    (fun os started H enc _ => bookCloses_lifted os started H enc)
#print axioms bookCloses_holds

end Go.Proofs.Ytmeoignpknjdeaa
