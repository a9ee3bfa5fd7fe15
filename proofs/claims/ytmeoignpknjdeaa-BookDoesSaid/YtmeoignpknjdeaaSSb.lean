/- Contracts of this program's functions over values, joined texts. Conditions: none. -/
import Derived.Test.YtmeoignpknjdeaaSSa
set_option linter.unusedVariables false
set_option linter.unusedSimpArgs false
/- Contracts of this program's functions: a book at work, first part. Conditions: none. -/
namespace Go.VL
open Go.Proofs

theorem c_open1 (s : SV) (o : PV) (σ : St) : VCalls Try.prog 49 [.agg (svC s), .ip (pvC o)] σ fun r σ' => r = .bool (s.link == o.link || s.addr == o.addr) ∧ σ' = σ := by
  refine vcalls_intro (C := cfg Try.prog [] [] []) (cfg_ok mixed) Try.func49 rfl rfl rfl rfl rfl ?_
  simp only [go_sem, svC, pvC]
  cases h : s.link == o.link <;> simp only [go_sem, h]
theorem c_at1 (s : SV) (o : PV) (σ : St) : VCalls Try.prog 67 [.agg (svC s), .ip (pvC o)] σ fun r σ' => r = .bool (idS o.id s) ∧ σ' = σ := by
  refine vcalls_intro (C := cfg Try.prog [] [] []) (cfg_ok mixed) Try.func67 rfl rfl rfl rfl rfl ?_
  simp only [go_sem, svC, pvC, idS]
theorem c_lock1 (s : LV) (o : PV) (σ : St) : VCalls Try.prog 69 [.agg (lvC s), .ip (pvC o)] σ fun r σ' => r = .bool (usL o.user s) ∧ σ' = σ := by
  refine vcalls_intro (C := cfg Try.prog [] [] []) (cfg_ok mixed) Try.func69 rfl rfl rfl rfl rfl ?_
  simp only [go_sem, lvC, pvC, usL, strEq_dec]
theorem c_trim11 (s : SV) (x : IV) (σ : St) : VCalls Try.prog 61 [.agg (svC s), .ip (ivC x)] σ fun r σ' => r = .bool (idS x.id s) ∧ σ' = σ := by
  refine vcalls_intro (C := cfg Try.prog [] [] []) (cfg_ok mixed) Try.func61 rfl rfl rfl rfl rfl ?_
  simp only [go_sem, svC, ivC, idS]
theorem c_free1 (s : SV) (a : Int) (σ : St) (id : Nat) (hσ : σ[id]? = some (.box [.int .u32 a])) : VCalls Try.prog 43 [.agg (svC s), .ptr id 0] σ fun r σ' => r = .bool (s.addr == a) ∧ σ' = σ := by
  refine vcalls_intro (C := cfg Try.prog [] [] []) (cfg_ok mixed) Try.func43 rfl rfl rfl rfl rfl ?_
  simp only [go_sem, svC, hσ]

/-- Is there room for so many more? -/
theorem c_room (b : BV) (n : Int) (h0 : 0 ≤ n) (h1 : n ≤ 10) (hl : b.il.length + b.ol.length ≤ 60) (σ : St) (id : Nat) (hσ : σ[id]? = some (.box (bvC b))) : VCalls Try.prog 50 [.ptr id 0, .int .i64 n] σ fun r σ' => r = .bool (decide (((b.il.length + b.ol.length : Nat) : Int) + n ≤ 60)) ∧ σ' = σ := by
  refine vcalls_intro (C := cfg Try.prog [] [] []) (cfg_ok mixed) Try.func50 rfl rfl rfl rfl rfl ?_
  simp only [go_sem]
  refine w_walk3 [] [0, 1, 2, 3, 4, 5, 6, 7, 8, 9, 10, 11, 12, 13, 14, 15, 16] [5, 6, 7, 8, 9, 10, 11, 12, 13, 14, 15, 16, 17, 18, 19, 20, 4] [0, 1, 3, 7, 15, 31, 0, 64, 192, 448, 960, 1984, 4095, 0, 16383, 32767, 65535] [4] rfl rfl rfl rfl rfl ?_
  have hw1 : IntKind.i64.wrap ((b.il.length : Int) + (b.ol.length : Int)) = ((b.il.length + b.ol.length : Nat) : Int) := by rw [IntKind.wrap_i64]; omega
  have hw2 : IntKind.i64.wrap (((b.il.length + b.ol.length : Nat) : Int) + n) = ((b.il.length + b.ol.length : Nat) : Int) + n := by rw [IntKind.wrap_i64]; omega
  simp only [go_sem, hσ, bvC, svs_length, ivs_length, hw1, hw2]

/-- A line more. -/
theorem c_line (nx : V) (O L : V) (nl c : Bool) (l : List IV) (x : IV) (hl : l.length < lim) (σ : St) (id : Nat) (hσ : σ[id]? = some (.box [nx, O, .sl nl c 5 (ivs l), L])) : VCalls Try.prog 52 [.ptr id 0, .agg (ivC x)] σ fun r σ' => r = .tup [] ∧ σ' = σ.set id (.box [nx, O, .sl false false 5 (ivs (l ++ [x])), L]) := by
  refine vcalls_keep (C := cfg Try.prog [] [] [13]) (cfg_ok mixed) Try.func52 rfl rfl rfl rfl rfl ?_
  simp only [go_sem, ivC]
  refine w_walk2 [9, 13] [0, 1, 2, 3, 4, 5, 6, 7, 8, 9, 10, 11, 12, 13] [4, 5, 6, 7, 8, 9, 10, 11, 12, 14, 15, 16] [0, 0, 2, 6, 14, 30, 62, 0, 128, 510, 1023, 2047, 4095, 8191] rfl rfl rfl rfl ?_
  simp only [go_sem, hσ]
  refine vdgo_call rfl rfl rfl rfl (c_clipI _ _ _ _) ?_
  simp only [go_sem, hσ, ivs_length]
  exact ⟨hl, by simp [ivs, iv, ivC]⟩

/-- Where an open session stands, or what is wrong. -/
def atP (b : BV) (o : PV) : Int × Int := match b.ol.find? (idS o.id) with
  | none => (0, 5)
  | some s => bif decide (s.inn ≤ o.inn) && decide (s.out ≤ o.out) then (idxL (idS o.id) b.ol, 0) else (0, 7)
theorem find_none {α : Type} {p : α → Bool} {l : List α} (h : noneL p l = true) : l.find? p = none := by
  rw [List.find?_eq_none]
  intro o ho
  have := List.all_eq_true.1 h o ho
  simpa using this
theorem find_at {α : Type} {p : α → Bool} : ∀ {l : List α} {i : Nat} (h : i < l.length), noneL p (l.take i) = true → p l[i] = true → l.find? p = some l[i]
  | o :: l, 0, _, _, hp => by simp only [List.getElem_cons_zero] at hp; simp [hp]
  | o :: l, i + 1, h, hn, hp => by
    simp only [noneL, List.take_succ_cons, List.all_cons, Bool.and_eq_true, Bool.not_eq_true'] at hn
    have := find_at (l := l) (i := i) (by simpa using h) hn.2 (by simpa using hp)
    simpa [List.find?_cons, hn.1] using this

theorem c_at (b : BV) (o : PV) (hl : b.ol.length ≤ lim) (σ : St) (id : Nat) (hσ : σ[id]? = some (.box (bvC b))) : VCalls Try.prog 53 [.ptr id 0, pv o] σ fun r σ' => r = .tup [.int .i64 (atP b o).1, .int .i64 (atP b o).2] ∧ σ' = σ := by
  refine vcalls_intro (C := cfg Try.prog [] [] []) (cfg_ok mixed) Try.func53 rfl rfl rfl rfl rfl ?_
  simp only [go_sem, pv, pvC, hσ, bvC]
  refine vgo_call rfl rfl rfl rfl (c_indexS _ _ b.ol (idS o.id) _ [] _ hl σ fun s => c_at1 s o σ) ?_
  have n1 : ∀ a b : Int, decide (a < b) = !decide (b ≤ a) := fun a b => by rw [Bool.eq_iff_iff]; simp
  rcases idxL_cases (idS o.id) b.ol with h | ⟨i, h1, h2, h3⟩
  · simp only [go_sem, idxL_none h, atP, find_none h]
  · have h0 : decide ((i : Int) < 0) = false := by simp
    simp only [go_sem, idxL_at h1 h2 h3, atP, find_at h1 h2 h3, h0]
    refine w_walk2 [] [0, 1, 2, 3, 4, 5, 6, 7, 8, 9, 10, 11, 12, 13, 14, 15, 16, 17, 18, 19, 20, 21, 22, 23, 24, 25, 26] [18, 19, 20, 21, 22, 23, 24, 25, 26, 27, 28, 29, 30, 31, 32, 33, 34, 35, 36, 37, 38, 39, 40, 41, 42, 43, 17] [0, 1, 0, 4, 12, 28, 60, 0, 252, 508, 1020, 2047, 4095, 8191, 16383, 8191, 40959, 106495, 237567, 499711, 8191, 2072575, 4169727, 8364031, 16777215, 33554431, 67108863] rfl rfl rfl rfl ?_
    simp only [go_sem, hσ, bvC, svs_length, h1, svs_getD h1, n1]
    cases e1 : decide (b.ol[i].inn ≤ o.inn)
    · simp only [go_sem, e1]
    simp only [go_sem, e1, hσ, bvC, svs_length, h1, svs_getD h1, n1]
    cases e2 : decide (b.ol[i].out ≤ o.out) <;> simp only [go_sem, e2]

theorem c_lock (b : BV) (o : PV) (hl : b.ll.length ≤ lim) (σ : St) (id : Nat) (hσ : σ[id]? = some (.box (bvC b))) : VCalls Try.prog 56 [.ptr id 0, pv o] σ fun r σ' => r = .int .i64 (idxL (usL o.user) b.ll) ∧ σ' = σ := by
  refine vcalls_intro (C := cfg Try.prog [] [] []) (cfg_ok mixed) Try.func56 rfl rfl rfl rfl rfl ?_
  simp only [go_sem, pv, pvC, hσ, bvC]
  refine vgo_call rfl rfl rfl rfl (c_indexL _ _ b.ll (usL o.user) _ [] _ hl σ fun s => c_lock1 s o σ) ?_
  simp only [go_sem]

theorem c_trim1 (b : BV) (x : IV) (hl : b.ol.length ≤ lim) (σ : St) (id : Nat) (nx : V) (c : Bool) (I L : V) (nl : Bool) (hσ : σ[id]? = some (.box [nx, .sl nl c 6 (svs b.ol), I, L])) (k : Nat) (hk : σ[k]? = some (.box [.ptr id 0])) : VCalls Try.prog 60 [.agg (ivC x), .ptr k 0] σ fun r σ' => r = .bool (!b.ol.any (idS x.id)) ∧ σ' = σ := by
  refine vcalls_intro (C := cfg Try.prog [] [] []) (cfg_ok mixed) Try.func60 rfl rfl rfl rfl rfl ?_
  simp only [go_sem, ivC, hk, hσ]
  refine vgo_call rfl rfl rfl rfl (c_containsS _ _ b.ol (idS x.id) _ [] _ hl σ fun s => c_trim11 s x σ) ?_
  simp only [go_sem]

end Go.VL

/- Contracts of this program's functions: a book at work, second part. Conditions: none. -/
namespace Go.VL
open Go.Proofs

/-- Is a link, or an address, of an open session's? -/
def busyB (b : BV) (o : PV) : Bool := b.ol.any fun s => s.link == o.link || s.addr == o.addr
def newS (b : BV) (o : PV) : SV := ⟨b.next, o.link, o.addr, o.user, 0, 0⟩
def openP (b : BV) (o : PV) : BV := { b with next := b.next + 1, ol := b.ol ++ [newS b o], on := false, il := b.il ++ [⟨1, b.next, 0, 0, 0⟩], inl := false }
def openE (b : BV) (o : PV) : Int := bif !poolB o.addr then 1 else bif busyB b o then 6 else bif !decide (b.il.length + b.ol.length + 2 ≤ 60) || decide (1000000000 ≤ b.next) then 4 else 0

set_option maxHeartbeats 1000000 in
set_option maxRecDepth 20000 in
theorem c_wopen (b : BV) (o : PV) (ha : o.addr < 4294967296) (hb : 0 ≤ b.next) (hl : b.il.length + b.ol.length ≤ 60) (σ : St) (id : Nat) (hσ : σ[id]? = some (.box (bvC b))) :
    VCalls Try.prog 26 [.ptr id 0, pv o] σ fun r σ' => r = .int .i64 (openE b o) ∧ (openE b o ≠ 0 ∧ σ' = σ ∨ openE b o = 0 ∧ σ' = σ.set id (.box (bvC (openP b o)))) := by
  refine vcalls_keep (C := cfg Try.prog [] [] [52]) (cfg_ok mixed) Try.func26 rfl rfl rfl rfl rfl ?_
  simp only [go_sem, pv, pvC]
  refine vgo_call rfl rfl rfl rfl (c_inPool _ ha σ) ?_
  cases e1 : poolB o.addr
  · have he : openE b o = 1 := by unfold openE; rw [e1]; rfl
    simp only [go_sem, vendK, he]
  simp only [go_sem, hσ, bvC]
  refine vgo_call rfl rfl rfl rfl (c_containsS _ _ b.ol (fun s => s.link == o.link || s.addr == o.addr) _ [] _ (by unfold lim; omega) σ fun s => c_open1 s o σ) ?_
  show vops _ _ _ _ _ _
  have hbu : (b.ol.any fun s => s.link == o.link || s.addr == o.addr) = busyB b o := rfl
  rw [hbu]
  cases e2 : busyB b o
  rotate_left
  · have he : openE b o = 6 := by unfold openE; rw [e1, e2]; rfl
    simp only [go_sem, vendK, he]
  simp only [go_sem]
  refine vgo_call rfl rfl rfl rfl (c_room b 2 (by omega) (by omega) hl σ id hσ) ?_
  have e60 : decide (((b.il.length + b.ol.length : Nat) : Int) + 2 ≤ 60) = decide (b.il.length + b.ol.length + 2 ≤ 60) := by rw [Bool.eq_iff_iff]; simp; omega
  rw [e60]
  cases e3 : decide (b.il.length + b.ol.length + 2 ≤ 60)
  · have he : openE b o = 4 := by unfold openE; rw [e1, e2, e3]; rfl
    simp only [go_sem, vendK, he]
  simp only [go_sem, hσ, bvC]
  cases e4 : decide (1000000000 ≤ b.next)
  rotate_left
  · have he : openE b o = 4 := by unfold openE; rw [e1, e2, e3, e4]; rfl
    simp only [go_sem, e4, vendK, he]
  simp only [go_sem, e4]
  refine w_walk2 [20, 24] [0, 1, 2, 3, 4, 5, 6, 7, 8, 9, 10, 11, 12, 13, 14, 15, 16, 17, 18, 19, 20, 21, 22, 23, 24] [32, 33, 34, 35, 36, 37, 38, 39, 40, 41, 42, 43, 44, 45, 46, 47, 48, 49, 50, 51, 53, 54, 55] [0, 0, 2, 6, 14, 30, 62, 0, 128, 384, 896, 1920, 0, 4096, 0, 16384, 0, 65536, 262016, 524160, 1048574, 2097151, 4194303, 8388607, 16777215] rfl rfl rfl rfl ?_
  have hσ' : σ[id]? = some (.box [.int .i64 b.next, .sl b.on false 6 (svs b.ol), .sl b.inl false 5 (ivs b.il), .sl b.ln false 3 (lvs b.ll)]) := hσ
  simp (maxSteps := 1000000) only [go_sem, hσ']
  refine vdgo_call rfl rfl rfl rfl (c_clipS _ _ _ _) ?_
  simp (maxSteps := 1000000) only [go_sem, hσ', svs_length]
  have hw : IntKind.i64.wrap (b.next + 1) = b.next + 1 := by
    have := of_decide_eq_false e4
    rw [IntKind.wrap_i64]
    omega
  refine ⟨by unfold lim; omega, ?_⟩
  simp only [go_sem, set_self hσ]
  refine vgo_call' rfl rfl rfl (c_line _ _ _ _ _ b.il ⟨1, b.next, 0, 0, 0⟩ (by unfold lim; omega) _ id (set_self hσ)) ?_
  rintro r σ' ⟨rfl, rfl⟩
  refine ⟨rfl, ?_⟩
  simp only [go_sem, set_self hσ, List.set_set, hw]
  have he : openE b o = 0 := by unfold openE; rw [e1, e2, e3, e4]; rfl
  simp only [go_sem, vendK, he, openP, newS, bvC]
  simp [svs, sv, svC]

end Go.VL

/- Contracts of this program's functions: a book at work, third part. Conditions: none. -/
namespace Go.VL
open Go.Proofs

def setS (s : SV) (o : PV) : SV := { s with inn := o.inn, out := o.out }
def atI (b : BV) (o : PV) : Nat := (idxL (idS o.id) b.ol).toNat
def interimRow (b : BV) (o : PV) : List SV := b.ol.set (atI b o) (setS (b.ol.getD (atI b o) ⟨0, 0, 0, ⟨#[]⟩, 0, 0⟩) o)
def interimE (b : BV) (o : PV) : Int := bif !((atP b o).2 == 0) then (atP b o).2 else bif !decide (b.il.length + b.ol.length + 1 ≤ 60) then 4 else 0
def closeRow (b : BV) (o : PV) : List SV := b.ol.eraseIdx (atI b o)

/-- What 'at' tells, told by cases. -/
theorem at_cases (b : BV) (o : PV) : (atP b o = (0, 5)) ∨ (atP b o = (0, 7)) ∨ ∃ i, ∃ h : i < b.ol.length, noneL (idS o.id) (b.ol.take i) = true ∧ idS o.id b.ol[i] = true ∧ b.ol[i].inn ≤ o.inn ∧ b.ol[i].out ≤ o.out ∧ atP b o = ((i : Int), 0) ∧ atI b o = i := by
  unfold atP atI
  rcases idxL_cases (idS o.id) b.ol with h | ⟨i, h1, h2, h3⟩
  · rw [find_none h]
    exact .inl rfl
  · rw [find_at h1 h2 h3, idxL_at h1 h2 h3]
    simp only
    cases e1 : decide (b.ol[i].inn ≤ o.inn)
    · exact .inr (.inl rfl)
    cases e2 : decide (b.ol[i].out ≤ o.out)
    · exact .inr (.inl rfl)
    · exact .inr (.inr ⟨i, h1, h2, h3, of_decide_eq_true e1, of_decide_eq_true e2, rfl, rfl⟩)

theorem set2 {σ : St} {id : Nat} {a b x y : VO} (hid : id < σ.length) : (((σ ++ [a]).set id x).set σ.length b).set id y = (σ ++ [b]).set id y := by
  rw [List.set_comm _ _ (by omega : id ≠ σ.length), List.set_set, set_at]
  rfl

set_option maxHeartbeats 1000000 in
set_option maxRecDepth 20000 in
theorem c_interim (b : BV) (o : PV) (hn : b.on = true → b.ol = []) (hl : b.il.length + b.ol.length ≤ 60) (σ : St) (id : Nat) (hσ : σ[id]? = some (.box (bvC b))) :
    VCalls Try.prog 27 [.ptr id 0, pv o] σ fun r σ' => r = .int .i64 (interimE b o) ∧ (interimE b o ≠ 0 ∧ σ' = σ ∨ interimE b o = 0 ∧ b.ol.length ≠ 0 ∧
      σ' = (σ ++ [VO.arr false 0 6 (svs (interimRow b o))]).set id (VO.box [V.int .i64 b.next, V.rsl σ.length 0 0 b.ol.length, V.sl false false 5 (ivs (b.il ++ [IV.mk 2 o.id o.inn o.out 0])), V.sl b.ln false 3 (lvs b.ll)])) := by
  refine vcalls_keep (C := cfg Try.prog [] [] []) (cfg_ok mixed) Try.func27 rfl rfl rfl rfl rfl ?_
  have hid : id < σ.length := lt_of_some hσ
  simp only [go_sem, pv, pvC]
  refine vgo_call rfl rfl rfl rfl (c_at b o (by unfold lim; omega) σ id hσ) ?_
  rcases at_cases b o with h | h | ⟨i, hi, _, _, _, _, h, hI⟩
  · have he : interimE b o = 5 := by unfold interimE; rw [h]; rfl
    simp only [go_sem, h, vendK, he]
  · have he : interimE b o = 7 := by unfold interimE; rw [h]; rfl
    simp only [go_sem, h, vendK, he]
  simp only [go_sem, h]
  refine vgo_call rfl rfl rfl rfl (c_room b 1 (by omega) (by omega) hl σ id hσ) ?_
  have e60 : decide (((b.il.length + b.ol.length : Nat) : Int) + 1 ≤ 60) = decide (b.il.length + b.ol.length + 1 ≤ 60) := by rw [Bool.eq_iff_iff]; simp; omega
  rw [e60]
  cases e3 : decide (b.il.length + b.ol.length + 1 ≤ 60)
  · have he : interimE b o = 4 := by unfold interimE; rw [h, e3]; rfl
    simp only [go_sem, vendK, he]
  have hσ' : σ[id]? = some (.box [.int .i64 b.next, .sl b.on false 6 (svs b.ol), .sl b.inl false 5 (ivs b.il), .sl b.ln false 3 (lvs b.ll)]) := hσ
  have hon : b.on = false := by
    cases hb : b.on with
    | false => rfl
    | true => rw [hn hb] at hi; exact absurd hi (by simp)
  simp only [go_sem, hσ']
  refine vgo_call' rfl rfl rfl (c_cloneS b.on false b.ol (by unfold lim; omega) σ) ?_
  rintro r σ' (⟨e, _⟩ | ⟨_, rfl, rfl⟩)
  · rw [hon] at e; cases e
  refine ⟨rfl, ?_⟩
  have hσ2 : (σ ++ [VO.arr false 0 6 (svs b.ol)])[id]? = some (.box [.int .i64 b.next, .sl b.on false 6 (svs b.ol), .sl b.inl false 5 (ivs b.il), .sl b.ln false 3 (lvs b.ll)]) := by
    rw [List.getElem?_append_left hid]; exact hσ'
  simp only [go_sem, hσ2]
  refine w_walk2 [18, 21] [0, 1, 2, 3, 4, 5, 6, 7, 8, 9, 10, 11, 12, 13, 14, 15, 16, 17, 18, 19, 20, 21] [31, 32, 33, 34, 35, 36, 37, 38, 39, 40, 41, 42, 43, 44, 45, 46, 47, 48, 49, 50] [0, 1, 3, 7, 15, 0, 0, 64, 192, 448, 960, 0, 0, 4096, 0, 16384, 14335, 79871, 210943, 524287, 1048575, 2097151] rfl rfl rfl rfl ?_
  have hs1 : ∀ x : VO, ((σ ++ [VO.arr false 0 6 (svs b.ol)]).set id x)[σ.length]? = some (.arr false 0 6 (svs b.ol)) := fun x => by
    rw [List.getElem?_set, if_neg (by omega)]; simp
  have hs2 := @set_self _ _ _ (VO.box [.int .i64 b.next, .rsl σ.length 0 0 b.ol.length, .sl b.inl false 5 (ivs b.il), .sl b.ln false 3 (lvs b.ll)]) hσ2
  have hss : ∀ x y : VO, (((σ ++ [VO.arr false 0 6 (svs b.ol)]).set id x).set σ.length y)[id]? = ((σ ++ [VO.arr false 0 6 (svs b.ol)]).set id x)[id]? := fun x y => by
    rw [List.getElem?_set, if_neg (by omega)]
  have hst : ∀ x y : VO, (((σ ++ [VO.arr false 0 6 (svs b.ol)]).set id x).set σ.length y)[σ.length]? = some y := fun x y => by simp
  have hla : ∀ x, ((svs b.ol).set i x).getD i .undef = x := fun x => by simp [svs, hi]
  simp (maxSteps := 1000000) only [go_sem, hs1, hs2, hss, hst, hi, Nat.sub_zero, Nat.zero_add, svs_getD hi, hla, vqg_q, List.set_set]
  refine vgo_call' rfl rfl rfl (c_line _ _ _ _ _ b.il ⟨2, o.id, o.inn, o.out, 0⟩ (by unfold lim; omega) _ id (by rw [hss]; exact hs2)) ?_
  rintro r σ' ⟨rfl, rfl⟩
  refine ⟨rfl, ?_⟩
  have he : interimE b o = 0 := by unfold interimE; rw [h, e3]; rfl
  have hrow : (svs b.ol).set i (.agg [.int .i64 b.ol[i].id, .int .i64 b.ol[i].link, .int .u32 b.ol[i].addr, .str b.ol[i].user, .int .u64 o.inn, .int .u64 o.out]) = svs (interimRow b o) := by
    unfold interimRow
    rw [hI]
    simp [List.getD_eq_getElem?_getD, hi, svs, List.map_set, sv, svC, setS]
  have hne : b.ol.length ≠ 0 := by omega
  simp only [go_sem, vendK, he, hrow]
  refine ⟨hne, ?_⟩
  exact set2 hid

def closeE (b : BV) (o : PV) : Int := (atP b o).2

set_option maxHeartbeats 1000000 in
set_option maxRecDepth 20000 in
theorem c_close (b : BV) (o : PV) (hn : b.on = true → b.ol = []) (hl : b.il.length + b.ol.length ≤ 60) (σ : St) (id : Nat) (hσ : σ[id]? = some (.box (bvC b))) :
    VCalls Try.prog 28 [.ptr id 0, pv o] σ fun r σ' => r = .int .i64 (closeE b o) ∧ (closeE b o ≠ 0 ∧ σ' = σ ∨ closeE b o = 0 ∧ b.ol.length ≠ 0 ∧
      σ' = (σ ++ [VO.arr false 0 6 (svs (closeRow b o) ++ [zS])]).set id (VO.box [V.int .i64 b.next, V.rsl σ.length 0 0 (b.ol.length - 1), V.sl false false 5 (ivs (b.il ++ [IV.mk 3 o.id o.inn o.out o.cause])), V.sl b.ln false 3 (lvs b.ll)])) := by
  refine vcalls_keep (C := cfg Try.prog [] [] []) (cfg_ok mixed) Try.func28 rfl rfl rfl rfl rfl ?_
  have hid : id < σ.length := lt_of_some hσ
  simp only [go_sem, pv, pvC]
  refine vgo_call rfl rfl rfl rfl (c_at b o (by unfold lim; omega) σ id hσ) ?_
  unfold closeE
  rcases at_cases b o with h | h | ⟨i, hi, _, _, _, _, h, hI⟩
  · simp only [go_sem, h, vendK]
  · simp only [go_sem, h, vendK]
  have hσ' : σ[id]? = some (.box [.int .i64 b.next, .sl b.on false 6 (svs b.ol), .sl b.inl false 5 (ivs b.il), .sl b.ln false 3 (lvs b.ll)]) := hσ
  have hon : b.on = false := by
    cases hb : b.on with
    | false => rfl
    | true => rw [hn hb] at hi; exact absurd hi (by simp)
  simp only [go_sem, h, hσ']
  refine vgo_call' rfl rfl rfl (c_cloneS b.on false b.ol (by unfold lim; omega) σ) ?_
  rintro r σ' (⟨e, _⟩ | ⟨_, rfl, rfl⟩)
  · rw [hon] at e; cases e
  refine ⟨rfl, ?_⟩
  have hw : IntKind.i64.wrap ((i : Int) + 1) = ((i + 1 : Nat) : Int) := wrap_ok (by omega) (by omega)
  simp only [go_sem, hw]
  refine vgo_call' rfl rfl rfl (c_deleteS false b.ol i hi (by unfold lim; omega) _ σ.length 0 (get_at _ _)) ?_
  rintro r σ' ⟨rfl, rfl⟩
  refine ⟨rfl, ?_⟩
  have hrow : b.ol.eraseIdx i = closeRow b o := by unfold closeRow; rw [hI]
  rw [set_at, hrow]
  have hσ2 : ∀ x : VO, (σ ++ [x])[id]? = some (.box [.int .i64 b.next, .sl b.on false 6 (svs b.ol), .sl b.inl false 5 (ivs b.il), .sl b.ln false 3 (lvs b.ll)]) := fun x => by
    rw [List.getElem?_append_left hid]; exact hσ'
  simp only [go_sem, hσ2]
  refine vgo_call' rfl rfl rfl (c_line _ _ _ _ _ b.il ⟨3, o.id, o.inn, o.out, o.cause⟩ (by unfold lim; omega) _ id (set_self (hσ2 _))) ?_
  rintro r σ' ⟨rfl, rfl⟩
  refine ⟨rfl, ?_⟩
  have hne : b.ol.length ≠ 0 := by omega
  simp only [go_sem, vendK, List.set_set]
  exact hne

end Go.VL

/- Contracts of this program's functions: a book at work, fourth part. Conditions: none. -/
namespace Go.VL
open Go.Proofs

def lkI (b : BV) (o : PV) : Int := idxL (usL o.user) b.ll
def failL (l : LV) (o : PV) : LV := { l with n := if 255 < l.n + 1 then 255 else l.n + 1, t := o.t }
def failRow (b : BV) (o : PV) : List LV := b.ll.set (lkI b o).toNat (failL (b.ll.getD (lkI b o).toNat ⟨⟨#[]⟩, 0, 0⟩) o)
def failE (b : BV) (o : PV) : Int := match b.ll.find? (usL o.user) with
  | some l => bif decide (l.t ≤ o.t) then 0 else 7
  | none => bif decide (8 ≤ b.ll.length) then 4 else 0

theorem set3 {σ : St} {id : Nat} {a b x : VO} (hid : id < σ.length) : ((σ ++ [a]).set id x).set σ.length b = (σ ++ [b]).set id x := by
  rw [List.set_comm _ _ (by omega : id ≠ σ.length), set_at]
  rfl

set_option maxHeartbeats 1000000 in
set_option maxRecDepth 20000 in
theorem c_fail (b : BV) (o : PV) (hn : b.ln = true → b.ll = []) (hl : b.ll.length ≤ 8) (hN : ∀ l ∈ b.ll, 0 ≤ l.n ∧ l.n ≤ 255) (σ : St) (id : Nat) (hσ : σ[id]? = some (.box (bvC b))) :
    VCalls Try.prog 29 [.ptr id 0, pv o] σ fun r σ' => r = .int .i64 (failE b o) ∧ (failE b o ≠ 0 ∧ σ' = σ ∨ failE b o = 0 ∧
      (b.ll.find? (usL o.user) = none ∧ σ' = σ.set id (VO.box [V.int .i64 b.next, V.sl b.on false 6 (svs b.ol), V.sl b.inl false 5 (ivs b.il), V.sl false false 3 (lvs (b.ll ++ [LV.mk o.user 1 o.t]))]) ∨
      (b.ll.find? (usL o.user)).isSome = true ∧ σ' = (σ ++ [VO.arr false 0 3 (lvs (failRow b o))]).set id (VO.box [V.int .i64 b.next, V.sl b.on false 6 (svs b.ol), V.sl b.inl false 5 (ivs b.il), V.rsl σ.length 0 0 b.ll.length]))) := by
  refine vcalls_keep (C := cfg Try.prog [] [] [54]) (cfg_ok mixed) Try.func29 rfl rfl rfl rfl rfl ?_
  have hid : id < σ.length := lt_of_some hσ
  have hσ' : σ[id]? = some (.box [.int .i64 b.next, .sl b.on false 6 (svs b.ol), .sl b.inl false 5 (ivs b.il), .sl b.ln false 3 (lvs b.ll)]) := hσ
  have n1 : ∀ a b : Int, decide (a < b) = !decide (b ≤ a) := fun a b => by rw [Bool.eq_iff_iff]; simp
  simp -implicitDefEqProofs only [go_sem, pv, pvC]
  refine vgo_call rfl rfl rfl rfl (c_lock b o (by unfold lim; omega) σ id hσ) ?_
  rcases idxL_cases (usL o.user) b.ll with h | ⟨i, h1, h2, h3⟩
  · simp -implicitDefEqProofs only [go_sem, idxL_none h]
    refine w_walk2 [] [0, 1, 2, 3, 4, 5, 6, 7, 8, 9, 10, 11, 12, 13, 14, 15, 16] [10, 11, 12, 13, 14, 15, 16, 17, 18, 19, 20, 21, 22, 23, 24, 25, 9] [0, 1, 3, 7, 15, 7, 39, 103, 231, 487, 7, 2023, 4071, 8167, 16383, 32767, 65535] rfl rfl rfl rfl ?_
    have e8 : decide ((8 : Int) ≤ (b.ll.length : Int)) = decide (8 ≤ b.ll.length) := by rw [Bool.eq_iff_iff]; simp; omega
    simp -implicitDefEqProofs only [go_sem, hσ', lvs_length, e8]
    cases e1 : decide (8 ≤ b.ll.length)
    rotate_left
    · have he : failE b o = 4 := by unfold failE; rw [find_none h, e1]; rfl
      simp -implicitDefEqProofs only [go_sem, vendK, he, e1]
    simp -implicitDefEqProofs only [go_sem, e1]
    refine w_walk2 [13, 17] [0, 1, 2, 3, 4, 5, 6, 7, 8, 9, 10, 11, 12, 13, 14, 15, 16, 17] [41, 42, 43, 44, 45, 46, 47, 48, 49, 50, 51, 52, 53, 55, 56, 57] [0, 0, 2, 6, 14, 30, 62, 0, 128, 0, 512, 1920, 3968, 8190, 16383, 32767, 65535, 131071] rfl rfl rfl rfl ?_
    simp -implicitDefEqProofs (maxSteps := 1000000) only [go_sem, hσ']
    refine vdgo_call rfl rfl rfl rfl (c_clipL _ _ _ _) ?_
    simp -implicitDefEqProofs (maxSteps := 1000000) only [go_sem, hσ', lvs_length]
    have he : failE b o = 0 := by unfold failE; rw [find_none h, e1]; rfl
    refine ⟨by unfold lim; omega, ?_⟩
    simp -implicitDefEqProofs only [go_sem, vendK, he, find_none h]
    simp [lvs, lv, lvC]
  · have h0 : decide ((0 : Int) ≤ (i : Int)) = true := by simp
    have h0' : decide ((i : Int) < 0) = false := by simp
    have hon : b.ln = false := by
      cases hb : b.ln with
      | false => rfl
      | true => rw [hn hb] at h1; exact absurd h1 (by simp)
    simp -implicitDefEqProofs only [go_sem, idxL_at h1 h2 h3]
    refine w_walk2 [] [0, 1, 2, 3, 4, 5, 6, 7, 8, 9, 10, 11, 12, 13, 14, 15, 16] [10, 11, 12, 13, 14, 15, 16, 17, 18, 19, 20, 21, 22, 23, 24, 25, 9] [0, 1, 3, 7, 15, 7, 39, 103, 231, 487, 7, 2023, 4071, 8167, 16383, 32767, 65535] rfl rfl rfl rfl ?_
    simp -implicitDefEqProofs only [go_sem, h0, hσ', lvs_length, h1, lvs_getD h1, n1]
    cases e1 : decide (b.ll[i].t ≤ o.t)
    · have he : failE b o = 7 := by unfold failE; rw [find_at h1 h2 h3]; simp only [e1]; rfl
      simp -implicitDefEqProofs only [go_sem, vendK, he, e1]
    simp -implicitDefEqProofs only [go_sem, e1, h0, h0', hσ']
    refine vgo_call' rfl rfl rfl (c_cloneL b.ln false b.ll (by unfold lim; omega) σ) ?_
    rintro r σ' (⟨e, _⟩ | ⟨_, rfl, rfl⟩)
    · rw [hon] at e; cases e
    refine ⟨rfl, ?_⟩
    have hσ2 : (σ ++ [VO.arr false 0 3 (lvs b.ll)])[id]? = some (.box [.int .i64 b.next, .sl b.on false 6 (svs b.ol), .sl b.inl false 5 (ivs b.il), .sl b.ln false 3 (lvs b.ll)]) := by
      rw [List.getElem?_append_left hid]; exact hσ'
    simp -implicitDefEqProofs only [go_sem, hσ2]
    refine w_walk2 [27, 30] [0, 1, 2, 3, 4, 5, 6, 7, 8, 9, 10, 11, 12, 13, 14, 15, 16, 17, 18, 19, 20, 21, 22, 23, 24, 25, 26, 27, 28, 29, 30] [68, 69, 70, 71, 72, 73, 74, 75, 76, 77, 78, 79, 80, 81, 82, 83, 84, 85, 86, 87, 88, 89, 90, 91, 92, 93, 94, 95, 96] [0, 1, 3, 7, 15, 0, 0, 64, 192, 448, 960, 0, 0, 4096, 12288, 28672, 61440, 0, 258048, 520192, 1044480, 2093056, 4190208, 0, 8388608, 8386559, 41940991, 109049855, 268435455, 536870911, 1073741823] rfl rfl rfl rfl ?_
    have hs1 : ∀ x : VO, ((σ ++ [VO.arr false 0 3 (lvs b.ll)]).set id x)[σ.length]? = some (.arr false 0 3 (lvs b.ll)) := fun x => by
      rw [List.getElem?_set, if_neg (by omega)]; simp
    have hs2 := @set_self _ _ _ (VO.box [.int .i64 b.next, .sl b.on false 6 (svs b.ol), .sl b.inl false 5 (ivs b.il), .rsl σ.length 0 0 b.ll.length]) hσ2
    have hss : ∀ x y : VO, (((σ ++ [VO.arr false 0 3 (lvs b.ll)]).set id x).set σ.length y)[id]? = ((σ ++ [VO.arr false 0 3 (lvs b.ll)]).set id x)[id]? := fun x y => by
      rw [List.getElem?_set, if_neg (by omega)]
    have hst : ∀ x y : VO, (((σ ++ [VO.arr false 0 3 (lvs b.ll)]).set id x).set σ.length y)[σ.length]? = some y := fun x y => by simp
    have hla : ∀ x, ((lvs b.ll).set i x).getD i .undef = x := fun x => by simp [lvs, h1]
    obtain ⟨g0, g1⟩ := hN b.ll[i] (List.getElem_mem h1)
    have hw : IntKind.i64.wrap (b.ll[i].n + 1) = b.ll[i].n + 1 := by rw [IntKind.wrap_i64]; omega
    simp -implicitDefEqProofs (maxSteps := 1000000) only [go_sem, hs1, hs2, hss, hst, h1, Nat.sub_zero, Nat.zero_add, lvs_getD h1, hla, hw, List.set_set]
    have he : failE b o = 0 := by unfold failE; rw [find_at h1 h2 h3]; simp only [e1]; rfl
    have hrow : (lvs b.ll).set i (.agg [.str b.ll[i].user, .int .i64 (if 255 < b.ll[i].n + 1 then 255 else b.ll[i].n + 1), .int .i64 o.t]) = lvs (failRow b o) := by
      unfold failRow lkI
      rw [idxL_at h1 h2 h3]
      simp [List.getD_eq_getElem?_getD, h1, lvs, List.map_set, lv, lvC, failL]
    simp -implicitDefEqProofs only [go_sem, vendK, he, find_at h1 h2 h3]
    refine .inr ?_
    rw [hrow]
    exact set3 hid

def passE (b : BV) (o : PV) : Int := bif decide (lkI b o < 0) then 5 else 0
def passRow (b : BV) (o : PV) : List LV := b.ll.eraseIdx (lkI b o).toNat

set_option maxRecDepth 20000 in
theorem c_pass (b : BV) (o : PV) (hn : b.ln = true → b.ll = []) (hl : b.ll.length ≤ 8) (σ : St) (id : Nat) (hσ : σ[id]? = some (.box (bvC b))) :
    VCalls Try.prog 30 [.ptr id 0, pv o] σ fun r σ' => r = .int .i64 (passE b o) ∧ (passE b o ≠ 0 ∧ σ' = σ ∨ passE b o = 0 ∧ 0 ≤ lkI b o ∧ b.ll.length ≠ 0 ∧
      σ' = (σ ++ [VO.arr false 0 3 (lvs (passRow b o) ++ [zL])]).set id (VO.box [V.int .i64 b.next, V.sl b.on false 6 (svs b.ol), V.sl b.inl false 5 (ivs b.il), V.rsl σ.length 0 0 (b.ll.length - 1)])) := by
  refine vcalls_keep (C := cfg Try.prog [] [] []) (cfg_ok mixed) Try.func30 rfl rfl rfl rfl rfl ?_
  have hid : id < σ.length := lt_of_some hσ
  have hσ' : σ[id]? = some (.box [.int .i64 b.next, .sl b.on false 6 (svs b.ol), .sl b.inl false 5 (ivs b.il), .sl b.ln false 3 (lvs b.ll)]) := hσ
  simp -implicitDefEqProofs only [go_sem, pv, pvC]
  refine vgo_call rfl rfl rfl rfl (c_lock b o (by unfold lim; omega) σ id hσ) ?_
  rcases idxL_cases (usL o.user) b.ll with h | ⟨i, h1, h2, h3⟩
  · have he : passE b o = 5 := by unfold passE lkI; rw [idxL_none h]; rfl
    simp -implicitDefEqProofs only [go_sem, vendK, idxL_none h, he]
  · have h0 : decide ((i : Int) < 0) = false := by simp
    have hlk : lkI b o = i := idxL_at h1 h2 h3
    have hon : b.ln = false := by
      cases hb : b.ln with
      | false => rfl
      | true => rw [hn hb] at h1; exact absurd h1 (by simp)
    simp -implicitDefEqProofs only [go_sem, idxL_at h1 h2 h3, h0, hσ']
    refine vgo_call' rfl rfl rfl (c_cloneL b.ln false b.ll (by unfold lim; omega) σ) ?_
    rintro r σ' (⟨e, _⟩ | ⟨_, rfl, rfl⟩)
    · rw [hon] at e; cases e
    refine ⟨rfl, ?_⟩
    have hw : IntKind.i64.wrap ((i : Int) + 1) = ((i + 1 : Nat) : Int) := wrap_ok (by omega) (by omega)
    simp -implicitDefEqProofs only [go_sem, hw]
    refine vgo_call' rfl rfl rfl (c_deleteL false b.ll i h1 (by unfold lim; omega) _ σ.length 0 (get_at _ _)) ?_
    rintro r σ' ⟨rfl, rfl⟩
    refine ⟨rfl, ?_⟩
    have hrow : b.ll.eraseIdx i = passRow b o := by unfold passRow; rw [hlk]; rfl
    rw [set_at, hrow]
    have hσ2 : ∀ x : VO, (σ ++ [x])[id]? = some (.box [.int .i64 b.next, .sl b.on false 6 (svs b.ol), .sl b.inl false 5 (ivs b.il), .sl b.ln false 3 (lvs b.ll)]) := fun x => by
      rw [List.getElem?_append_left hid]; exact hσ'
    have he : passE b o = 0 := by unfold passE; rw [hlk, h0]; rfl
    have hne : b.ll.length ≠ 0 := by omega
    have hge : (0 : Int) ≤ lkI b o := by rw [hlk]; omega
    simp -implicitDefEqProofs only [go_sem, vendK, hσ2, he]
    exact ⟨hge, hne⟩

def goneB (b : BV) (x : IV) : Bool := !b.ol.any (idS x.id)
def trimRow (b : BV) : List IV := keepL (goneB b) b.il

theorem c_indexI_nil (c : Bool) (sz : Nat) (g : FuncId) (xs ys : List V) (σ : St) :
    VCalls Try.prog 70 [.sl true c sz [], .fn (.func g) xs ys] σ fun r σ' => r = .int .i64 (-1) ∧ σ' = σ := by
  refine vcalls_intro (C := cfg Try.prog [] [] []) (cfg_ok mixed) Try.func70 rfl rfl rfl rfl rfl ?_
  simp only [go_sem]
  refine w_loop (fun (_ : Unit) => True) (fun _ => [(8, .int .i64 0), (7, .int .i64 0)]) (fun _ => σ) (fun _ => 0) () trivial ?_ rfl ?_
  · simp only [go_sem]
    rfl
  rintro _ _
  simp only [go_sem, Int.lt_irrefl]
  refine l_exit ?_
  simp only [go_sem]
theorem c_deleteFuncI_nil (c : Bool) (sz : Nat) (g : FuncId) (xs ys : List V) (σ : St) :
    VCalls Try.prog 62 [.sl true c sz [], .fn (.func g) xs ys] σ fun r σ' => r = .sl true c sz [] ∧ σ' = σ := by
  refine vcalls_intro (C := cfg Try.prog [] [] []) (cfg_ok mixed) Try.func62 rfl rfl rfl rfl rfl ?_
  simp only [go_sem]
  refine vgo_call rfl rfl rfl rfl (c_indexI_nil c sz g xs ys σ) ?_
  simp only [go_sem]

set_option maxRecDepth 20000 in
theorem c_trim (b : BV) (o : PV) (hl : b.il.length + b.ol.length ≤ 60) (σ : St) (id : Nat) (hσ : σ[id]? = some (.box (bvC b))) :
    VCalls Try.prog 31 [.ptr id 0, pv o] σ fun r σ' => r = .int .i64 0 ∧ (b.inl = true ∧ σ' = (σ ++ [VO.box [V.ptr id 0]]).set id (VO.box [V.int .i64 b.next, V.sl b.on false 6 (svs b.ol), V.sl true false 0 [], V.sl b.ln false 3 (lvs b.ll)]) ∨
      b.inl = false ∧ σ' = (σ ++ [VO.box [V.ptr id 0], VO.arr false 0 5 (ivs (trimRow b) ++ List.replicate (b.il.length - (trimRow b).length) zI)]).set id (VO.box [V.int .i64 b.next, V.sl b.on false 6 (svs b.ol), V.rsl (σ.length + 1) 0 0 (trimRow b).length, V.sl b.ln false 3 (lvs b.ll)])) := by
  refine vcalls_keep (C := cfg Try.prog [2] [] []) (cfg_ok mixed) Try.func31 rfl rfl rfl rfl rfl ?_
  have hid : id < σ.length := lt_of_some hσ
  have hσ' : σ[id]? = some (.box [.int .i64 b.next, .sl b.on false 6 (svs b.ol), .sl b.inl false 5 (ivs b.il), .sl b.ln false 3 (lvs b.ll)]) := hσ
  have hσ2 : ∀ x : List VO, (σ ++ x)[id]? = some (.box [.int .i64 b.next, .sl b.on false 6 (svs b.ol), .sl b.inl false 5 (ivs b.il), .sl b.ln false 3 (lvs b.ll)]) := fun x => by
    rw [List.getElem?_append_left hid]; exact hσ'
  simp -implicitDefEqProofs only [go_sem, pv, pvC]
  refine w_walk2 [6, 8, 12] [0, 1, 2, 3, 4, 5, 7, 6, 8, 9, 10, 11, 12] [7, 8, 9, 10, 11, 12, 14, 16, 17, 18] [0, 0, 2, 6, 14, 30, 62, 0, 254, 511, 1023, 2047, 4095] rfl rfl rfl rfl ?_
  simp -implicitDefEqProofs (maxSteps := 1000000) only [go_sem, hσ2]
  refine ve_call rfl rfl rfl (c_cloneI b.inl false b.il (by unfold lim; omega) _) ?_
  rintro r σ' (⟨hi, rfl, rfl⟩ | ⟨hi, rfl, rfl⟩)
  · refine ⟨rfl, ?_⟩
    simp -implicitDefEqProofs (maxSteps := 1000000) only [go_sem, hσ2]
    refine ve_call rfl rfl rfl (c_deleteFuncI_nil false 0 _ [] _ _) ?_
    rintro r σ' ⟨rfl, rfl⟩
    refine ⟨rfl, ?_⟩
    simp -implicitDefEqProofs (maxSteps := 1000000) only [go_sem, hσ2, vendK, hi]
  · refine ⟨rfl, ?_⟩
    have ea : σ ++ [VO.box [V.ptr id 0]] ++ [VO.arr false 0 5 (ivs b.il)] = σ ++ [VO.box [V.ptr id 0], VO.arr false 0 5 (ivs b.il)] := by simp
    rw [ea, len_app1]
    have hk : (σ ++ [VO.box [V.ptr id 0], VO.arr false 0 5 (ivs b.il)])[σ.length]? = some (.box [.ptr id 0]) := by simp
    simp -implicitDefEqProofs (maxSteps := 1000000) only [go_sem, hσ2]
    refine ve_call rfl rfl rfl (c_deleteFuncI false b.il (goneB b) _ [] _ (by unfold lim; omega) _ (σ.length + 1) 0 (by simp) fun x σ' hs => c_trim1 b x (by unfold lim; omega) σ' id _ false _ _ b.on (by rw [hs id (by omega)]; exact hσ2 _) σ.length (by rw [hs σ.length (by omega)]; exact hk)) ?_
    rintro r σ' ⟨rfl, rfl⟩
    refine ⟨rfl, ?_⟩
    have eb : ∀ x, (σ ++ [VO.box [V.ptr id 0], VO.arr false 0 5 (ivs b.il)]).set (σ.length + 1) x = σ ++ [VO.box [V.ptr id 0], x] := fun x => by rw [set_add]; rfl
    rw [eb]
    simp -implicitDefEqProofs (maxSteps := 1000000) only [go_sem, hσ2, vendK, hi]
    rfl

end Go.VL

/- Contracts of this program's functions: what is done to a book. Conditions: none. -/
namespace Go.VL
open Go.Proofs

structure BOK (b : BV) : Prop where
  o : b.on = true → b.ol = []
  i : b.inl = true → b.il = []
  l : b.ln = true → b.ll = []

/-- What is done to a book, and why not. -/
def applyP (b : BV) (o : PV) : BV × Int :=
  if !mayB o then (b, 1)
  else if o.kind = 1 then (if openE b o = 0 then (openP b o, 0) else (b, openE b o))
  else if o.kind = 2 then (if interimE b o = 0 then ({ b with ol := interimRow b o, on := false, il := b.il ++ [⟨2, o.id, o.inn, o.out, 0⟩], inl := false }, 0) else (b, interimE b o))
  else if o.kind = 3 then (if closeE b o = 0 then ({ b with ol := closeRow b o, on := false, il := b.il ++ [⟨3, o.id, o.inn, o.out, o.cause⟩], inl := false }, 0) else (b, closeE b o))
  else if o.kind = 4 then (if failE b o = 0 then ({ b with ll := if (b.ll.find? (usL o.user)).isSome then failRow b o else b.ll ++ [⟨o.user, 1, o.t⟩], ln := false }, 0) else (b, failE b o))
  else if o.kind = 5 then (if passE b o = 0 then ({ b with ll := passRow b o, ln := false }, 0) else (b, passE b o))
  else ({ b with il := trimRow b }, 0)
def applyV (p : BV × Int) : V := .tup [bkv p.1, .int .i64 p.2]

theorem kind_cases {k : Int} (h1 : 1 ≤ k) (h2 : k ≤ 6) : k = 1 ∨ k = 2 ∨ k = 3 ∨ k = 4 ∨ k = 5 ∨ k = 6 := by omega

theorem close_len (b : BV) (o : PV) (h : closeE b o = 0) : (closeRow b o).length = b.ol.length - 1 := by
  unfold closeE at h
  rcases at_cases b o with h' | h' | ⟨i, hi, _, _, _, _, h', hI⟩
  · rw [h'] at h; cases h
  · rw [h'] at h; cases h
  · unfold closeRow
    rw [hI, List.length_eraseIdx, if_pos hi]
theorem pass_len (b : BV) (o : PV) (h : 0 ≤ lkI b o) : (passRow b o).length = b.ll.length - 1 := by
  unfold passRow lkI at *
  rcases idxL_cases (usL o.user) b.ll with h' | ⟨i, h1, h2, h3⟩
  · rw [idxL_none h'] at h; exact absurd h (by decide)
  · rw [idxL_at h1 h2 h3, List.length_eraseIdx, if_pos (by simpa using h1)]

set_option maxHeartbeats 4000000 in
set_option maxRecDepth 20000 in
theorem c_apply (b : BV) (o : PV) (ok : BOK b) (hb : 0 ≤ b.next) (hl : b.il.length + b.ol.length ≤ 60) (hll : b.ll.length ≤ 8) (hN : ∀ l ∈ b.ll, 0 ≤ l.n ∧ l.n ≤ 255) (ha : o.addr < 4294967296) (σ : St) :
    VCalls Try.prog 11 [bkv b, pv o] σ fun r σ' => r = applyV (applyP b o) ∧ σ' = σ := by
  refine VCalls.res ?_
  refine vcalls_intro (C := cfg Try.prog [15] [] []) (cfg_ok mixed) Try.func11 rfl rfl rfl rfl rfl ?_
  simp -implicitDefEqProofs only [go_sem, bkv, bvC, pv, pvC]
  refine vgo_call rfl rfl rfl rfl (c_may o σ) ?_
  cases e0 : mayB o
  · have he : applyP b o = (b, 1) := by unfold applyP; rw [e0]; rfl
    simp -implicitDefEqProofs only [go_sem, he, applyV, bkv, bvC]
    exact .refl _
  have hk := e0
  simp only [mayB, Bool.and_eq_true, decide_eq_true_eq] at hk
  simp -implicitDefEqProofs only [go_sem, vput, keq]
  have hap : ∀ k : Int, o.kind = k → applyP b o = applyP b o := fun _ _ => rfl
  rcases kind_cases hk.1.1 hk.1.2 with h | h | h | h | h | h
  · simp -implicitDefEqProofs only [h, vget, List.find?_cons, keq, List.append_assoc, go_sem]
    refine vgo_call' rfl rfl rfl ((c_wopen b o ha hb hl _ σ.length (get_at _ _)).ne ⟨.refl _, by rw [← h]; exact .refl _, trivial⟩) ?_
    rintro r σ' ⟨rfl, hs⟩
    refine ⟨rfl, ?_⟩
    have hunf : ∀ (x : BV × Int), applyP b o = x → applyP b o = x := fun _ h => h
    rcases hs with ⟨hne, rfl⟩ | hs
    · have hbn : (openE b o != 0) = true := by simpa using hne
      have he : applyP b o = (b, openE b o) := by
        unfold applyP
        rw [e0, if_neg (by decide)]
        rw [if_pos h, if_neg hne]
      simp -implicitDefEqProofs only [go_sem, hbn, he, applyV, bkv, bvC]
      exact .refl _
    · obtain ⟨he0, rfl⟩ := hs
      have he : applyP b o = (openP b o, 0) := by
        unfold applyP
        rw [e0, if_neg (by decide)]
        rw [if_pos h, if_pos he0]
      simp -implicitDefEqProofs only [he0, List.append_assoc, List.length_append, go_sem]
      simp -implicitDefEqProofs only [he, applyV, bkv, bvC, openP, go_sem]
      exact .refl _
  · simp -implicitDefEqProofs only [h, vget, List.find?_cons, keq, List.append_assoc, go_sem]
    refine vgo_call' rfl rfl rfl ((c_interim b o ok.o hl _ σ.length (get_at _ _)).ne ⟨.refl _, by rw [← h]; exact .refl _, trivial⟩) ?_
    rintro r σ' ⟨rfl, hs⟩
    refine ⟨rfl, ?_⟩
    have hunf : ∀ (x : BV × Int), applyP b o = x → applyP b o = x := fun _ h => h
    rcases hs with ⟨hne, rfl⟩ | hs
    · have hbn : (interimE b o != 0) = true := by simpa using hne
      have he : applyP b o = (b, interimE b o) := by
        unfold applyP
        rw [e0, if_neg (by decide)]
        rw [if_neg (by rw [h]; decide)]; rw [if_pos h, if_neg hne]
      simp -implicitDefEqProofs only [go_sem, hbn, he, applyV, bkv, bvC]
      exact .refl _
    · obtain ⟨he0, hne, rfl⟩ := hs
      have he : applyP b o = ({ b with ol := interimRow b o, on := false, il := b.il ++ [⟨2, o.id, o.inn, o.out, 0⟩], inl := false }, 0) := by
        unfold applyP
        rw [e0, if_neg (by decide)]
        rw [if_neg (by rw [h]; decide)]; rw [if_pos h, if_pos he0]
      have ht : (svs (interimRow b o)).take b.ol.length = svs (interimRow b o) := List.take_of_length_le (by simp [svs, interimRow])
      simp -implicitDefEqProofs only [he0, List.append_assoc, List.length_append, go_sem]
      simp -implicitDefEqProofs only [he, applyV, bkv, bvC, openP, ht, go_sem]
      exact .refl _
  · simp -implicitDefEqProofs only [h, vget, List.find?_cons, keq, List.append_assoc, go_sem]
    refine vgo_call' rfl rfl rfl ((c_close b o ok.o hl _ σ.length (get_at _ _)).ne ⟨.refl _, by rw [← h]; exact .refl _, trivial⟩) ?_
    rintro r σ' ⟨rfl, hs⟩
    refine ⟨rfl, ?_⟩
    have hunf : ∀ (x : BV × Int), applyP b o = x → applyP b o = x := fun _ h => h
    rcases hs with ⟨hne, rfl⟩ | hs
    · have hbn : (closeE b o != 0) = true := by simpa using hne
      have he : applyP b o = (b, closeE b o) := by
        unfold applyP
        rw [e0, if_neg (by decide)]
        rw [if_neg (by rw [h]; decide)]; rw [if_neg (by rw [h]; decide)]; rw [if_pos h, if_neg hne]
      simp -implicitDefEqProofs only [go_sem, hbn, he, applyV, bkv, bvC]
      exact .refl _
    · obtain ⟨he0, hne, rfl⟩ := hs
      have he : applyP b o = ({ b with ol := closeRow b o, on := false, il := b.il ++ [⟨3, o.id, o.inn, o.out, o.cause⟩], inl := false }, 0) := by
        unfold applyP
        rw [e0, if_neg (by decide)]
        rw [if_neg (by rw [h]; decide)]; rw [if_neg (by rw [h]; decide)]; rw [if_pos h, if_pos he0]
      have hcl : (closeRow b o).length = b.ol.length - 1 := close_len b o he0
      have ht : (svs (closeRow b o) ++ [zS]).take (b.ol.length - 1) = svs (closeRow b o) := by rw [← hcl, ← svs_length, List.take_left]
      simp -implicitDefEqProofs only [he0, List.append_assoc, List.length_append, go_sem]
      simp -implicitDefEqProofs only [he, applyV, bkv, bvC, openP, ht, go_sem]
      exact .refl _
  · simp -implicitDefEqProofs only [h, vget, List.find?_cons, keq, List.append_assoc, go_sem]
    refine vgo_call' rfl rfl rfl ((c_fail b o ok.l hll hN _ σ.length (get_at _ _)).ne ⟨.refl _, by rw [← h]; exact .refl _, trivial⟩) ?_
    rintro r σ' ⟨rfl, hs⟩
    refine ⟨rfl, ?_⟩
    have hunf : ∀ (x : BV × Int), applyP b o = x → applyP b o = x := fun _ h => h
    rcases hs with ⟨hne, rfl⟩ | hs
    · have hbn : (failE b o != 0) = true := by simpa using hne
      have he : applyP b o = (b, failE b o) := by
        unfold applyP
        rw [e0, if_neg (by decide)]
        rw [if_neg (by rw [h]; decide)]; rw [if_neg (by rw [h]; decide)]; rw [if_neg (by rw [h]; decide)]; rw [if_pos h, if_neg hne]
      simp -implicitDefEqProofs only [go_sem, hbn, he, applyV, bkv, bvC]
      exact .refl _
    · obtain ⟨he0, ⟨hf, rfl⟩ | ⟨hf, rfl⟩⟩ := hs
      · have he : applyP b o = ({ b with ll := b.ll ++ [⟨o.user, 1, o.t⟩], ln := false }, 0) := by
          unfold applyP
          rw [e0, if_neg (by decide)]
          rw [if_neg (by rw [h]; decide), if_neg (by rw [h]; decide), if_neg (by rw [h]; decide), if_pos h, if_pos he0, hf]
          rfl
        simp -implicitDefEqProofs only [he0, List.append_assoc, List.length_append, go_sem]
        simp -implicitDefEqProofs only [he, applyV, bkv, bvC, go_sem]
        exact .refl _
      · have he : applyP b o = ({ b with ll := failRow b o, ln := false }, 0) := by
          unfold applyP
          rw [e0, if_neg (by decide)]
          rw [if_neg (by rw [h]; decide), if_neg (by rw [h]; decide), if_neg (by rw [h]; decide), if_pos h, if_pos he0, if_pos hf]
        have ht : (lvs (failRow b o)).take b.ll.length = lvs (failRow b o) := List.take_of_length_le (by simp [lvs, failRow])
        simp -implicitDefEqProofs only [he0, List.append_assoc, List.length_append, go_sem]
        simp -implicitDefEqProofs only [he, applyV, bkv, bvC, ht, go_sem]
        exact .refl _
  · simp -implicitDefEqProofs only [h, vget, List.find?_cons, keq, List.append_assoc, go_sem]
    refine vgo_call' rfl rfl rfl ((c_pass b o ok.l hll _ σ.length (get_at _ _)).ne ⟨.refl _, by rw [← h]; exact .refl _, trivial⟩) ?_
    rintro r σ' ⟨rfl, hs⟩
    refine ⟨rfl, ?_⟩
    have hunf : ∀ (x : BV × Int), applyP b o = x → applyP b o = x := fun _ h => h
    rcases hs with ⟨hne, rfl⟩ | hs
    · have hbn : (passE b o != 0) = true := by simpa using hne
      have he : applyP b o = (b, passE b o) := by
        unfold applyP
        rw [e0, if_neg (by decide)]
        rw [if_neg (by rw [h]; decide)]; rw [if_neg (by rw [h]; decide)]; rw [if_neg (by rw [h]; decide)]; rw [if_neg (by rw [h]; decide)]; rw [if_pos h, if_neg hne]
      simp -implicitDefEqProofs only [go_sem, hbn, he, applyV, bkv, bvC]
      exact .refl _
    · obtain ⟨he0, hge, hne, rfl⟩ := hs
      have he : applyP b o = ({ b with ll := passRow b o, ln := false }, 0) := by
        unfold applyP
        rw [e0, if_neg (by decide)]
        rw [if_neg (by rw [h]; decide)]; rw [if_neg (by rw [h]; decide)]; rw [if_neg (by rw [h]; decide)]; rw [if_neg (by rw [h]; decide)]; rw [if_pos h, if_pos he0]
      have hpl : (passRow b o).length = b.ll.length - 1 := pass_len b o hge
      have ht : (lvs (passRow b o) ++ [zL]).take (b.ll.length - 1) = lvs (passRow b o) := by rw [← hpl, ← lvs_length, List.take_left]
      simp -implicitDefEqProofs only [he0, List.append_assoc, List.length_append, go_sem]
      simp -implicitDefEqProofs only [he, applyV, bkv, bvC, openP, ht, go_sem]
      exact .refl _
  · simp -implicitDefEqProofs only [h, vget, List.find?_cons, keq, List.append_assoc, go_sem]
    refine vgo_call' rfl rfl rfl ((c_trim b o hl _ σ.length (get_at _ _)).ne ⟨.refl _, by rw [← h]; exact .refl _, trivial⟩) ?_
    have he : applyP b o = ({ b with il := trimRow b }, 0) := by
      unfold applyP
      rw [e0, if_neg (by decide)]
      rw [if_neg (by rw [h]; decide), if_neg (by rw [h]; decide), if_neg (by rw [h]; decide), if_neg (by rw [h]; decide), if_neg (by rw [h]; decide)]
    rintro r σ' ⟨rfl, ⟨hi, rfl⟩ | ⟨hi, rfl⟩⟩
    · refine ⟨rfl, ?_⟩
      have ht : trimRow b = [] := by unfold trimRow; rw [ok.i hi]; rfl
      simp -implicitDefEqProofs only [List.append_assoc, List.length_append, go_sem]
      simp -implicitDefEqProofs only [he, applyV, bkv, bvC, ht, hi, go_sem]
      exact NE.tupL ⟨NE.aggL ⟨.refl _, .refl _, .nil _ _ _ _, .refl _, trivial⟩, .refl _, trivial⟩
    · refine ⟨rfl, ?_⟩
      have ht : (ivs (trimRow b) ++ List.replicate (b.il.length - (trimRow b).length) zI).take (trimRow b).length = ivs (trimRow b) := by rw [← ivs_length, List.take_left]
      have h3 : σ.length + 2 + 1 = σ.length + 3 := rfl
      simp -implicitDefEqProofs only [List.append_assoc, List.length_append, h3, go_sem]
      simp -implicitDefEqProofs only [he, applyV, bkv, bvC, ht, hi, go_sem]
      exact .refl _

end Go.VL

/- Contracts of this program's functions: the least address that is free; what closes all. Conditions: none. -/
namespace Go.VL
open Go.Proofs

def freeGo (l : List SV) : Nat → Int → Int × Bool
  | 0, _ => (0, false)
  | n + 1, a => bif l.any (fun s => s.addr == a) then freeGo l n (a + 1) else (a, true)
def freeP (b : BV) : Int × Bool := freeGo b.ol 6 167772161

def frS (σ : St) (k : Nat) : St := σ ++ (List.range (k + 1)).map fun j : Nat => VO.box [.int .u32 (167772161 + (j : Int))]
theorem frS_at (σ : St) (k : Nat) : (frS σ k)[σ.length + k]? = some (.box [.int .u32 (167772161 + (k : Int))]) := by
  unfold frS
  rw [get_add]
  simp
theorem frS_len (σ : St) (k : Nat) : (frS σ k).length = σ.length + k + 1 := by simp [frS]; omega
theorem frS_succ (σ : St) (k : Nat) : frS σ k ++ [VO.box [.int .u32 (167772161 + ((k + 1 : Nat) : Int))]] = frS σ (k + 1) := by
  unfold frS
  rw [List.range_succ (n := k + 1), List.map_append, List.append_assoc]
  rfl

set_option maxRecDepth 20000 in
theorem c_free (b : BV) (hl : b.ol.length ≤ lim) (σ : St) : VCalls Try.prog 17 [bkv b] σ fun r σ' => r = .tup [.int .u32 (freeP b).1, .bool (freeP b).2] ∧ σ' = σ := by
  refine vcalls_intro (C := cfg Try.prog [4] [] []) (cfg_ok mixed) Try.func17 rfl rfl rfl rfl rfl ?_
  simp -implicitDefEqProofs only [go_sem, bkv, bvC]
  refine w_loop (fun k => k ≤ 6 ∧ freeP b = freeGo b.ol (6 - k) (167772161 + (k : Int))) (fun k => [(1, .ip (bvC b)), (4, .ptr (σ.length + k) 0)]) (fun k => frS σ k) (fun k => 6 - k) 0 ⟨by omega, rfl⟩ ?_ rfl ?_
  · simp -implicitDefEqProofs only [go_sem, bvC, Nat.add_zero]
  rintro k ⟨hk, he⟩
  simp -implicitDefEqProofs only [go_sem, frS_at]
  refine vgo_call rfl rfl rfl rfl (c_inPool _ (by omega) _) ?_
  rcases Nat.lt_or_ge k 6 with h | h
  · have hp : poolB (167772161 + (k : Int)) = true := by unfold poolB; simp; omega
    have e6 : 6 - k = (6 - (k + 1)) + 1 := by omega
    rw [e6, freeGo] at he
    simp -implicitDefEqProofs only [go_sem, hp, bvC]
    refine vgo_call rfl rfl rfl rfl (c_containsS _ _ b.ol (fun s => s.addr == 167772161 + (k : Int)) _ [] _ hl _ fun s => c_free1 s _ _ _ (frS_at σ k)) ?_
    cases hc : b.ol.any fun s => s.addr == 167772161 + (k : Int)
    · rw [hc] at he
      simp -implicitDefEqProofs only [go_sem, frS_at]
      refine l_ret ?_
      unfold frS
      simp -implicitDefEqProofs only [go_sem, he]
    · rw [hc] at he
      have hw : IntKind.u32.wrap (167772161 + (k : Int) + 1) = 167772161 + ((k + 1 : Nat) : Int) := by
        unfold IntKind.wrap
        simp [IntKind.bits, IntKind.signed]
        omega
      have hset : ∀ x : VO, (frS σ k ++ [x])[σ.length + k + 1]? = some x := fun x => by rw [← frS_len, List.getElem?_concat_length]
      have hse2 : ∀ x y : VO, (frS σ k ++ [x]).set (σ.length + k + 1) y = frS σ k ++ [y] := fun x y => by rw [← frS_len, set_at]; rfl
      simp -implicitDefEqProofs only [go_sem, frS_at, frS_len, hset, hse2, hw]
      refine l_next (k + 1) ⟨h, ?_⟩ (by omega) ?_ ?_
      · rw [he]
        simp only [cond_true]
        congr 1
      · simp -implicitDefEqProofs only [go_sem, bvC]
        rfl
      · exact frS_succ σ k
  · have h6 : k = 6 := by omega
    subst h6
    have hp : poolB (167772161 + ((6 : Nat) : Int)) = false := rfl
    simp -implicitDefEqProofs only [go_sem, hp]
    refine l_exit ?_
    unfold frS
    simp -implicitDefEqProofs only [go_sem, he]
    rfl

end Go.VL

/- What a right book's parts are; contracts of this program's functions: locks, lines behind lines. Conditions: none. -/
namespace Go.VL
open Go.Proofs

structure RightF (b : BV) : Prop where
  next0 : 0 ≤ b.next
  next1 : b.next ≤ 1000000000
  len : b.il.length + b.ol.length ≤ 60
  lks : b.ll.length ≤ 8
  ok : ∀ (i : Nat) (h : i < b.ol.length), okSB b.next b.ol[i] = true ∧ afterB (b.ol.take i) b.ol[i] = true ∧ (b.ol.take i).all (apartB b.ol[i]) = true
  line : ∀ (i : Nat) (h : i < b.il.length), lineB b.next (b.il.take i) b.il[i] = true ∧ endB b i b.il[i] = true
  mat : ∀ s ∈ b.ol, matchB b s = true
  lock : ∀ (i : Nat) (h : i < b.ll.length), lockB b i b.ll[i] = true

theorem goO_iff (next : Int) (l : List SV) : ∀ n, n ≤ l.length → (goO next (l.take (l.length - n)) (l.drop (l.length - n)) = true ↔ ∀ (i : Nat) (h : i < l.length), l.length - n ≤ i → okSB next l[i] = true ∧ afterB (l.take i) l[i] = true ∧ (l.take i).all (apartB l[i]) = true)
  | 0, _ => by
    rw [List.drop_eq_nil_of_le (by omega)]
    exact ⟨fun _ i h h' => by omega, fun _ => rfl⟩
  | n + 1, hn => by
    have h : l.length - (n + 1) < l.length := by omega
    have e : l.length - (n + 1) + 1 = l.length - n := by omega
    rw [goO_step next h, e, Bool.and_eq_true, goO_iff next l n (by omega)]
    simp only [Bool.and_eq_true]
    constructor
    · rintro ⟨⟨⟨h1, h2⟩, h3⟩, h4⟩ i hi hle
      by_cases e' : i = l.length - (n + 1)
      · subst e'
        exact ⟨h1, h2, h3⟩
      · exact h4 i hi (by omega)
    · intro h4
      exact ⟨⟨⟨(h4 _ h (Nat.le_refl _)).1, (h4 _ h (Nat.le_refl _)).2.1⟩, (h4 _ h (Nat.le_refl _)).2.2⟩, fun i hi hle => h4 i hi (by omega)⟩
theorem goIt_iff (b : BV) (l : List IV) : ∀ n, n ≤ l.length → (goIt b (l.take (l.length - n)) (l.drop (l.length - n)) = true ↔ ∀ (i : Nat) (h : i < l.length), l.length - n ≤ i → lineB b.next (l.take i) l[i] = true ∧ endB b i l[i] = true)
  | 0, _ => by
    rw [List.drop_eq_nil_of_le (by omega)]
    exact ⟨fun _ i h h' => by omega, fun _ => rfl⟩
  | n + 1, hn => by
    have h : l.length - (n + 1) < l.length := by omega
    have e : l.length - (n + 1) + 1 = l.length - n := by omega
    rw [goIt_step b h, e, Bool.and_eq_true, goIt_iff b l n (by omega)]
    simp only [Bool.and_eq_true]
    constructor
    · rintro ⟨⟨h1, h2⟩, h4⟩ i hi hle
      by_cases e' : i = l.length - (n + 1)
      · subst e'
        exact ⟨h1, h2⟩
      · exact h4 i hi (by omega)
    · intro h4
      exact ⟨⟨(h4 _ h (Nat.le_refl _)).1, (h4 _ h (Nat.le_refl _)).2⟩, fun i hi hle => h4 i hi (by omega)⟩
theorem goLk_iff (b : BV) (l : List LV) : ∀ n, n ≤ l.length → (goLk b (l.length - n) (l.drop (l.length - n)) = true ↔ ∀ (i : Nat) (h : i < l.length), l.length - n ≤ i → lockB b i l[i] = true)
  | 0, _ => by
    rw [List.drop_eq_nil_of_le (by omega)]
    exact ⟨fun _ i h h' => by omega, fun _ => rfl⟩
  | n + 1, hn => by
    have h : l.length - (n + 1) < l.length := by omega
    have e : l.length - (n + 1) + 1 = l.length - n := by omega
    rw [goLk_step b h, e, Bool.and_eq_true, goLk_iff b l n (by omega)]
    constructor
    · rintro ⟨h1, h4⟩ i hi hle
      by_cases e' : i = l.length - (n + 1)
      · subst e'
        exact h1
      · exact h4 i hi (by omega)
    · intro h4
      exact ⟨h4 _ h (Nat.le_refl _), fun i hi hle => h4 i hi (by omega)⟩

theorem right_iff (b : BV) : rightB b = true ↔ RightF b := by
  have h1 := goO_iff b.next b.ol b.ol.length (Nat.le_refl _)
  have h2 := goIt_iff b b.il b.il.length (Nat.le_refl _)
  have h3 := goLk_iff b b.ll b.ll.length (Nat.le_refl _)
  simp only [Nat.sub_self, List.take_zero, List.drop_zero, Nat.zero_le, forall_const] at h1 h2 h3
  unfold rightB openB
  simp only [Bool.and_eq_true, decide_eq_true_eq, h1, h2, h3, List.all_eq_true]
  constructor
  · rintro ⟨⟨⟨⟨⟨⟨⟨a1, a2⟩, a3⟩, a4⟩, a5⟩, a6⟩, a7⟩, a8⟩
    exact ⟨a1, a2, a3, a4, fun i h => ⟨(a5 i h).1, (a5 i h).2.1, List.all_eq_true.2 (a5 i h).2.2⟩, a6, a7, a8⟩
  · rintro ⟨a1, a2, a3, a4, a5, a6, a7, a8⟩
    exact ⟨⟨⟨⟨⟨⟨⟨a1, a2⟩, a3⟩, a4⟩, fun i h => ⟨(a5 i h).1, (a5 i h).2.1, List.all_eq_true.1 (a5 i h).2.2⟩⟩, a6⟩, a7⟩, a8⟩

theorem vget_none {l : List (V × V)} {k : V} (h : ∀ kv ∈ l, keq k kv.1 = false) : vget l k = none := by
  unfold vget
  rw [List.find?_eq_none.2 (fun kv hkv => by rw [h kv hkv]; simp)]
  rfl

/-- Where no name stands twice, a map of them grows. -/
theorem c_locks (b : BV) (R : RightF b) (σ : St) : VCalls Try.prog 40 [bkv b] σ fun r σ' => r = .bool true ∧ σ' = σ := by
  refine vcalls_intro (C := cfg Try.prog [] [] []) (cfg_ok mixed) Try.func40 rfl rfl rfl rfl rfl ?_
  have hl8 := R.lks
  simp -implicitDefEqProofs only [go_sem, bkv, bvC, lvs_length]
  refine w_loop (fun i => i ≤ b.ll.length) (fun i => [(10, .int .i64 i), (9, .int .i64 b.ll.length), (8, .sl b.ln false 3 (lvs b.ll)), (3, .mp σ.length), (1, .ip (bvC b))]) (fun i => σ ++ [.map ((b.ll.take i).map fun x => (.str x.user, .bool true))]) (fun i => b.ll.length - i) 0 (Nat.zero_le _) ?_ rfl ?_
  · simp -implicitDefEqProofs only [go_sem, bvC]
    rfl
  intro i hi
  rcases Nat.lt_or_ge i b.ll.length with h | h
  · have hw : IntKind.i64.wrap ((i : Int) + 1) = ((i + 1 : Nat) : Int) := wrap_ok (by omega) (by omega)
    have hlk := R.lock i h
    unfold lockB at hlk
    simp only [Bool.and_eq_true, decide_eq_true_eq, beq_iff_eq] at hlk
    obtain ⟨⟨⟨⟨⟨g1, g2⟩, g3⟩, g4⟩, g5⟩, g6⟩ := hlk
    have hnone : ∀ x ∈ b.ll.take i, strEq b.ll[i].user x.user = false := by
      intro x hx
      rw [strEq_dec, decide_eq_false_iff_not]
      intro e
      rcases idxL_cases (usL b.ll[i].user) b.ll with hc | ⟨j, j1, j2, j3⟩
      · rw [idxL_none hc] at g6
        exact absurd g6 (by omega)
      · rw [idxL_at j1 j2 j3] at g6
        have : j = i := by omega
        subst this
        have hq := List.all_eq_true.1 j2 x hx
        simp [usL, e] at hq
    have hall : ((b.ll.take i).map fun x => (V.str x.user, V.bool true)).all (fun kv => sameKind (.str b.ll[i].user) kv.1) = true := by
      rw [List.all_eq_true]
      intro kv hkv
      obtain ⟨x, hx, rfl⟩ := List.mem_map.1 hkv
      rfl
    have hvg : vget ((b.ll.take i).map fun x => (V.str x.user, V.bool true)) (.str b.ll[i].user) = none := vget_none fun kv hkv => by
      obtain ⟨x, hx, rfl⟩ := List.mem_map.1 hkv
      have := hnone x hx
      rw [strEq_dec, decide_eq_false_iff_not] at this
      show (b.ll[i].user == x.user) = false
      cases hq : b.ll[i].user == x.user with
      | false => rfl
      | true => exact absurd (eq_of_bytes_beq hq) this
    have hvp := vput_none (v := .bool true) hvg
    have n1 : ∀ a b : Int, decide (a < b) = !decide (b ≤ a) := fun a b => by rw [Bool.eq_iff_iff]; simp
    have d2 : decide (1 ≤ b.ll[i].n) = true := decide_eq_true g2
    have d3 : decide (b.ll[i].n ≤ 255) = true := decide_eq_true g3
    simp -implicitDefEqProofs only [go_sem, h, lvs_length, lvs_getD h]
    refine vgo_call rfl rfl rfl rfl (c_isUser _ _) ?_
    simp -implicitDefEqProofs only [go_sem, g1, hall, hvg, n1, d2, d3]
    refine ⟨hall, vgo_call rfl rfl rfl rfl (c_between _ _ _) ?_⟩
    have hb : btwB b.ll[i].t 1000000000 = true := by unfold btwB; simp [g4, g5]
    simp -implicitDefEqProofs only [go_sem, hb, hvp]
    refine ⟨hall, ?_⟩
    refine l_next (i + 1) h (by omega) ?_ ?_
    · simp -implicitDefEqProofs only [go_sem, bvC, hw]
    · rw [List.take_succ_eq_append_getElem h, List.map_append]
      rfl
  · have hh : ¬ (i < b.ll.length) := by omega
    have hd : decide ((b.ll.length : Int) ≤ 8) = true := by simp; omega
    simp -implicitDefEqProofs only [go_sem, hh]
    refine l_exit ?_
    simp -implicitDefEqProofs only [go_sem, bvC, lvs_length, hd]

end Go.VL

/- Contracts of this program's functions: what is open, of a right book. Conditions: none. -/
namespace Go.VL
open Go.Proofs

def mapI {α : Type} (k : α → Int) (kd : IntKind) (v : α → V) (l : List α) : List (V × V) := l.map fun x => (.int kd (k x), v x)
theorem mapI_all {α : Type} (k : α → Int) (kd : IntKind) (v : α → V) (l : List α) (n : Int) : (mapI k kd v l).all (fun kv => sameKind (.int kd n) kv.1) = true := by
  rw [List.all_eq_true]
  intro kv hkv
  obtain ⟨x, hx, rfl⟩ := List.mem_map.1 hkv
  show (kd == kd) = true
  cases kd <;> rfl
theorem mapI_get {α : Type} (k : α → Int) (kd : IntKind) (v : α → V) (n : Int) : ∀ l : List α, vget (mapI k kd v l) (.int kd n) = (l.find? fun x => k x == n).map v
  | [] => rfl
  | x :: l => by
    have ih := mapI_get k kd v n l
    unfold vget mapI at ih ⊢
    rw [List.map_cons, List.find?_cons, List.find?_cons]
    have e : keq (.int kd n) (.int kd (k x)) = (k x == n) := by
      show (n == k x) = (k x == n)
      rw [Bool.eq_iff_iff]
      simp only [beq_iff_eq]
      exact eq_comm
    simp only [e]
    cases k x == n
    · exact ih
    · rfl
theorem mapI_snoc {α : Type} (k : α → Int) (kd : IntKind) (v : α → V) (l : List α) (x : α) : mapI k kd v (l ++ [x]) = mapI k kd v l ++ [(.int kd (k x), v x)] := by simp [mapI]
theorem mapI_put {α : Type} (k : α → Int) (kd : IntKind) (v : α → V) (l : List α) (x : α) (h : ∀ y ∈ l, (k y == k x) = false) : vput (mapI k kd v l) (.int kd (k x)) (v x) = mapI k kd v (l ++ [x]) := by
  rw [mapI_snoc]
  refine vput_none ?_
  rw [mapI_get, List.find?_eq_none.2 (fun y hy => by rw [h y hy]; simp)]
  rfl

def mO (l : List SV) : List (V × V) := mapI SV.id .i64 (fun s => .agg (svC s)) l
def mL (l : List SV) : List (V × V) := mapI SV.link .i64 (fun _ => .bool true) l
def mA (l : List SV) : List (V × V) := mapI SV.addr .u32 (fun _ => .bool true) l
def opS (σ : St) (l : List SV) : St := σ ++ [.map (mO l), .map (mL l), .map (mA l)]

/-- The numbers rise. -/
theorem ids_rise {b : BV} (R : RightF b) : ∀ (j i : Nat) (hj : j < b.ol.length) (hi : i < b.ol.length), j < i → b.ol[j].id < b.ol[i].id := by
  intro j i
  induction i with
  | zero => intro _ _ h; omega
  | succ i ih =>
    intro hj hi h
    have h1 := (R.ok (i + 1) hi).2.1
    rw [afterB_succ (by omega)] at h1
    have h1 := of_decide_eq_true h1
    rcases Nat.lt_or_ge j i with h' | h'
    · have := ih hj (by omega) h'
      omega
    · have : j = i := by omega
      subst this
      exact h1

set_option maxRecDepth 20000 in
theorem c_opens (b : BV) (R : RightF b) (σ : St) : VCalls Try.prog 37 [bkv b] σ fun r σ' => r = .tup [.mp σ.length, .bool true] ∧ σ' = opS σ b.ol := by
  refine vcalls_keep (C := cfg Try.prog [] [] []) (cfg_ok mixed) Try.func37 rfl rfl rfl rfl rfl ?_
  have hl := R.len
  simp -implicitDefEqProofs only [go_sem, bkv, bvC, svs_length, List.append_assoc, List.length_append]
  refine w_loop (fun i => i ≤ b.ol.length) (fun i => [(16, .int .i64 i), (15, .int .i64 b.ol.length), (14, .sl b.on false 6 (svs b.ol)), (7, .int .i64 (match (b.ol.take i).getLast? with | some q => q.id | none => -1)), (4, .mp σ.length), (5, .mp (σ.length + 1)), (6, .mp (σ.length + 2)), (1, .ip (bvC b))]) (fun i => opS σ (b.ol.take i)) (fun i => b.ol.length - i) 0 (Nat.zero_le _) ?_ rfl ?_
  · simp -implicitDefEqProofs only [go_sem, bvC]
    exact ⟨rfl, rfl⟩
  intro i hi
  rcases Nat.lt_or_ge i b.ol.length with h | h
  · have hw : IntKind.i64.wrap ((i : Int) + 1) = ((i + 1 : Nat) : Int) := wrap_ok (by omega) (by omega)
    obtain ⟨hok, haf, hap⟩ := R.ok i h
    unfold okSB at hok
    simp only [Bool.and_eq_true, decide_eq_true_eq] at hok
    obtain ⟨⟨⟨⟨g1, g2⟩, g3, g4⟩, g5⟩, g6⟩ := hok
    have hap' := List.all_eq_true.1 hap
    have hlk : ∀ y ∈ b.ol.take i, (y.link == b.ol[i].link) = false := fun y hy => by
      have := hap' y hy
      unfold apartB at this
      simp only [Bool.and_eq_true, Bool.not_eq_true'] at this
      exact this.1
    have had : ∀ y ∈ b.ol.take i, (y.addr == b.ol[i].addr) = false := fun y hy => by
      have := hap' y hy
      unfold apartB at this
      simp only [Bool.and_eq_true, Bool.not_eq_true'] at this
      exact this.2
    have hid : ∀ y ∈ b.ol.take i, (y.id == b.ol[i].id) = false := fun y hy => by
      obtain ⟨j, hj, rfl⟩ := List.mem_iff_getElem.1 hy
      have hj' : j < i := by simp at hj; omega
      have := ids_rise R j i (by omega) h hj'
      simp
      omega
    have gL : vget (mL (b.ol.take i)) (.int .i64 b.ol[i].link) = none := by
      unfold mL
      rw [mapI_get, List.find?_eq_none.2 (fun y hy => by rw [hlk y hy]; simp)]
      rfl
    have gA : vget (mA (b.ol.take i)) (.int .u32 b.ol[i].addr) = none := by
      unfold mA
      rw [mapI_get, List.find?_eq_none.2 (fun y hy => by rw [had y hy]; simp)]
      rfl
    have n1 : ∀ a b : Int, decide (a < b) = !decide (b ≤ a) := fun a b => by rw [Bool.eq_iff_iff]; simp
    have hlast : decide (b.ol[i].id ≤ (match (b.ol.take i).getLast? with | some q => q.id | none => -1)) = false := by
      unfold afterB at haf
      cases hg : (b.ol.take i).getLast? with
      | none => simp only; rw [decide_eq_false_iff_not]; omega
      | some q =>
        rw [hg] at haf
        have := of_decide_eq_true haf
        simp only
        rw [decide_eq_false_iff_not]
        omega
    have hnx : decide (b.next ≤ b.ol[i].id) = false := by rw [decide_eq_false_iff_not]; omega
    have hadr : b.ol[i].addr < 4294967296 := by
      unfold poolB at g6
      simp only [Bool.and_eq_true, decide_eq_true_eq] at g6
      omega
    have hbt : btwB b.ol[i].link 7 = true := by unfold btwB; simp [g3, g4]
    generalize hla : (match (b.ol.take i).getLast? with | some q => q.id | none => (-1 : Int)) = la at hlast
    unfold opS
    simp -implicitDefEqProofs only [go_sem, h, svs_length, svs_getD h, hlast, bvC, hnx]
    refine vgo_call rfl rfl rfl rfl (c_between _ _ _) ?_
    simp -implicitDefEqProofs only [go_sem, hbt, gL]
    refine ⟨mapI_all _ _ _ _ _, vgo_call rfl rfl rfl rfl (c_inPool _ hadr _) ?_⟩
    simp -implicitDefEqProofs only [go_sem, g6, gA]
    refine ⟨mapI_all _ _ _ _ _, vgo_call rfl rfl rfl rfl (c_isUser _ _) ?_⟩
    simp -implicitDefEqProofs only [go_sem, g5]
    have et : b.ol.take (i + 1) = b.ol.take i ++ [b.ol[i]] := List.take_succ_eq_append_getElem h
    have pO : vput (mO (b.ol.take i)) (.int .i64 b.ol[i].id) (.agg [.int .i64 b.ol[i].id, .int .i64 b.ol[i].link, .int .u32 b.ol[i].addr, .str b.ol[i].user, .int .u64 b.ol[i].inn, .int .u64 b.ol[i].out]) = mO (b.ol.take (i + 1)) := by
      rw [et]
      exact mapI_put SV.id .i64 (fun s => .agg (svC s)) _ b.ol[i] hid
    have pL : vput (mL (b.ol.take i)) (.int .i64 b.ol[i].link) (.bool true) = mL (b.ol.take (i + 1)) := by
      rw [et]
      exact mapI_put SV.link .i64 (fun _ => .bool true) _ b.ol[i] hlk
    have pA : vput (mA (b.ol.take i)) (.int .u32 b.ol[i].addr) (.bool true) = mA (b.ol.take (i + 1)) := by
      rw [et]
      exact mapI_put SV.addr .u32 (fun _ => .bool true) _ b.ol[i] had
    refine w_walk3 [12, 13, 14] [0, 1, 2, 3, 4, 5, 6, 7, 8, 9, 10, 11, 12, 13, 14, 15] [61, 62, 63, 64, 65, 66, 67, 68, 69, 70, 71, 72, 7] [0, 0, 2, 0, 0, 16, 0, 0, 128, 0, 0, 1024, 519, 4671, 13311, 32767] [7] rfl rfl rfl rfl rfl ?_
    simp -implicitDefEqProofs only [go_sem, pO, pL, pA]
    have hgl : (match (b.ol.take (i + 1)).getLast? with | some q => q.id | none => (-1 : Int)) = b.ol[i].id := by
      rw [et, List.getLast?_append]
      rfl
    refine ⟨mapI_all _ _ _ _ _, mapI_all _ _ _ _ _, mapI_all _ _ _ _ _, l_next (i + 1) h (by omega) ?_ rfl⟩
    simp -implicitDefEqProofs only [go_sem, hw, hgl]
  · have hh : ¬ (i < b.ol.length) := by omega
    simp -implicitDefEqProofs only [go_sem, hh]
    refine l_exit ?_
    rw [List.take_of_length_le h]
    simp -implicitDefEqProofs only [go_sem, vendK]

theorem c_follows_nil (x : IV) (σ : St) : VCalls Try.prog 64 [.nilp, .agg (ivC x)] σ fun r σ' => r = .bool (startB x) ∧ σ' = σ := by
  refine vcalls_intro (C := cfg Try.prog [] [] []) (cfg_ok mixed) Try.func64 rfl rfl rfl rfl rfl ?_
  simp -implicitDefEqProofs only [go_sem, ivC, mk]
  unfold startB
  rw [Bool.and_assoc, Bool.and_assoc]

theorem c_follows (y x : IV) (σ : St) : VCalls Try.prog 64 [.ip (ivC y), .agg (ivC x)] σ fun r σ' => r = .bool (onB y x) ∧ σ' = σ := by
  refine vcalls_intro (C := cfg Try.prog [] [] []) (cfg_ok mixed) Try.func64 rfl rfl rfl rfl rfl ?_
  have hon : onB y x = ((bif x.kind == 2 && x.cause == 0 then true else x.kind == 3 && btwB x.cause 255) && !(y.kind == 3) && decide (y.inn ≤ x.inn) && decide (y.out ≤ x.out)) := by
    unfold onB btwB
    rw [Bool.and_assoc (x.kind == 3)]
    cases (bif x.kind == 2 && x.cause == 0 then true else x.kind == 3 && (decide (0 ≤ x.cause) && decide (x.cause ≤ 255))) <;> simp
  rw [hon]
  have fin : ∀ c : Bool, True := fun _ => trivial
  simp -implicitDefEqProofs only [go_sem, ivC]
  cases h1 : x.kind == 2
  · simp -implicitDefEqProofs only [go_sem, h1]
    cases h2 : x.kind == 3
    · simp -implicitDefEqProofs only [go_sem, h2]
      refine w_walk3 [] [0, 1, 2, 3, 4, 5, 6, 7, 8, 9, 10, 11, 12, 13, 14, 15, 16, 17, 18, 19, 20, 21, 22, 23, 24, 25, 26] [31, 32, 33, 34, 35, 36, 37, 38, 39, 40, 41, 42, 43, 44, 45, 46, 47, 48, 49, 50, 51, 52, 53, 54, 55, 56, 4] [0, 1, 3, 7, 15, 31, 63, 127, 255, 511, 1023, 511, 2559, 6655, 14847, 32767, 65535, 131071, 262143, 524287, 262143, 1310719, 3407871, 7602175, 16777215, 33554431, 67108863] [4] rfl rfl rfl rfl rfl ?_
      simp -implicitDefEqProofs only [go_sem]
    · simp -implicitDefEqProofs only [go_sem, h2]
      refine vgo_call rfl rfl rfl rfl (c_between _ _ _) ?_
      cases h3 : btwB x.cause 255
      · simp -implicitDefEqProofs only [go_sem]
        refine w_walk3 [] [0, 1, 2, 3, 4, 5, 6, 7, 8, 9, 10, 11, 12, 13, 14, 15, 16, 17, 18, 19, 20, 21, 22, 23, 24, 25, 26] [31, 32, 33, 34, 35, 36, 37, 38, 39, 40, 41, 42, 43, 44, 45, 46, 47, 48, 49, 50, 51, 52, 53, 54, 55, 56, 4] [0, 1, 3, 7, 15, 31, 63, 127, 255, 511, 1023, 511, 2559, 6655, 14847, 32767, 65535, 131071, 262143, 524287, 262143, 1310719, 3407871, 7602175, 16777215, 33554431, 67108863] [4] rfl rfl rfl rfl rfl ?_
        simp -implicitDefEqProofs only [go_sem]
      · simp -implicitDefEqProofs only [go_sem]
        refine w_walk3 [] [0, 1, 2, 3, 4, 5, 6, 7, 8, 9, 10, 11, 12, 13, 14, 15, 16, 17, 18, 19, 20, 21, 22, 23, 24, 25, 26] [31, 32, 33, 34, 35, 36, 37, 38, 39, 40, 41, 42, 43, 44, 45, 46, 47, 48, 49, 50, 51, 52, 53, 54, 55, 56, 4] [0, 1, 3, 7, 15, 31, 63, 127, 255, 511, 1023, 511, 2559, 6655, 14847, 32767, 65535, 131071, 262143, 524287, 262143, 1310719, 3407871, 7602175, 16777215, 33554431, 67108863] [4] rfl rfl rfl rfl rfl ?_
        simp -implicitDefEqProofs only [go_sem, bne]
        cases h4 : y.kind == 3
        · simp -implicitDefEqProofs only [go_sem, h4, bne]
          cases h5 : decide (y.inn ≤ x.inn) <;> simp -implicitDefEqProofs only [go_sem, h5]
        · simp -implicitDefEqProofs only [go_sem, h4]
  · have h2 : (x.kind == 3) = false := by
      have := beq_iff_eq.1 h1
      rw [this]; rfl
    simp -implicitDefEqProofs only [go_sem, h1]
    cases h3 : x.cause == 0
    · simp -implicitDefEqProofs only [go_sem, h3, h2]
      refine w_walk3 [] [0, 1, 2, 3, 4, 5, 6, 7, 8, 9, 10, 11, 12, 13, 14, 15, 16, 17, 18, 19, 20, 21, 22, 23, 24, 25, 26] [31, 32, 33, 34, 35, 36, 37, 38, 39, 40, 41, 42, 43, 44, 45, 46, 47, 48, 49, 50, 51, 52, 53, 54, 55, 56, 4] [0, 1, 3, 7, 15, 31, 63, 127, 255, 511, 1023, 511, 2559, 6655, 14847, 32767, 65535, 131071, 262143, 524287, 262143, 1310719, 3407871, 7602175, 16777215, 33554431, 67108863] [4] rfl rfl rfl rfl rfl ?_
      simp -implicitDefEqProofs only [go_sem]
    · simp -implicitDefEqProofs only [go_sem, h3]
      refine w_walk3 [] [0, 1, 2, 3, 4, 5, 6, 7, 8, 9, 10, 11, 12, 13, 14, 15, 16, 17, 18, 19, 20, 21, 22, 23, 24, 25, 26] [31, 32, 33, 34, 35, 36, 37, 38, 39, 40, 41, 42, 43, 44, 45, 46, 47, 48, 49, 50, 51, 52, 53, 54, 55, 56, 4] [0, 1, 3, 7, 15, 31, 63, 127, 255, 511, 1023, 511, 2559, 6655, 14847, 32767, 65535, 131071, 262143, 524287, 262143, 1310719, 3407871, 7602175, 16777215, 33554431, 67108863] [4] rfl rfl rfl rfl rfl ?_
      simp -implicitDefEqProofs only [go_sem, bne]
      cases h4 : y.kind == 3
      · simp -implicitDefEqProofs only [go_sem, h4, bne]
        cases h5 : decide (y.inn ≤ x.inn) <;> simp -implicitDefEqProofs only [go_sem, h5]
      · simp -implicitDefEqProofs only [go_sem, h4]

end Go.VL

/- Contracts of this program's functions: the ledger of a right book. Conditions: none. -/
namespace Go.VL
open Go.Proofs

/-- The last lines of all sessions. -/
def upd : List IV → IV → List IV
  | [], x => [x]
  | y :: r, x => bif y.id == x.id then x :: r else y :: upd r x
def lasts (l : List IV) : List IV := l.foldl upd []
def mV (l : List IV) : List (V × V) := mapI IV.id .i64 (fun x => .ip (ivC x)) l
theorem lasts_take {l : List IV} {i : Nat} (h : i < l.length) : lasts (l.take (i + 1)) = upd (lasts (l.take i)) l[i] := by
  unfold lasts
  rw [List.take_succ_eq_append_getElem h, List.foldl_append]
  rfl
theorem mV_put (x : IV) : ∀ l : List IV, vput (mV l) (.int .i64 x.id) (.ip (ivC x)) = mV (upd l x)
  | [] => rfl
  | y :: l => by
    have ih := mV_put x l
    unfold mV mapI at ih ⊢
    rw [List.map_cons, vput, upd]
    have e : keq (.int .i64 x.id) (.int .i64 y.id) = (y.id == x.id) := by
      show (x.id == y.id) = (y.id == x.id)
      rw [Bool.eq_iff_iff]
      simp only [beq_iff_eq]
      exact eq_comm
    simp only [e]
    cases y.id == x.id
    · simp only [cond_false, List.map_cons]
      rw [ih]
    · rfl
theorem upd_find (n : Int) (x : IV) : ∀ l : List IV, (upd l x).find? (fun y => y.id == n) = bif x.id == n then some x else l.find? (fun y => y.id == n)
  | [] => by
    simp only [upd, List.find?_cons, List.find?_nil]
    cases x.id == n <;> rfl
  | y :: l => by
    simp only [upd]
    cases e : y.id == x.id
    · simp only [cond_false, List.find?_cons, upd_find n x l]
      cases e1 : y.id == n
      · rfl
      · have : (x.id == n) = false := by
          have h1 := beq_iff_eq.1 e1
          rw [← h1]
          simp at e ⊢
          exact fun h => e h.symm
        rw [this]
        rfl
    · simp only [cond_true, List.find?_cons]
      have h1 := beq_iff_eq.1 e
      rw [h1]
      cases x.id == n <;> rfl
theorem lasts_find (n : Int) (l : List IV) : ∀ k, k ≤ l.length → (lasts (l.take k)).find? (fun y => y.id == n) = prevOf n (l.take k)
  | 0, _ => rfl
  | k + 1, h => by
    rw [lasts_take h, upd_find, prevOf_take n h, lasts_find n l k (by omega)]
    rfl
theorem upd_ids (x : IV) : ∀ l : List IV, (upd l x).map IV.id = l.map IV.id ∨ (x.id ∉ l.map IV.id ∧ (upd l x).map IV.id = l.map IV.id ++ [x.id])
  | [] => .inr ⟨by simp, rfl⟩
  | y :: l => by
    simp only [upd]
    cases e : y.id == x.id
    · simp only [cond_false, List.map_cons]
      rcases upd_ids x l with h | ⟨h1, h2⟩
      · exact .inl (by rw [h])
      · refine .inr ⟨?_, by rw [h2]; rfl⟩
        simp at e h1 ⊢
        exact ⟨fun h => e h.symm, h1⟩
    · left
      have h1 := beq_iff_eq.1 e
      simp [h1]
theorem lasts_nodup (l : List IV) : ∀ k, k ≤ l.length → ((lasts (l.take k)).map IV.id).Nodup
  | 0, _ => List.nodup_nil
  | k + 1, h => by
    rw [lasts_take h]
    have ih := lasts_nodup l k (by omega)
    rcases upd_ids l[k] (lasts (l.take k)) with e | ⟨h1, e⟩
    · rw [e]; exact ih
    · rw [e]
      exact List.nodup_append.2 ⟨ih, by simp, fun a ha b hb => by simp at hb; subst hb; exact fun e => h1 (e ▸ ha)⟩
theorem find_of_nodup {y : IV} : ∀ {l : List IV}, (l.map IV.id).Nodup → y ∈ l → l.find? (fun z => z.id == y.id) = some y
  | z :: l, hn, hy => by
    rw [List.map_cons, List.nodup_cons] at hn
    rw [List.find?_cons]
    rcases List.mem_cons.1 hy with rfl | hy
    · simp
    · have : (z.id == y.id) = false := by
        simp
        intro e
        exact hn.1 (e ▸ List.mem_map_of_mem hy)
      rw [this]
      exact find_of_nodup hn.2 hy

/-- A last line is the last one of its session. -/
theorem lasts_mem {l : List IV} {y : IV} (hy : y ∈ lasts l) : ∃ n, ∃ h : n < l.length, l[n] = y ∧ lastL (idI y.id) l = n ∧ prevOf y.id l = some y := by
  have h1 := find_of_nodup (l := lasts l) (by have := lasts_nodup l l.length (Nat.le_refl _); rwa [List.take_length] at this) hy
  have h2 := lasts_find y.id l l.length (Nat.le_refl _)
  rw [List.take_length, h1] at h2
  rcases last_prev y.id l l.length (Nat.le_refl _) with ⟨_, h3⟩ | ⟨n, hn, _, h3, h4, _⟩
  · rw [List.take_length, ← h2] at h3; cases h3
  · rw [List.take_length] at h3 h4
    rw [← h2] at h4
    cases h4
    exact ⟨n, hn, rfl, h3, h2.symm⟩

theorem any_find (l : List SV) (id : Int) : decide (0 ≤ idxL (idS id) l) = (l.find? (fun s => s.id == id)).isSome := by
  rw [idxL_nonneg]
  induction l with
  | nil => rfl
  | cons s l ih =>
    rw [List.any_cons, List.find?_cons, ih]
    show (s.id == id || _) = _
    cases s.id == id <;> rfl

/-- Of a right book, a last line is a stop, or its session is open, with its octets. -/
theorem last_ok {b : BV} (R : RightF b) {y : IV} (hy : y ∈ lasts b.il) :
    (b.ol.find? (fun s => s.id == y.id) = none ∧ (y.kind == 3) = true) ∨ ∃ s, b.ol.find? (fun s => s.id == y.id) = some s ∧ (y.kind == 3) = false ∧ (s.inn == y.inn) = true ∧ (s.out == y.out) = true := by
  obtain ⟨n, hn, h1, h2, h3⟩ := lasts_mem hy
  have hE := (R.line n hn).2
  unfold endB at hE
  rw [h1, h2, any_find] at hE
  simp only [beq_self_eq_true, Bool.true_and, Bool.not_eq_true'] at hE
  cases hf : b.ol.find? (fun s => s.id == y.id) with
  | none =>
    rw [hf] at hE
    refine .inl ⟨rfl, ?_⟩
    cases h : y.kind == 3
    · rw [h] at hE; cases hE
    · rfl
  | some s =>
    rw [hf] at hE
    have hs := List.mem_of_find?_eq_some hf
    have hid := List.find?_some hf
    have hm := R.mat s hs
    unfold matchB at hm
    have hid' : s.id = y.id := by simpa using hid
    rw [hid', h3] at hm
    simp only [Bool.and_eq_true] at hm
    refine .inr ⟨s, rfl, ?_, ?_, ?_⟩
    · cases h : y.kind == 3
      · rfl
      · rw [h] at hE; cases hE
    · rw [beq_iff_eq] at hm ⊢; exact hm.1.symm
    · have := hm.2; rw [beq_iff_eq] at this ⊢; exact this.symm

theorem mV_at {l : List IV} {i : Nat} {kv : V × V} (h : (mV l)[i]? = some kv) : ∃ y ∈ l, kv = (.int .i64 y.id, .ip (ivC y)) := by
  unfold mV mapI at h
  rw [List.getElem?_map] at h
  obtain ⟨y, hy, rfl⟩ := Option.map_eq_some_iff.1 h
  exact ⟨y, List.mem_of_getElem? hy, rfl⟩
theorem mO_at {l : List SV} {i : Nat} {kv : V × V} (h : (mO l)[i]? = some kv) : ∃ y ∈ l, kv = (.int .i64 y.id, .agg (svC y)) := by
  unfold mO mapI at h
  rw [List.getElem?_map] at h
  obtain ⟨y, hy, rfl⟩ := Option.map_eq_some_iff.1 h
  exact ⟨y, List.mem_of_getElem? hy, rfl⟩

end Go.VL

/- Contracts of this program's functions: the ledger of a right book. Conditions: none. -/
namespace Go.VL
open Go.Proofs

set_option maxHeartbeats 4000000 in
set_option maxRecDepth 20000 in
theorem c_ledger (b : BV) (R : RightF b) (σ : St) (oid : Nat) (ho : σ[oid]? = some (.map (mO b.ol))) : VCalls Try.prog 39 [bkv b, .mp oid] σ fun r σ' => r = .bool true ∧ σ' = σ := by
  refine vcalls_intro (C := cfg Try.prog [] [] []) (cfg_ok mixed) Try.func39 rfl rfl rfl rfl rfl ?_
  have hl := R.len
  have ho' : ∀ l : St, (σ ++ l)[oid]? = some (.map (mO b.ol)) := fun l => by
    have : oid < σ.length := by
      rcases Nat.lt_or_ge oid σ.length with h | h
      · exact h
      · rw [List.getElem?_eq_none h] at ho; cases ho
    rw [List.getElem?_append_left this]
    exact ho
  simp -implicitDefEqProofs only [go_sem, bkv, bvC, ivs_length, List.append_assoc, List.length_append]
  refine w_loop (fun i => i ≤ b.il.length) (fun i => [(17, .int .i64 i), (16, .int .i64 b.il.length), (15, .sl b.inl false 5 (ivs b.il)), (4, .bool false), (5, .mp σ.length), (1, .mp oid), (2, .ip (bvC b))]) (fun i => σ ++ [.map (mV (lasts (b.il.take i)))]) (fun i => b.il.length - i) 0 (Nat.zero_le _) ?_ rfl ?_
  · simp -implicitDefEqProofs only [go_sem, bvC]
    rfl
  intro i hi
  rcases Nat.lt_or_ge i b.il.length with h | h
  · have hw : IntKind.i64.wrap ((i : Int) + 1) = ((i + 1 : Nat) : Int) := wrap_ok (by omega) (by omega)
    have hlb := (R.line i h).1
    unfold lineB at hlb
    simp only [Bool.and_eq_true, decide_eq_true_eq] at hlb
    obtain ⟨⟨g1, g2⟩, g3⟩ := hlb
    have hn0 := R.next0
    have hn1 := R.next1
    have hwn : IntKind.i64.wrap (b.next - 1) = b.next - 1 := by rw [IntKind.wrap_i64]; omega
    have hbt : btwB b.il[i].id (b.next - 1) = true := by unfold btwB; simp; omega
    have hget : vget (mV (lasts (b.il.take i))) (.int .i64 b.il[i].id) = (prevOf b.il[i].id (b.il.take i)).map fun x => .ip (ivC x) := by
      unfold mV
      rw [mapI_get, lasts_find _ _ _ (by omega)]
    have hall := mapI_all IV.id .i64 (fun x => .ip (ivC x)) (lasts (b.il.take i)) b.il[i].id
    have fin : ∀ (fr : Fr) (c : Prop), c → c := fun _ _ h => h
    have hput : vput (mV (lasts (b.il.take i))) (.int .i64 b.il[i].id) (.ip [.int .i64 b.il[i].kind, .int .i64 b.il[i].id, .int .u64 b.il[i].inn, .int .u64 b.il[i].out, .int .i64 b.il[i].cause]) = mV (lasts (b.il.take (i + 1))) := by
      rw [lasts_take h, ← mV_put]
      rfl
    simp -implicitDefEqProofs only [go_sem, h, ivs_length, ivs_getD h, bvC, hwn]
    refine vgo_call rfl rfl rfl rfl (c_between _ _ _) ?_
    cases hp : prevOf b.il[i].id (b.il.take i) with
    | none =>
      rw [hp] at hget g3
      simp only [Option.map] at hget
      simp -implicitDefEqProofs only [go_sem, hbt, hget]
      refine ⟨hall, vgo_call rfl rfl rfl rfl (c_follows_nil b.il[i] _) ?_⟩
      simp only at g3
      simp -implicitDefEqProofs only [go_sem, g3]
      refine w_walk2 [7] [0, 1, 2, 3, 4, 5, 6, 7] [38, 39, 40, 41, 42, 43, 44] [0, 0, 2, 0, 8, 0, 56, 127] rfl rfl rfl rfl ?_
      simp -implicitDefEqProofs only [go_sem, bvC, ivs_length, h, ivs_getD h, hput]
      refine ⟨hall, l_next (i + 1) h (by omega) ?_ rfl⟩
      simp -implicitDefEqProofs only [go_sem, hw]
    | some y =>
      rw [hp] at hget g3
      simp only [Option.map] at hget
      simp -implicitDefEqProofs only [go_sem, hbt, hget]
      refine ⟨hall, vgo_call rfl rfl rfl rfl (c_follows y b.il[i] _) ?_⟩
      simp only at g3
      simp -implicitDefEqProofs only [go_sem, g3]
      refine w_walk2 [7] [0, 1, 2, 3, 4, 5, 6, 7] [38, 39, 40, 41, 42, 43, 44] [0, 0, 2, 0, 8, 0, 56, 127] rfl rfl rfl rfl ?_
      simp -implicitDefEqProofs only [go_sem, bvC, ivs_length, h, ivs_getD h, hput]
      refine ⟨hall, l_next (i + 1) h (by omega) ?_ rfl⟩
      simp -implicitDefEqProofs only [go_sem, hw]
  · have hh : ¬ (i < b.il.length) := by omega
    simp -implicitDefEqProofs only [go_sem, hh]
    refine l_exit ?_
    rw [List.take_of_length_le h]
    simp -implicitDefEqProofs only [go_sem, List.append_assoc, List.length_append]
    refine w_loop (fun _ => True) (fun _ => [(47, .ptr (σ.length + 1) 0), (4, .bool false), (5, .mp σ.length), (1, .mp oid), (2, .ip (bvC b))]) (fun p : List Nat × Option Nat => σ ++ [.map (mV (lasts b.il)), .iter σ.length (mV (lasts b.il)).length p.1 p.2]) (fun p => p.1.length) (List.range (mV (lasts b.il)).length, none) trivial ?_ rfl ?_
    · simp -implicitDefEqProofs only [go_sem, bvC]
    rintro ⟨left, cur⟩ -
    simp -implicitDefEqProofs only [go_sem]
    refine vany_intro ?_ ?_
    · intro _
      simp -implicitDefEqProofs only [go_sem]
      refine l_exit ?_
      simp -implicitDefEqProofs only [go_sem, List.append_assoc, List.length_append, bvC, ho']
      refine w_loop (fun _ => True) (fun _ => [(88, .ptr (σ.length + 2) 0), (4, .bool false), (5, .mp σ.length), (1, .mp oid), (2, .ip (bvC b))]) (fun p : List Nat × Option Nat => σ ++ [.map (mV (lasts b.il)), .iter σ.length (mV (lasts b.il)).length left cur, .iter oid (mO b.ol).length p.1 p.2]) (fun p => p.1.length) (List.range (mO b.ol).length, none) trivial ?_ rfl ?_
      · simp -implicitDefEqProofs only [go_sem, bvC]
      rintro ⟨left2, cur2⟩ -
      simp -implicitDefEqProofs only [go_sem, ho']
      refine vany_intro ?_ ?_
      · intro _
        have hwl : IntKind.i64.wrap ((b.il.length : Int) + (b.ol.length : Int)) = ((b.il.length + b.ol.length : Nat) : Int) := by rw [IntKind.wrap_i64]; omega
        have e60 : decide (((b.il.length + b.ol.length : Nat) : Int) ≤ 60) = true := by rw [decide_eq_true_eq]; omega
        simp -implicitDefEqProofs only [go_sem]
        refine l_exit ?_
        simp -implicitDefEqProofs only [go_sem, bvC, ivs_length, svs_length, hwl, e60]
      · intro i kv hi hkv
        obtain ⟨s, hs, rfl⟩ := mO_at hkv
        have hm := R.mat s hs
        unfold matchB at hm
        have hget : vget (mV (lasts b.il)) (.int .i64 s.id) = (prevOf s.id b.il).map fun x => .ip (ivC x) := by
          have h1 := lasts_find s.id b.il b.il.length (Nat.le_refl _)
          rw [List.take_length] at h1
          unfold mV
          rw [mapI_get, h1]
        have hall := mapI_all IV.id .i64 (fun x => .ip (ivC x)) (lasts b.il) s.id
        have hm2 : (left2.erase i).length < left2.length := by
          rw [List.length_erase_of_mem hi]
          have := List.length_pos_of_mem hi
          omega
        cases hp : prevOf s.id b.il with
        | none => rw [hp] at hm; cases hm
        | some y =>
          rw [hp] at hget
          simp only [Option.map] at hget
          simp -implicitDefEqProofs only [go_sem, hkv, ho', hget, ivC]
          refine ⟨hall, l_next (left2.erase i, some i) trivial hm2 ?_ rfl⟩
          simp -implicitDefEqProofs only [go_sem]
    · intro i kv hi hkv
      obtain ⟨y, hy, rfl⟩ := mV_at hkv
      have hgo : vget (mO b.ol) (.int .i64 y.id) = (b.ol.find? fun s => s.id == y.id).map fun s => .agg (svC s) := mapI_get _ _ _ _ _
      have hall := mapI_all SV.id .i64 (fun s => .agg (svC s)) b.ol y.id
      have hm : (left.erase i).length < left.length := by
        rw [List.length_erase_of_mem hi]
        have := List.length_pos_of_mem hi
        omega
      rcases last_ok R hy with ⟨h1, h2⟩ | ⟨s, h1, h2, h3, h4⟩
      · rw [h1] at hgo
        simp only [Option.map] at hgo
        simp -implicitDefEqProofs only [go_sem, hkv, ho', hgo, ivC, h2]
        refine ⟨hall, ?_⟩
        refine w_walk2 [] [0, 1, 2, 3, 4, 5, 6, 7, 8, 9, 10, 11, 12, 13, 14, 15, 16, 17, 18, 19, 20, 21, 22, 23, 24, 25, 26, 27] [59, 60, 61, 62, 63, 64, 65, 66, 67, 68, 69, 70, 71, 72, 73, 74, 75, 76, 77, 78, 79, 80, 81, 82, 83, 84, 85, 86] [0, 0, 2, 6, 14, 30, 63, 127, 255, 511, 1023, 2047, 1023, 5119, 13311, 29695, 65535, 131071, 262143, 524287, 262143, 1310719, 3407871, 7602175, 16777215, 33554431, 67108863, 134217727] rfl rfl rfl rfl ?_
        simp -implicitDefEqProofs only [go_sem, h2]
        refine l_next (left.erase i, some i) trivial hm ?_ rfl
        simp -implicitDefEqProofs only [go_sem]
      · rw [h1] at hgo
        simp only [Option.map] at hgo
        simp -implicitDefEqProofs only [go_sem, hkv, ho', hgo, ivC, svC, h2]
        refine ⟨hall, ?_⟩
        refine w_walk2 [] [0, 1, 2, 3, 4, 5, 6, 7, 8, 9, 10, 11, 12, 13, 14, 15, 16, 17, 18, 19, 20, 21, 22, 23, 24, 25, 26, 27] [59, 60, 61, 62, 63, 64, 65, 66, 67, 68, 69, 70, 71, 72, 73, 74, 75, 76, 77, 78, 79, 80, 81, 82, 83, 84, 85, 86] [0, 0, 2, 6, 14, 30, 63, 127, 255, 511, 1023, 2047, 1023, 5119, 13311, 29695, 65535, 131071, 262143, 524287, 262143, 1310719, 3407871, 7602175, 16777215, 33554431, 67108863, 134217727] rfl rfl rfl rfl ?_
        simp -implicitDefEqProofs only [go_sem, h2, svC, bne, h3, h4]
        refine l_next (left.erase i, some i) trivial hm ?_ rfl
        simp -implicitDefEqProofs only [go_sem]
end Go.VL

/- Contracts of this program's functions: which books are right; closing all. Conditions: none. -/
namespace Go.VL
open Go.Proofs

theorem c_bright (b : BV) (R : RightF b) (σ : St) : VCalls Try.prog 16 [bkv b] σ fun r σ' => r = .bool true ∧ σ' = σ := by
  refine vcalls_intro (C := cfg Try.prog [] [] []) (cfg_ok mixed) Try.func16 rfl rfl rfl rfl rfl ?_
  simp -implicitDefEqProofs only [go_sem, bkv, bvC]
  refine vgo_call' rfl rfl rfl (c_opens b R σ) ?_
  rintro r σ' ⟨rfl, rfl⟩
  refine ⟨rfl, ?_⟩
  have hbt : btwB b.next 1000000000 = true := by unfold btwB; simp [R.next0, R.next1]
  simp -implicitDefEqProofs only [go_sem]
  refine vgo_call rfl rfl rfl rfl (c_between _ _ _) ?_
  simp -implicitDefEqProofs only [go_sem, hbt]
  have hm : (opS σ b.ol)[σ.length]? = some (.map (mO b.ol)) := by unfold opS; simp
  refine vgo_call rfl rfl rfl rfl (c_ledger b R _ _ hm) ?_
  simp -implicitDefEqProofs only [go_sem]
  refine vgo_call rfl rfl rfl rfl (c_locks b R _) ?_
  simp -implicitDefEqProofs only [go_sem, opS]

def stopI (s : SV) : IV := ⟨3, s.id, s.inn, s.out, 9⟩
def clO (s : SV) : PV := ⟨3, s.id, 0, 0, s.user, s.inn, s.out, 9, 0⟩
def closeS (b : BV) : Nat → BV
  | 0 => b
  | k + 1 => { b with ol := b.ol.drop (k + 1), on := false, il := b.il ++ (b.ol.take (k + 1)).map stopI, inl := false }
def closeP (b : BV) : BV := closeS b b.ol.length
theorem closeS_ol (b : BV) : ∀ k, (closeS b k).ol = b.ol.drop k
  | 0 => rfl
  | _ + 1 => rfl
theorem closeS_il (b : BV) : ∀ k, (closeS b k).il = b.il ++ (b.ol.take k).map stopI
  | 0 => by simp [closeS]
  | _ + 1 => rfl
theorem closeS_next (b : BV) : ∀ k, (closeS b k).next = b.next
  | 0 => rfl
  | _ + 1 => rfl
theorem closeS_ll (b : BV) : ∀ k, (closeS b k).ll = b.ll ∧ (closeS b k).ln = b.ln
  | 0 => ⟨rfl, rfl⟩
  | _ + 1 => ⟨rfl, rfl⟩
theorem closeS_ok {b : BV} (ok : BOK b) : ∀ k, BOK (closeS b k)
  | 0 => ok
  | _ + 1 => { o := fun h => Bool.noConfusion h, i := fun h => Bool.noConfusion h, l := ok.l }
theorem closeS_step {b : BV} (R : RightF b) {k : Nat} (h : k < b.ol.length) : applyP (closeS b k) (clO b.ol[k]) = (closeS b (k + 1), 0) := by
  obtain ⟨hok, _, _⟩ := R.ok k h
  have hn1 := R.next1
  unfold okSB at hok
  simp only [Bool.and_eq_true, decide_eq_true_eq] at hok
  obtain ⟨⟨⟨⟨g1, g2⟩, g3, g4⟩, g5⟩, g6⟩ := hok
  have hm : mayB (clO b.ol[k]) = true := by
    unfold mayB clO btwB
    simp [g5]
    omega
  have hd : (closeS b k).ol = b.ol[k] :: b.ol.drop (k + 1) := by rw [closeS_ol, List.drop_eq_getElem_cons h]
  have hI : idxL (idS b.ol[k].id) (closeS b k).ol = 0 := by
    have h0 : 0 < (closeS b k).ol.length := by rw [hd]; exact Nat.zero_lt_succ _
    have := idxL_at (p := idS b.ol[k].id) (l := (closeS b k).ol) (i := 0) h0 rfl (by simp [hd, idS])
    exact this
  have hat : atP (closeS b k) (clO b.ol[k]) = (0, 0) := by
    unfold atP
    have : (closeS b k).ol.find? (idS (clO b.ol[k]).id) = some b.ol[k] := by
      rw [hd, List.find?_cons]
      have : idS (clO b.ol[k]).id b.ol[k] = true := by simp [idS, clO]
      rw [this]
    rw [this]
    simp only
    have e : (clO b.ol[k]).id = b.ol[k].id := rfl
    rw [e, hI]
    simp [clO]
  have hE : closeE (closeS b k) (clO b.ol[k]) = 0 := by unfold closeE; rw [hat]
  have hR : closeRow (closeS b k) (clO b.ol[k]) = b.ol.drop (k + 1) := by
    unfold closeRow atI
    have e : (clO b.ol[k]).id = b.ol[k].id := rfl
    rw [e, hI, hd]
    rfl
  unfold applyP
  have n1 : ¬ (clO b.ol[k]).kind = 1 := fun h => absurd (show (3 : Int) = 1 from h) (by decide)
  have n2 : ¬ (clO b.ol[k]).kind = 2 := fun h => absurd (show (3 : Int) = 2 from h) (by decide)
  rw [hm, if_neg (by decide), if_neg n1, if_neg n2, if_pos (show (clO b.ol[k]).kind = 3 from rfl), if_pos hE, hR, closeS_il]
  have : (b.il ++ List.map stopI (List.take k b.ol)) ++ [⟨3, (clO b.ol[k]).id, (clO b.ol[k]).inn, (clO b.ol[k]).out, (clO b.ol[k]).cause⟩] = b.il ++ List.map stopI (List.take (k + 1) b.ol) := by
    rw [List.take_succ_eq_append_getElem h, List.map_append, List.append_assoc]
    rfl
  rw [this]
  cases k <;> rfl

set_option maxRecDepth 20000 in
theorem c_bclose (b : BV) (R : RightF b) (ok : BOK b) (σ : St) : VCalls Try.prog 14 [bkv b] σ fun r σ' => r = bkv (closeP b) ∧ σ' = σ := by
  refine VCalls.res ?_
  refine vcalls_intro (C := cfg Try.prog [] [1] []) (cfg_ok mixed) Try.func14 rfl rfl rfl rfl rfl ?_
  have hl := R.len
  simp -implicitDefEqProofs only [go_sem, bkv, bvC]
  refine w_loop (fun k => k ≤ b.ol.length) (fun k => [(1, .cell (bvC (closeS b k))), (2, .cell [.int .i64 0, .sl true false 0 [], .sl true false 0 [], .sl true false 0 []])]) (fun _ => σ) (fun k => b.ol.length - k) 0 (Nat.zero_le _) ?_ rfl ?_
  · simp -implicitDefEqProofs only [go_sem, bvC, closeS]
  intro k hk
  have hlen : (closeS b k).ol.length = b.ol.length - k := by rw [closeS_ol, List.length_drop]
  have hil : (closeS b k).il.length = b.il.length + k := by rw [closeS_il]; simp; omega
  rcases Nat.lt_or_ge k b.ol.length with h | h
  · have hpos : 0 < (closeS b k).ol.length := by omega
    have hge : (svs (closeS b k).ol).getD 0 .undef = .agg [.int .i64 b.ol[k].id, .int .i64 b.ol[k].link, .int .u32 b.ol[k].addr, .str b.ol[k].user, .int .u64 b.ol[k].inn, .int .u64 b.ol[k].out] := by
      rw [svs_getD hpos]
      simp [closeS_ol]
    have hstep := closeS_step R h
    have hd : decide ((0 : Int) < ((b.ol.length - k : Nat) : Int)) = true := by simp; omega
    have hN : ∀ l ∈ (closeS b k).ll, 0 ≤ l.n ∧ l.n ≤ 255 := fun l hl => by
      rw [(closeS_ll b k).1] at hl
      obtain ⟨i, hi, rfl⟩ := List.mem_iff_getElem.1 hl
      have := R.lock i hi
      unfold lockB at this
      simp only [Bool.and_eq_true, decide_eq_true_eq] at this
      omega
    have hc := c_apply (closeS b k) (clO b.ol[k]) (closeS_ok ok k) (by rw [closeS_next]; exact R.next0) (by omega) (by rw [(closeS_ll b k).1]; exact R.lks) hN (by show (0 : Int) < 4294967296; decide) σ
    rw [hstep] at hc
    simp -implicitDefEqProofs only [go_sem, bvC, svs_length, hlen, hpos, hd, hge]
    refine ⟨by omega, vgo_call rfl rfl rfl rfl hc ?_⟩
    simp -implicitDefEqProofs only [go_sem, applyV, bkv, bvC]
    refine l_next (k + 1) h (by omega) ?_ rfl
    simp -implicitDefEqProofs only [go_sem, bvC]
  · have hd : decide ((0 : Int) < ((b.ol.length - k : Nat) : Int)) = false := by simp; omega
    have hk' : k = b.ol.length := by omega
    subst hk'
    simp -implicitDefEqProofs only [go_sem, bvC, svs_length, hlen, hd]
    refine l_exit ?_
    simp -implicitDefEqProofs only [go_sem, bkv, bvC, closeP]
    exact .refl _

end Go.VL

/- Contracts of this program's functions: the example at the head. Conditions: none. -/
namespace Go.VL
open Go.Proofs

deriving instance DecidableEq for BV
def uB : ByteArray := ⟨#[117]⟩
def b0 : BV := ⟨0, [], true, [], true, [], true⟩
def b0V : V := .agg [.int .i64 0, .sl true false 0 [], .sl true false 0 [], .sl true false 0 []]
def o1 : PV := ⟨1, 0, 3, 167772161, uB, 0, 0, 0, 0⟩
def b1 : BV := ⟨1, [⟨0, 3, 167772161, uB, 0, 0⟩], false, [⟨1, 0, 0, 0, 0⟩], false, [], true⟩
def b2 : BV := ⟨1, [], false, [⟨1, 0, 0, 0, 0⟩, ⟨3, 0, 0, 0, 9⟩], false, [], true⟩
theorem b0_ne : NE b0V (bkv b0) := .aggL ⟨.refl _, .nil _ _ _ _, .nil _ _ _ _, .nil _ _ _ _, trivial⟩
theorem b1_is : applyP b0 o1 = (b1, 0) := by decide +kernel
theorem b1_right : rightB b1 = true := by decide +kernel
theorem b1_R : RightF b1 := (right_iff b1).1 b1_right
theorem b1_ok : BOK b1 := { o := fun h => Bool.noConfusion h, i := fun h => Bool.noConfusion h, l := fun _ => rfl }
theorem b2_is : closeP b1 = b2 := rfl
theorem b1_free : freeP b1 = (167772162, true) := by decide +kernel
theorem b1_same : sameB b1 b1 = true := by decide +kernel
def o0 : PV := ⟨0, 0, 0, 0, ⟨#[]⟩, 0, 0, 0, 0⟩
theorem o0_may : mayB o0 = false := by decide +kernel

set_option maxRecDepth 20000 in
theorem c_shown (σ : St) : VCalls Try.prog 9 [] σ fun r σ' => r = .bool true ∧ σ' = σ := by
  refine vcalls_intro (C := cfg Try.prog [] [] []) (cfg_ok mixed) Try.func9 rfl rfl rfl rfl rfl ?_
  have hap := c_apply b0 o1 ⟨fun _ => rfl, fun _ => rfl, fun _ => rfl⟩ (by decide) (by decide) (by decide) (fun l h => by cases h) (by decide) σ
  rw [b1_is] at hap
  have e1 : (((1 : Nat) : Int) == 1) = true := rfl
  have e0 : (((0 : Nat) : Int) == 0) = true := rfl
  have e2 : (((2 : Nat) : Int) == 2) = true := rfl
  simp -implicitDefEqProofs only [go_sem]
  refine vgo_call rfl rfl rfl rfl (hap.ne ⟨b0_ne, .refl _, trivial⟩) ?_
  simp -implicitDefEqProofs only [go_sem, applyV, bkv, bvC, b1]
  refine vgo_call rfl rfl rfl rfl (c_bclose b1 b1_R b1_ok σ) ?_
  rw [b2_is]
  simp -implicitDefEqProofs only [go_sem, applyV, bkv, bvC, b2]
  refine vgo_call rfl rfl rfl rfl (c_free b1 (by decide) σ) ?_
  rw [b1_free]
  simp -implicitDefEqProofs only [go_sem, svs, ivs, List.map, List.length, sv, svC, e0, e1, e2]
  refine ⟨by decide, vgo_call rfl rfl rfl rfl (c_bright b1 b1_R σ) ?_⟩
  simp -implicitDefEqProofs only [go_sem, svs, ivs, List.map, List.length, e0, e1, e2]
  refine vgo_call rfl rfl rfl rfl (c_bsame b1 b1 (by decide) (by decide) (by decide) σ) ?_
  rw [b1_same]
  simp -implicitDefEqProofs only [go_sem, svs, ivs, List.map, List.length, e0, e1, e2]
  refine vgo_call rfl rfl rfl rfl (c_may o0 σ) ?_
  rw [o0_may]
  simp -implicitDefEqProofs only [go_sem]

end Go.VL
