/- The value-level words and their soundness, joined texts. Conditions: none. -/
import Derived.Test.YtonjofnphkghcaaGreatDoorVVb
import Derived.KernelRfl
import Derived.ChangeKeysEq
import Derived.Deep.Slices
import Derived.ChangeOld
import Derived.Below
import Derived.Carry
import Derived.OpenShut
import Derived.RowKit
import Derived.SizedLaws
import Derived.WideShapes
set_option linter.unusedVariables false
set_option linter.unusedSimpArgs false
/- The table of types, out of the program itself. Conditions: none (plain theorems over any program). -/
namespace Go.VL

/-! '==' of structs of plain fields, of arrays of plain elements. -/
def pkOf : TypeDesc → Option PK
  | .bool => some .bool
  | .int k => some (.int k)
  | .string => some .str
  | _ => none

def flatFs (P : Program) : Nat → List Field → Option (List PK)
  | _, [] => some []
  | i, f :: r => bif f.name == "_" || !Nat.beq f.offset i then none else
    match (P.underlying f.type).bind pkOf, flatFs P (i + 1) r with
    | some k, some ks => some (k :: ks)
    | _, _ => none

def eqsOf (P : Program) (t : TypeId) : Option (List PK) :=
  bif P.eqGuardType P.depth t then none else
  match P.underlying t with
  | some (.struct fs) => bif P.stoodInHeld t then none else flatFs P 0 fs.toList
  | some (.array n e) => (match (P.underlying e).bind pkOf, P.info? e with
    | some k, some i => bif Nat.beq i.size 1 then some (List.replicate n k) else none
    | _, _ => none)
  | _ => none

section eqs
variable {P : Program}

theorem pk_plain {e : TypeId} {k : PK} (h : (P.underlying e).bind pkOf = some k) : P.plainKey e = true := by
  unfold Program.plainKey
  cases hu : P.underlying e with
  | none => rw [hu] at h; cases h
  | some d => rw [hu] at h; cases d <;> first | rfl | (simp [pkOf] at h)

theorem pk_eq {e : TypeId} {k : PK} (h : (P.underlying e).bind pkOf = some k) {a b : V} {r : List PK} {xs ys : List V} (ha : mk (k :: r) (a :: xs) = true) (hb : mk (k :: r) (b :: ys) = true) (d : Nat) (w : World) :
    (Op.equalIn (d + 1) e (plainVal a) (plainVal b)).run P w = .ok (cellEq a b) w ∧ mk r xs = true ∧ mk r ys = true := by
  cases hu : P.underlying e with
  | none => rw [hu] at h; cases h
  | some td =>
    rw [hu] at h
    cases k <;> cases a <;> simp only [mk, Bool.and_eq_true, Bool.false_eq_true] at ha <;> cases b <;> simp only [mk, Bool.and_eq_true, Bool.false_eq_true] at hb
    · rename_i k ka a kb b
      have e1 : ka = k := by simpa using ha.1
      have e2 : kb = k := by simpa using hb.1
      subst e1 e2
      cases td <;> simp [pkOf] at h
      exact ⟨by simp only [plainVal, cellEq]; rw [run_equalIn_int _ d e _ _ a b hu]; simp, ha.2, hb.2⟩
    · cases td <;> simp [pkOf] at h
      exact ⟨by simp only [plainVal, cellEq]; rw [run_equalIn_bool _ d e _ _ hu], ha, hb⟩
    · cases td <;> simp [pkOf] at h
      exact ⟨by simp only [plainVal, cellEq, strEq]; rw [run_equalIn_string _ d e _ _ hu], ha, hb⟩

theorem eqFields_flat (d : Nat) (w : World) (us ts : Array Value) : ∀ (fs : List Field) (i : Nat) (ks : List PK) (xs ys : List V), flatFs P i fs = some ks → mk ks xs = true → mk ks ys = true →
    (∀ j x, xs[j]? = some x → us[i + j]? = some (plainVal x)) → (∀ j x, ys[j]? = some x → ts[i + j]? = some (plainVal x)) → (Op.eqFields (d + 1) us ts fs).run P w = .ok (cellsEq xs ys) w
  | [], i, ks, xs, ys, h, hx, hy, _, _ => by
    simp only [flatFs, Option.some.injEq] at h
    subst h
    cases xs <;> simp [mk] at hx
    cases ys <;> simp [mk] at hy
    simp [Op.eqFields, cellsEq]
  | f :: fs, i, ks, xs, ys, h, hx, hy, h1, h2 => by
    simp only [flatFs] at h
    cases hc : (f.name == "_" || !Nat.beq f.offset i) with
    | true => rw [hc] at h; cases h
    | false =>
      rw [hc] at h
      simp only [Bool.or_eq_false_iff, Bool.not_eq_false'] at hc
      have ho : f.offset = i := Nat.eq_of_beq_eq_true hc.2
      have hn : f.name ≠ "_" := by simpa using hc.1
      simp only [cond_false] at h
      cases hk : (P.underlying f.type).bind pkOf with
      | none => rw [hk] at h; simp at h
      | some k =>
        rw [hk] at h
        cases hr : flatFs P (i + 1) fs with
        | none => rw [hr] at h; simp at h
        | some ks' =>
          rw [hr] at h
          simp only [Option.some.injEq] at h
          subst h
          cases xs with
          | nil => cases k <;> simp [mk] at hx
          | cons a xs =>
            cases ys with
            | nil => cases k <;> simp [mk] at hy
            | cons b ys =>
              obtain ⟨q1, q2, q3⟩ := pk_eq hk hx hy d w
              have p1 := run_part_plain (P := P) w (pk_plain hk) (xs := us) (off := f.offset) (v := plainVal a) (by have := h1 0 a rfl; rw [ho]; simpa using this)
              have p2 := run_part_plain (P := P) w (pk_plain hk) (xs := ts) (off := f.offset) (v := plainVal b) (by have := h2 0 b rfl; rw [ho]; simpa using this)
              have ih := eqFields_flat d w us ts fs (i + 1) ks' xs ys hr q2 q3 (fun j x hj => by have := h1 (j + 1) x (by simpa using hj); rw [show i + 1 + j = i + (j + 1) by omega]; exact this)
                (fun j x hj => by have := h2 (j + 1) x (by simpa using hj); rw [show i + 1 + j = i + (j + 1) by omega]; exact this)
              simp only [Op.eqFields, hn, ne_eq, not_false_eq_true, if_true, Sem.run_bind, p1, p2, q1, Result.andThen_ok, cellsEq]
              cases cellEq a b
              · simp
              · simp [ih]

theorem eqItems_flat (d : Nat) (w : World) {e : TypeId} {k : PK} (hk : (P.underlying e).bind pkOf = some k) (us ts : Array Value) : ∀ (n i : Nat) (xs ys : List V), mk (List.replicate n k) xs = true → mk (List.replicate n k) ys = true →
    (∀ j x, xs[j]? = some x → us[i + j]? = some (plainVal x)) → (∀ j x, ys[j]? = some x → ts[i + j]? = some (plainVal x)) → (Op.eqItems (d + 1) e 1 us ts (List.range' i n)).run P w = .ok (cellsEq xs ys) w
  | 0, i, xs, ys, hx, hy, _, _ => by
    cases xs <;> simp [mk] at hx
    cases ys <;> simp [mk] at hy
    simp [Op.eqItems, cellsEq]
  | n + 1, i, xs, ys, hx, hy, h1, h2 => by
    rw [List.replicate_succ] at hx hy
    cases xs with
    | nil => cases k <;> simp [mk] at hx
    | cons a xs =>
      cases ys with
      | nil => cases k <;> simp [mk] at hy
      | cons b ys =>
        obtain ⟨q1, q2, q3⟩ := pk_eq hk hx hy d w
        have p1 := run_part_plain (P := P) w (pk_plain hk) (xs := us) (off := i * 1) (v := plainVal a) (by have := h1 0 a rfl; rw [Nat.mul_one]; simpa using this)
        have p2 := run_part_plain (P := P) w (pk_plain hk) (xs := ts) (off := i * 1) (v := plainVal b) (by have := h2 0 b rfl; rw [Nat.mul_one]; simpa using this)
        have ih := eqItems_flat d w hk us ts n (i + 1) xs ys q2 q3 (fun j x hj => by have := h1 (j + 1) x (by simpa using hj); rw [show i + 1 + j = i + (j + 1) by omega]; exact this)
          (fun j x hj => by have := h2 (j + 1) x (by simpa using hj); rw [show i + 1 + j = i + (j + 1) by omega]; exact this)
        rw [List.range'_succ]
        simp only [Op.eqItems, Sem.run_bind, p1, p2, q1, Result.andThen_ok, cellsEq]
        cases cellEq a b
        · simp
        · simp [ih]

theorem at_map {us : Array Value} {xs : List V} (h : us.toList = xs.map plainVal) (j : Nat) (x : V) (hj : xs[j]? = some x) : us[0 + j]? = some (plainVal x) := by
  rw [Nat.zero_add, ← Array.getElem?_toList, h, List.getElem?_map, hj]
  rfl

theorem eqsOf_ok {t : TypeId} {ks : List PK} (h : eqsOf P t = some ks) : EqOK P t ks := by
  intro op x y us ts xs ys w hx hy h1 h2
  unfold eqsOf at h
  cases hg : P.eqGuardType P.depth t with
  | true => rw [hg] at h; cases h
  | false =>
    rw [hg] at h
    simp only [cond_false] at h
    have g : (eqGuard op t x y (.agg us) (.agg ts)).run P w = .ok () w := by
      unfold eqGuard
      cases op <;> simp [Sem.run_bind, run_program, hg]
    refine ⟨g, ?_⟩
    cases hu : P.underlying t with
    | none => rw [hu] at h; cases h
    | some td =>
      rw [hu] at h
      cases td <;> simp only [reduceCtorEq] at h
      case struct fs =>
        cases hs : P.stoodInHeld t with
        | true => rw [hs] at h; cases h
        | false =>
          rw [hs] at h
          simp only [cond_false] at h
          have hfs : P.fieldsOf t = fs := by simp [Program.fieldsOf, hu]
          show (Op.equalIn (9999 + 1) t (.agg us) (.agg ts)).run P w = _
          rw [run_equalIn_struct w 9999 t us ts (by rw [hfs]; exact hu) hs, hfs]
          exact eqFields_flat 9998 w us ts fs.toList 0 ks xs ys h hx hy (at_map h1) (at_map h2)
      case array n e =>
        cases hk : (P.underlying e).bind pkOf with
        | none => rw [hk] at h; simp at h
        | some k =>
          rw [hk] at h
          cases hi : P.info? e with
          | none => rw [hi] at h; simp at h
          | some i =>
            rw [hi] at h
            simp only at h
            cases hb : Nat.beq i.size 1 with
            | false => rw [hb] at h; cases h
            | true =>
              rw [hb] at h
              simp only [cond_true, Option.some.injEq] at h
              subst h
              have hc : P.cellsOf e = 1 := by simp [Program.cellsOf, hi, Nat.eq_of_beq_eq_true hb]
              show (Op.equalIn (9999 + 1) t (.agg us) (.agg ts)).run P w = _
              rw [run_equalIn_array w 9999 us ts hu hi, hc, List.range_eq_range']
              exact eqItems_flat 9998 w hk us ts n 0 xs ys hx hy (at_map h1) (at_map h2)
theorem ck_ok {t : TypeId} {ks : List PK} (h : eqsOf P t = some ks) {n : Nat} {e : TypeId} (hu : P.underlying t = some (.array n e)) (b : Bool) (us : Array Value) (xs : List V) (w : World) (hm : mk ks xs = true) (hx : us.toList = xs.map plainVal) : (Instr.checkKey b 10000 t (.agg us)).run P w = .ok () w := by
  unfold eqsOf at h
  cases hg : P.eqGuardType P.depth t with
  | true => rw [hg] at h; cases h
  | false =>
    rw [hg, hu] at h
    simp only [cond_false] at h
    cases hk : (P.underlying e).bind pkOf with
    | none => rw [hk] at h; simp at h
    | some k =>
      rw [hk] at h
      cases hi : P.info? e with
      | none => rw [hi] at h; simp at h
      | some i =>
        rw [hi] at h
        simp only at h
        cases hb : Nat.beq i.size 1 with
        | false => rw [hb] at h; cases h
        | true =>
          rw [hb] at h
          simp only [cond_true, Option.some.injEq] at h
          subst h
          have hlen : ∀ (n : Nat) (xs : List V), mk (List.replicate n k) xs = true → xs.length = n := by
            intro n
            induction n with
            | zero => intro xs h; cases xs <;> simp [mk] at h ⊢
            | succ n ih =>
              intro xs h
              rw [List.replicate_succ] at h
              cases xs with
              | nil => cases k <;> simp [mk] at h
              | cons x xs =>
                have : mk (List.replicate n k) xs = true := by cases k <;> cases x <;> simp only [mk, Bool.and_eq_true, Bool.false_eq_true] at h <;> first | exact h.2 | exact h
                simp [ih xs this]
          have hsz : us.size = n := by
            have := congrArg List.length hx
            rw [List.length_map, hlen n xs hm] at this
            simpa using this
          have h1 : (sizeOf e).run P w = .ok 1 w := by simp [Go.sizeOf, typeInfo, hi, Nat.eq_of_beq_eq_true hb]
          have hc : ∀ (d : Nat) v, (Instr.checkKey b (d + 1) e v).run P w = .ok () w := fun d v => by
            cases hue : P.underlying e with
            | none => rw [hue] at hk; cases hk
            | some td => rw [hue] at hk; cases td <;> first | (simp [pkOf] at hk; done) | simp [Instr.checkKey, run_underlying hue]
          have key : ∀ d : Nat, (Instr.checkKey b (d + 1 + 1) t (.agg us)).run P w = .ok () w := fun d => by
            rw [Instr.checkKey]
            simp only [Sem.run_bind, run_underlying hu, Result.andThen_ok]
            simp only [Std.Legacy.Range.forIn_eq_forIn_range', Std.Legacy.Range.size, Nat.sub_zero, Nat.add_one_sub_one, Nat.div_one]
            have hin : ∀ i ∈ List.range' 0 n, i < us.size := fun i hi => by
              rw [hsz]
              simp at hi
              omega
            generalize List.range' 0 n = is at hin
            induction is with
            | nil => simp
            | cons i is ih =>
              have hi := hin i List.mem_cons_self
              have hp := run_part_plain (P := P) w (pk_plain hk) (xs := us) (off := i * 1) (v := us[i]) (by rw [Nat.mul_one]; exact Array.getElem?_eq_getElem hi)
              have ih := ih fun j hj => hin j (List.mem_cons_of_mem _ hj)
              simp only [List.forIn_cons, Sem.run_bind, h1, hp, hc, Result.andThen_ok, Sem.run_pure]
              exact ih
          exact key 9998
end eqs

def tdOf : TypeDesc → TD
  | .bool => .bool
  | .int _ => .int
  | .string => .str
  | .pointer _ => .ptr
  | .slice e => .slice e
  | .array n e => .array n e
  | .map k e => .map k e
  | .struct fs => .struct (fs.toList.map fun f => (f.offset, f.type))
  | .func _ _ _ => .func
  | .interface _ => .iface
  | _ => .other

def zeroOK (z : Value) (agg : Bool) (size : Nat) (d : TypeDesc) : Bool :=
  (match z with | .agg _ => agg | _ => !agg) && Nat.beq z.cells.toList.length size &&
  (match d with
    | .int k => (match z with | .int k' n => decide (k' = k) && decide (n = 0) | _ => false)
    | _ => true)

def tyOf (P : Program) (t : TypeId) : Ty :=
  match P.info? t, P.underlying t with
  | some i, some d => (match i.zero with
    | some z => { known := zeroOK z (aggD d) i.size d, agg := aggD d, size := i.size, bytes := i.bytes, zero := z.cells.toList, d := tdOf d, eqs := (eqsOf P t).isSome, eqk := (eqsOf P t).getD [] }
    | none => {})
  | _, _ => {}

theorem tyOf_ok {P : Program} {t : TypeId} (h : (tyOf P t).known = true) : TyOK P t (tyOf P t) := by
  unfold tyOf at h ⊢
  cases hi : P.info? t with
  | none => rw [hi] at h; simp at h
  | some i =>
    cases hu : P.underlying t with
    | none => rw [hi, hu] at h; simp at h
    | some d =>
      rw [hi, hu] at h
      simp only at h ⊢
      cases hz : i.zero with
      | none => rw [hz] at h; simp at h
      | some z =>
        rw [hz] at h
        simp only [zeroOK, Bool.and_eq_true] at h ⊢
        obtain ⟨⟨h1, h2⟩, h3⟩ := h
        refine ⟨i, d, z, hi, rfl, rfl, hz, rfl, fun ha => ?_, fun ha => ?_, Nat.eq_of_beq_eq_true h2, hu, rfl, ?_⟩
        · cases z <;> first | rfl | (simp only at h1 ha; rw [ha] at h1; cases h1)
        · cases z <;> first | rfl | (simp only at h1 ha; rw [ha] at h1; cases h1)
        · unfold TDOK
          cases d <;> simp only [tdOf] <;> try trivial
          case int k =>
            simp only at h3
            cases z <;> simp only [Bool.false_eq_true] at h3
            case int k' n =>
              simp only [Bool.and_eq_true, decide_eq_true_eq] at h3
              obtain ⟨rfl, rfl⟩ := h3
              exact ⟨_, rfl, rfl⟩
          case struct fs =>
            refine ⟨fs, rfl, by simp, fun j off ft hj => ?_⟩
            rw [List.getElem?_map] at hj
            cases hq : fs.toList[j]? with
            | none => rw [hq] at hj; cases hj
            | some f =>
              rw [hq] at hj
              simp at hj
              exact ⟨f, by simpa using hq, hj.1, hj.2⟩
          case pointer e => exact ⟨e, rfl⟩
          case func a b c => exact ⟨a, b, c, rfl⟩
          case interface ms => exact ⟨ms, rfl⟩

/-- A function's own table: where its variables lie, what is laid down at last. -/
def cfg (P : Program) (esc wrt frz : List Tmp) : Cfg := { P := P, T := tyOf P, esc := esc, wrt := wrt, frz := frz }

theorem cfg_T (P : Program) (esc wrt frz : List Tmp) (t : TypeId) : (cfg P esc wrt frz).T t = tyOf P t := rfl
theorem cfg_P (P : Program) (esc wrt frz : List Tmp) : (cfg P esc wrt frz).P = P := rfl
theorem cfg_esc (P : Program) (esc wrt frz : List Tmp) : (cfg P esc wrt frz).esc = esc := rfl
theorem cfg_wrt (P : Program) (esc wrt frz : List Tmp) : (cfg P esc wrt frz).wrt = wrt := rfl
theorem cfg_frz (P : Program) (esc wrt frz : List Tmp) : (cfg P esc wrt frz).frz = frz := rfl

theorem eqs_key {P : Program} {t : TypeId} : (tyOf P t).eqs = true → eqsOf P t = some (tyOf P t).eqk := by
  unfold tyOf
  split
  · split
    · intro h
      obtain ⟨ks, hk⟩ := Option.isSome_iff_exists.1 h
      simp only [hk, Option.getD_some]
    · intro h; cases h
  · intro h; cases h
theorem cfg_ok {P : Program} {esc wrt frz : List Tmp} (hm : P.follows .mixedOrders = true) : TabOK (cfg P esc wrt frz) := by
  refine ⟨fun t h => tyOf_ok h, fun t _ h => ?_, fun t n e hk h hd => ?_, hm⟩
  rotate_left
  · have h' : (tyOf P t).eqs = true := h
    have hk' : (tyOf P t).known = true := hk
    obtain ⟨d, hund, _, htd⟩ := (tyOf_ok hk').und
    have hd' : (tyOf P t).d = .array n e := hd
    unfold TDOK at htd
    rw [hd'] at htd
    simp only at htd
    subst htd
    exact ck_ok (eqs_key h') hund
  have h' : (tyOf P t).eqs = true := h
  show EqOK P t (tyOf P t).eqk
  have key : (tyOf P t).eqs = true → eqsOf P t = some (tyOf P t).eqk := by
    unfold tyOf
    split
    · split
      · intro h
        obtain ⟨ks, hk⟩ := Option.isSome_iff_exists.1 h
        simp only [hk, Option.getD_some]
      · intro h; cases h
    · intro h; cases h
  exact eqsOf_ok (key h')

end Go.VL

/- Operations that change nothing look at their operands alone, and tell one value. Conditions: none (plain theorems). -/
namespace Go.VL

/-- One value, and it suffices; with other words for the same. -/
def Det {α : Type} (X X' : (α → Prop) → Prop) : Prop := ∀ K, X K → ∃ r, K r ∧ ∀ K', K' r → X' K'

theorem Det.leaf {α : Type} (r : α) : Det (fun K => K r) (fun K => K r) := fun _ h => ⟨r, h, fun _ h => h⟩
theorem Det.none {α : Type} {X' : (α → Prop) → Prop} : Det (fun _ => False) X' := fun _ h => h.elim
theorem Det.and {α : Type} {p : Prop} {X X' : (α → Prop) → Prop} (h : Det X X') : Det (fun K => p ∧ X K) (fun K => p ∧ X' K) := fun K hk => by
  obtain ⟨r, h1, h2⟩ := h K hk.2
  exact ⟨r, h1, fun K' h => ⟨hk.1, h2 K' h⟩⟩
theorem Det.bind {α β : Type} {X X' : (α → Prop) → Prop} {Y Y' : α → (β → Prop) → Prop} (h : Det X X') (k : ∀ a, Det (Y a) (Y' a)) : Det (fun K => X fun a => Y a K) (fun K => X' fun a => Y' a K) := fun K hk => by
  obtain ⟨a, h1, h2⟩ := h _ hk
  obtain ⟨r, h3, h4⟩ := k a K h1
  exact ⟨r, h3, fun K' h => h2 _ (h4 K' h)⟩
theorem Det.ite {α : Type} {b : Bool} {X X' Y Y' : (α → Prop) → Prop} (h : Det X X') (k : Det Y Y') : Det (fun K => bif b then X K else Y K) (fun K => bif b then X' K else Y' K) := by
  cases b with
  | true => exact h
  | false => exact k

/-- Frames that agree where an operation looks. -/
def Agr (fr M : Fr) (x : Operand) : Prop := opv M x = opv fr x ∧ ∀ s off cs, opv fr x = .lref s off → lk fr s = .cell cs → lk M s = .cell cs

section det
variable {C : Cfg} {σ : St} {fr M : Fr}

theorem d_eqK (op : BinOp) (b : Bool) : Det (eqK op b) (eqK op b) := by
  cases op <;> first | exact .leaf _ | exact .none
theorem d_vint (op : BinOp) (k : IntKind) (a b : Int) : Det (vint op k a b) (vint op k a b) := by
  cases op <;> first | exact .leaf _ | exact .none | exact .and (.leaf _)
theorem d_vshift (op : BinOp) (k : IntKind) (a b : Int) : Det (vshift op k a b) (vshift op k a b) := by
  cases op <;> first | exact .leaf _ | exact .none | exact .and (.leaf _)
theorem d_vstr (op : BinOp) (a b : ByteArray) : Det (vstr op a b) (vstr op a b) := by
  cases op <;> first | exact .leaf _ | exact .none
theorem d_nil (σ : St) (op : BinOp) (v : V) : Det (fun K => ∃ b, nilB σ v = some b ∧ eqK op b K) (fun K => ∃ b, nilB σ v = some b ∧ eqK op b K) := fun K ⟨b, h1, h2⟩ => by
  obtain ⟨r, h3, h4⟩ := d_eqK op b K h2
  exact ⟨r, h3, fun K' h => ⟨b, h1, h4 K' h⟩⟩
theorem d_vbin (op : BinOp) (t : TypeId) (x y : V) : Det (vbin C σ op t x y) (vbin C σ op t x y) := by
  have gen : ∀ x y : V, Det (fun K => (C.T t).known = true ∧ (kindOk (C.T t).d x && kindOk (C.T t).d y) = true ∧ (bif isNilV y then ((∃ b, nilB σ x = some b ∧ eqK op b K)) else (isNilV x = true ∧ ∃ b, nilB σ y = some b ∧ eqK op b K)))
      (fun K => (C.T t).known = true ∧ (kindOk (C.T t).d x && kindOk (C.T t).d y) = true ∧ (bif isNilV y then ((∃ b, nilB σ x = some b ∧ eqK op b K)) else (isNilV x = true ∧ ∃ b, nilB σ y = some b ∧ eqK op b K))) := fun x y =>
    .and (.and (.ite (d_nil σ op x) (.and (d_nil σ op y))))
  cases x with
  | int k a =>
    cases y with
    | int k' b => exact .ite (d_vshift op k a b) (.and (d_vint op k a b))
    | _ => exact .none
  | bool a =>
    cases y with
    | bool b => exact .and (.and (d_eqK op _))
    | _ => exact .none
  | str a =>
    cases y with
    | str b => exact d_vstr op a b
    | _ => exact .none
  | agg xs =>
    cases y with
    | agg ys => exact .and (.and (.and (.and (d_eqK op _))))
    | _ => exact .none
  | _ => exact gen _ _
theorem d_vun (op : UnOp) (x : V) : Det (vun op x) (vun op x) := by
  cases op <;> cases x <;> first | exact .leaf _ | exact .none

theorem d_vcells {x : Operand} (h : Agr fr M x) : Det (vcells fr σ (opv fr x)) (vcells M σ (opv fr x)) := by
  have h2 := h.2
  generalize opv fr x = v at h2
  cases v with
  | ip cs => exact .leaf cs
  | cell cs => exact .leaf cs
  | lref s off =>
    intro K hk
    unfold vcells at hk ⊢
    simp only at hk ⊢
    have e := fun cs => h2 s off cs rfl
    generalize lk fr s = c at e hk
    cases c <;> first | (rw [e _ rfl]; exact ⟨_, hk, fun _ h => h⟩) | exact hk.elim
  | ptr id off =>
    intro K hk
    unfold vcells at hk ⊢
    simp only at hk ⊢
    generalize σ[id]? = ob at hk ⊢
    cases ob with
    | none => exact hk.elim
    | some ob => cases ob <;> first | exact ⟨_, hk, fun _ h => h⟩ | exact hk.elim
  | eptr id g i off =>
    intro K hk
    unfold vcells at hk ⊢
    simp only at hk ⊢
    generalize σ[id]? = ob at hk ⊢
    cases ob with
    | none => exact hk.elim
    | some ob => cases ob <;> first | exact ⟨_, hk.2, fun _ h => ⟨hk.1, h⟩⟩ | exact hk.elim
  | _ => exact .none

theorem d_vload (t : TypeId) (cs : List V) : Det (vload C t cs) (vload C t cs) := by
  refine .and (.ite (.and (.leaf _)) ?_)
  cases cs with
  | nil => exact .none
  | cons c r => exact .leaf c

theorem d_vshiftP {x : Operand} (h : Agr fr M x) (off : Nat) : Det (vshiftP fr σ x (opv fr x) off) (vshiftP M σ x (opv fr x) off) := by
  have h2 := h.2
  generalize opv fr x = v at h2
  cases v with
  | ip cs => exact .leaf _
  | cell cs =>
    cases x with
    | tmp s => exact .leaf _
    | _ => exact .none
  | lref s o =>
    intro K hk
    unfold vshiftP at hk ⊢
    simp only at hk ⊢
    have e := fun cs => h2 s o cs rfl
    generalize lk fr s = c at e hk
    cases c <;> first | (rw [e _ rfl]; exact ⟨_, hk, fun _ h => h⟩) | exact hk.elim
  | ptr id o =>
    intro K hk
    unfold vshiftP at hk ⊢
    simp only at hk ⊢
    generalize σ[id]? = ob at hk ⊢
    cases ob with
    | none => exact hk.elim
    | some ob => cases ob <;> first | exact ⟨_, hk, fun _ h => h⟩ | exact hk.elim
  | eptr id g i o =>
    intro K hk
    unfold vshiftP at hk ⊢
    simp only at hk ⊢
    generalize σ[id]? = ob at hk ⊢
    cases ob with
    | none => exact hk.elim
    | some ob => cases ob <;> first | exact ⟨_, hk.2, fun _ h => ⟨hk.1, h⟩⟩ | exact hk.elim
  | _ => exact .none

theorem d_vpart (t : TypeId) (cs : List V) (off : Nat) : Det (vpart C t cs off) (vpart C t cs off) := .and (.ite (.leaf _) (.and (.leaf _)))

theorem d_vlen (t : TypeId) (v : V) : Det (vlen C σ t v) (vlen C σ t v) := by
  refine .and ?_
  cases (C.T t).d <;> cases v <;> first | exact .leaf _ | exact .none | skip
  all_goals
    intro K hk
    simp only at hk ⊢
    split at hk
    · rename_i heq
      (try rw [heq])
      first
        | exact ⟨_, hk, fun _ h => h⟩
        | exact ⟨_, hk.2, fun _ h => ⟨hk.1, h⟩⟩
    · exact hk.elim

theorem d_vcap (t : TypeId) (v : V) : Det (vcap C t v) (vcap C t v) := by
  refine .and ?_
  cases (C.T t).d <;> try exact .none
  cases v <;> try exact .none
  rename_i nl c sz es
  cases nl <;> cases es <;> first | exact .leaf _ | exact .none

/-- Frames that agree on a bound. -/
theorem bnd_agr {d : Nat} {x : Option Operand} (h : ∀ y, x = some y → Agr fr M y) : bnd M d x = bnd fr d x := by
  cases x with
  | none => rfl
  | some y => simp only [bnd, (h y rfl).1]

theorem d_vslice (t : TypeId) {x : Operand} {lo hi mx : Option Operand} (hx : Agr fr M x) (hl : ∀ y, lo = some y → Agr fr M y) (hh : ∀ y, hi = some y → Agr fr M y) (hm : ∀ y, mx = some y → Agr fr M y) : Det (vslice C fr σ t x lo hi mx) (vslice C M σ t x lo hi mx) := by
  intro K hk
  unfold vslice at hk ⊢
  rw [hx.1, bnd_agr hl]
  cases hX : opv fr x <;> rw [hX] at hk <;> (try simp only at hk ⊢) <;> try exact hk.elim
  case sl nl clip sz es =>
    rw [bnd_agr hh]
    split at hk
    · rename_i e l h heq1 heq2 heq3
      (try rw [heq1, heq2, heq3])
      obtain ⟨h1, h2, h3, h4, h5⟩ := hk
      cases mx with
      | none => exact ⟨_, h5, fun _ h => ⟨h1, h2, h3, h4, h⟩⟩
      | some m =>
        simp only at h5 ⊢
        rw [bnd_agr hm]
        exact ⟨_, h5.2.2, fun _ h => ⟨h1, h2, h3, h4, h5.1, h5.2.1, h⟩⟩
    · exact hk.elim
  case rsl id g lo0 hi0 =>
    rw [bnd_agr hh]
    split at hk
    · rename_i e l h nl g0 sz es heq1 heq2 heq3 heq5
      (try rw [heq1, heq2, heq3, heq5])
      obtain ⟨h1, h2, h3, h4, h5, h6⟩ := hk
      cases mx with
      | none => exact ⟨_, h6, fun _ h => ⟨h1, h2, h3, h4, h5, h⟩⟩
      | some m =>
        simp only at h6 ⊢
        rw [bnd_agr hm]
        exact ⟨_, h6.2.2, fun _ h => ⟨h1, h2, h3, h4, h5, h6.1, h6.2.1, h⟩⟩
    · exact hk.elim
  case str s =>
    rw [bnd_agr hh]
    split at hk
    · rename_i l h heq1 heq2 heq3
      (try rw [heq1, heq2, heq3])
      exact ⟨_, hk.2.2, fun _ h => ⟨hk.1, hk.2.1, h⟩⟩
    · exact hk.elim
  case ip cs =>
    split at hk
    · rename_i n e heq1
      (try rw [heq1])
      obtain ⟨h1, h2, h3, h4, h5, h6, h7⟩ := hk
      exact ⟨_, h7, fun _ h => ⟨h1, h2, h3, h4, h5, h6, h⟩⟩
    · exact hk.elim

theorem d_fillV (places : Nat → Option (Nat × TypeId)) : ∀ (l : List (Nat × V)) (cs : List V), Det (fillV C places cs l) (fillV C places cs l)
  | [], cs => .leaf cs
  | (i, v) :: r, cs => by
    intro K hk
    unfold fillV at hk ⊢
    cases hp : places i with
    | none => rw [hp] at hk; exact hk.elim
    | some p =>
      rw [hp] at hk
      obtain ⟨h1, h2, h3, h4, h5⟩ := hk
      obtain ⟨q, h6, h7⟩ := d_fillV places r _ K h5
      exact ⟨q, h6, fun K' h => ⟨h1, h2, h3, h4, h7 K' h⟩⟩

theorem parts_agr {parts : List (Nat × Operand)} (h : ∀ p ∈ parts, Agr fr M p.2) : (parts.map fun p => (p.1, opv M p.2)) = parts.map fun p => (p.1, opv fr p.2) :=
  List.map_congr_left fun p hp => by rw [(h p hp).1]
theorem parts_agr' {parts : List (Nat × Operand)} (h : ∀ p ∈ parts, Agr fr M p.2) : (parts.map fun p => opv M p.2) = parts.map fun p => opv fr p.2 :=
  List.map_congr_left fun p hp => by rw [(h p hp).1]

theorem d_vbuild (t : TypeId) {parts : List (Nat × Operand)} (h : ∀ p ∈ parts, Agr fr M p.2) : Det (vbuild C fr t parts) (vbuild C M t parts) := by
  intro K hk
  unfold vbuild at hk ⊢
  rw [parts_agr h]
  obtain ⟨h0, hk⟩ := hk
  cases hd : (C.T t).d <;> rw [hd] at hk <;> (try simp only at hk ⊢) <;> try exact hk.elim
  case struct fs =>
    obtain ⟨q, h1, h2⟩ := d_fillV _ _ _ _ hk.2
    exact ⟨_, h1, fun K' h => ⟨h0, hk.1, h2 _ h⟩⟩
  case array n e =>
    obtain ⟨q, h1, h2⟩ := d_fillV _ _ _ _ hk.2
    exact ⟨_, h1, fun K' h => ⟨h0, hk.1, h2 _ h⟩⟩

theorem d_vbuildSlice (t : TypeId) (n : Nat) {parts : List (Nat × Operand)} (h : ∀ p ∈ parts, Agr fr M p.2) : Det (vbuildSlice C fr t n parts) (vbuildSlice C M t n parts) := by
  intro K hk
  unfold vbuildSlice at hk ⊢
  rw [parts_agr' h]
  obtain ⟨h0, hk⟩ := hk
  cases hd : (C.T t).d <;> rw [hd] at hk <;> (try simp only at hk ⊢) <;> try exact hk.elim
  obtain ⟨h1, h2, h3, h4, h5, h6⟩ := hk
  exact ⟨_, h6, fun K' h => ⟨h0, h1, h2, h3, h4, h5, h⟩⟩

theorem d_vlookup (t : TypeId) (x k : V) (ok : Bool) : Det (vlookup C σ t x k ok) (vlookup C σ t x k ok) := by
  intro K hk
  unfold vlookup at hk ⊢
  obtain ⟨h0, hk⟩ := hk
  cases hd : (C.T t).d <;> rw [hd] at hk <;> (try simp only at hk ⊢) <;> try exact hk.elim
  obtain ⟨h1, h2, h3, hk⟩ := hk
  cases x <;> (try simp only at hk ⊢) <;> try exact hk.elim
  case nilm => exact ⟨_, hk, fun _ h => ⟨h0, h1, h2, h3, h⟩⟩
  case mp id =>
    split at hk
    · rename_i l heq
      obtain ⟨h4, hk⟩ := hk
      cases hg : vget l k with
      | none => rw [hg] at hk; exact ⟨_, hk, fun _ h => ⟨h0, h1, h2, h3, h4, h⟩⟩
      | some v => rw [hg] at hk; exact ⟨_, hk, fun _ h => ⟨h0, h1, h2, h3, h4, h⟩⟩
    · exact hk.elim
  case im l =>
    obtain ⟨h4, hk⟩ := hk
    cases hg : vget l k with
    | none => rw [hg] at hk; exact ⟨_, hk, fun _ h => ⟨h0, h1, h2, h3, h4, h⟩⟩
    | some v => rw [hg] at hk; exact ⟨_, hk, fun _ h => ⟨h0, h1, h2, h3, h4, h⟩⟩

theorem d_vconv (s d : TypeId) (x : V) : Det (vconv C σ s d x) (vconv C σ s d x) := by
  intro K hk
  unfold vconv at hk ⊢
  obtain ⟨h0, h1, hk⟩ := hk
  cases x <;> (try simp only at hk ⊢) <;> try exact hk.elim
  case int k n =>
    split at hk
    · rename_i heq1 heq2
      (try rw [heq1, heq2])
      exact ⟨_, hk, fun _ h => ⟨h0, h1, h⟩⟩
    · exact hk.elim
  case str t =>
    split at hk
    · rename_i heq1
      (try rw [heq1])
      exact ⟨_, hk, fun _ h => ⟨h0, h1, h⟩⟩
    · exact hk.elim
  case sl nl c sz es =>
    split at hk
    · rename_i heq1 heq2
      (try rw [heq1, heq2])
      obtain ⟨h2, h3, h4, bs, h5, h6⟩ := hk
      exact ⟨_, h6, fun _ h => ⟨h0, h1, h2, h3, h4, bs, h5, h⟩⟩
    · exact hk.elim

/-- Every operation that changes nothing. -/
theorem d_vq {op : Op} (h : ∀ x ∈ op.operands.toList, Agr fr M x) : Det (vq C fr σ op) (vq C M σ op) := by
  have one : ∀ {x : Operand}, x ∈ op.operands.toList → opv M x = opv fr x := fun hx => (h _ hx).1
  cases op with
  | move x =>
    unfold vq
    dsimp only
    rw [one (x := x) (by simp [Op.operands])]
    exact .and (.leaf _)
  | assign x =>
    unfold vq
    dsimp only
    rw [one (x := x) (by simp [Op.operands])]
    exact .and (.leaf _)
  | pick c a b =>
    unfold vq
    dsimp only
    rw [one (x := c) (by simp [Op.operands]), one (x := a) (by simp [Op.operands]), one (x := b) (by simp [Op.operands])]
    cases opv fr c <;> first | exact .none | exact .and (.leaf _)
  | binOp op t x y yt =>
    unfold vq
    dsimp only
    rw [one (x := x) (by simp [Op.operands]), one (x := y) (by simp [Op.operands])]
    exact d_vbin op t _ _
  | unOp op t x =>
    unfold vq
    dsimp only
    rw [one (x := x) (by simp [Op.operands])]
    exact d_vun op _
  | convert s d x =>
    unfold vq
    dsimp only
    rw [one (x := x) (by simp [Op.operands])]
    exact d_vconv s d _
  | load t x =>
    unfold vq
    dsimp only
    rw [one (x := x) (by simp [Op.operands])]
    exact .bind (d_vcells (h x (by simp [Op.operands]))) fun cs => d_vload t cs
  | fieldAddr t x i =>
    unfold vq
    dsimp only
    rw [one (x := x) (by simp [Op.operands])]
    refine .and ?_
    cases (C.T t).d <;> (try exact .none)
    rename_i fs
    simp only
    cases fs[i]? with
    | none => exact .none
    | some p => exact .and (.and (d_vshiftP (h x (by simp [Op.operands])) p.1))
  | field t x i =>
    unfold vq
    dsimp only
    rw [one (x := x) (by simp [Op.operands])]
    refine .and ?_
    cases (C.T t).d <;> (try exact .none)
    rename_i fs
    cases opv fr x <;> (try exact .none)
    simp only
    cases fs[i]? with
    | none => exact .none
    | some p => exact d_vpart p.2 _ p.1
  | indexAddr t x i =>
    unfold vq
    dsimp only
    rw [one (x := x) (by simp [Op.operands]), one (x := i) (by simp [Op.operands])]
    refine .and ?_
    cases opv fr i <;> (try exact .none)
    cases (C.T t).d <;> (try exact .none)
    · refine .and ?_
      cases opv fr x <;> (try exact .none)
      · exact .and (.and (.leaf _))
      · intro K hk
        simp only at hk ⊢
        split at hk
        · rename_i heq
          (try rw [heq])
          exact ⟨_, hk.2.2.2, fun _ h => ⟨hk.1, hk.2.1, hk.2.2.1, h⟩⟩
        · exact hk.elim
    · exact .and (.and (d_vshiftP (h x (by simp [Op.operands])) _))
  | index t x i =>
    unfold vq
    dsimp only
    rw [one (x := x) (by simp [Op.operands]), one (x := i) (by simp [Op.operands])]
    refine .and ?_
    cases opv fr i <;> (try exact .none)
    cases (C.T t).d <;> cases opv fr x <;> first | exact .none | exact .and (.and (d_vpart _ _ _)) | exact .and (.leaf _)
  | slice t x lo hi mx =>
    unfold vq
    dsimp only
    exact d_vslice t (h x (by simp [Op.operands])) (fun y e => h y (by subst e; simp [Op.operands])) (fun y e => h y (by subst e; simp [Op.operands])) fun y e => h y (by subst e; simp [Op.operands])
  | build t parts =>
    unfold vq
    dsimp only
    exact d_vbuild t fun p hp => h p.2 (by simp [Op.operands]; exact ⟨p.1, by simpa using hp⟩)
  | buildSlice t n parts =>
    unfold vq
    dsimp only
    exact d_vbuildSlice t n fun p hp => h p.2 (by simp [Op.operands]; exact ⟨p.1, by simpa using hp⟩)
  | makeFunc f xs ys =>
    unfold vq
    dsimp only
    have h1 : xs.toList.map (opv M) = xs.toList.map (opv fr) := List.map_congr_left fun x hx => one (by simp [Op.operands]; exact .inl (by simpa using hx))
    have h2 : ys.toList.map (opv M) = ys.toList.map (opv fr) := List.map_congr_left fun x hx => one (by simp [Op.operands]; exact .inr (by simpa using hx))
    rw [h1, h2]
    exact .and (.leaf _)
  | extract t i =>
    unfold vq
    dsimp only
    rw [one (x := t) (by simp [Op.operands])]
    cases opv fr t <;> first | exact .none | exact .and (.and (.leaf _))
  | lookup t x k ok =>
    unfold vq
    dsimp only
    rw [one (x := x) (by simp [Op.operands]), one (x := k) (by simp [Op.operands])]
    exact d_vlookup t _ _ ok
  | entry x =>
    unfold vq
    dsimp only
    rw [one (x := x) (by simp [Op.operands])]
    intro K hk
    unfold ventry at hk ⊢
    split at hk
    · split at hk
      · split at hk
        · rename_i heq1 heq2
          obtain ⟨h1, h2, i, kv, h3, h4, h5⟩ := hk
          (try rw [heq1])
          (try simp only [heq2])
          exact ⟨_, h5, fun K' h => ⟨h1, h2, i, kv, h3, h4, h⟩⟩
        · exact hk.elim
      · exact hk.elim
    · exact hk.elim
  | nilCheck x =>
    unfold vq
    dsimp only
    rw [one (x := x) (by simp [Op.operands])]
    cases opv fr x <;> (try exact .none)
    · exact .leaf _
    · rename_i f xs ys
      cases f <;> first | exact .leaf _ | exact .none
    · intro K hk
      simp only at hk ⊢
      split at hk
      · rename_i heq
        (try rw [heq])
        exact ⟨_, hk, fun _ h => h⟩
      · exact hk.elim
  | call c =>
    obtain ⟨callee, args, ats⟩ := c
    cases callee with
    | builtin b =>
      have ha : ∀ x ∈ args.toList, opv M x = opv fr x := fun x hx => one (by simp [Op.operands, Call.operands]; simpa using hx)
      have hm : ∀ l : List Operand, (∀ x ∈ l, opv M x = opv fr x) → l.map (opv M) = l.map (opv fr) := fun l hl => List.map_congr_left hl
      intro K hk
      unfold vq at hk ⊢
      simp only at hk ⊢
      generalize args.toList = al at ha hk ⊢
      generalize ats.toList = tl at hk ⊢
      split at hk
      · rename_i x t
        rw [ha x (by simp)]
        exact d_vlen t _ K hk
      · rename_i x t
        rw [ha x (by simp)]
        exact d_vcap t _ K hk
      · rename_i x xs _
        rw [hm _ ha]
        split at hk
        · rename_i heq
          (try rw [heq])
          exact ⟨_, hk, fun _ h => h⟩
        · exact hk.elim
      · rename_i x xs _
        rw [hm _ ha]
        split at hk
        · rename_i heq
          (try rw [heq])
          exact ⟨_, hk, fun _ h => h⟩
        · exact hk.elim
      · exact hk.elim
    | _ => exact .none
  | _ => exact .none

theorem d_vsrc (e xt : TypeId) (x : V) : Det (vsrc C σ e xt x) (vsrc C σ e xt x) := by
  intro K hk
  unfold vsrc at hk ⊢
  split at hk
  · exact ⟨_, hk.2.2, fun _ h => ⟨hk.1, hk.2.1, h⟩⟩
  · obtain ⟨h1, hk⟩ := hk
    split at hk
    · rename_i heq
      exact ⟨_, hk.2.2, fun _ h => ⟨h1, ⟨hk.1, hk.2.1, h⟩⟩⟩
    · exact hk.elim
  · exact ⟨_, hk.2.2, fun _ h => ⟨hk.1, hk.2.1, h⟩⟩
  · exact ⟨_, hk.2.2.2.2, fun _ h => ⟨hk.1, hk.2.1, hk.2.2.1, hk.2.2.2.1, h⟩⟩
  · exact hk.elim

theorem d_vappQ (s x : V) (st xt : TypeId) : Det (vappQ C σ s x st xt) (vappQ C σ s x st xt) := by
  refine .and (.and ?_)
  cases (C.T st).d <;> (try exact .none)
  refine .and (.and (.and (.bind (d_vsrc _ _ _) fun src => ?_)))
  cases s <;> first | exact .none | exact .and (.and (.and (.leaf _)))

theorem d_vqx {op : Op} (h : ∀ x ∈ op.operands.toList, Agr fr M x) : Det (vqx C fr σ op) (vqx C M σ op) := by
  by_cases hc : ∃ args ats, op = .call { callee := .builtin .append, args := args, argTypes := ats }
  · obtain ⟨args, ats, rfl⟩ := hc
    unfold vqx
    dsimp only
    have ha : ∀ x ∈ args.toList, opv M x = opv fr x := fun x hx => (h x (by simp [Op.operands, Call.operands]; simpa using hx)).1
    generalize args.toList = al at ha ⊢
    generalize ats.toList = tl
    intro K hk
    split at hk
    · rename_i s x st xt
      rw [ha s (by simp), ha x (by simp)]
      exact d_vappQ _ _ _ _ K hk
    · exact hk.elim
  · have e : ∀ fr, vqx C fr σ op = vq C fr σ op := by
      intro fr
      funext K
      unfold vqx
      split
      · rename_i args ats
        exact absurd ⟨args, ats, rfl⟩ hc
      · rfl
    rw [e, e]
    exact d_vq h

end det
end Go.VL

/- Regions that draw their order, told as one walk in the order of a plan. Conditions: none (plain theorems). -/
namespace Go.VL

/-- An operation, with what is told of it: its number, whether it changes something, what it waits for (bits), its guard's place. -/
structure RO where
  i : Nat
  o : Oper
  t : Bool
  an : Nat
  g : Option (Nat × Bool)

def rg (ops : List Oper) (o : Oper) : Option (Nat × Bool) := match o.guard with
  | some (j, want) => (gslot ops j).map fun d => (d, want)
  | none => none

def mkRO (ops : List Oper) (tl : List Nat) (an : List Nat) (i : Nat) : RO :=
  let o := ops.getD i { dst := none, op := .move (.tmp 0), type := 0, pos := "", after := #[], guard := none }
  { i := i, o := o, t := memB tl i, an := an.getD i 0, g := rg ops o }

/-- A call that changes nothing. -/
def pcall (P : Program) (g : FuncId) (args : List V) (σ : St) (K : V → Prop) : Prop := ∃ v, VCalls P g args σ (fun r σ' => r = v ∧ σ' = σ) ∧ K v

def isC : V → Bool
  | .cell _ => true
  | _ => false

def pfn (C : Cfg) (σ : St) (args : List V) (K : V → Prop) : V → Prop
  | .fn (.func g) first cap => args.all V.isVal = true ∧ pcall C.P g (first ++ args ++ cap) σ K
  | _ => False

def vqp (C : Cfg) (fr : Fr) (σ : St) (op : Op) (K : V → Prop) : Prop :=
  match op with
  | .call { callee := .value f, args, .. } => pfn C σ (args.toList.map (opv fr)) K (opv fr f)
  | op => vqx C fr σ op K

def vgd (b : V) (want : Bool) (X : Prop) (Y : Prop) : Prop :=
  match b with
  | .bool b => bif b == want then X else Y
  | .tup [] => Y
  | _ => False

def vqg (C : Cfg) (fr : Fr) (σ : St) (g : Option (Nat × Bool)) (op : Op) (K : V → Prop) : Prop :=
  match g with
  | none => vqp C fr σ op K
  | some (d, want) => vgd (lk fr d) want (vqp C fr σ op K) (K (.tup []))

def agr1 (fr fr' : Fr) (x : Operand) : Prop := opv fr' x = opv fr x ∧ (match opv fr x with | .lref s _ => lk fr' s = lk fr s | _ => True)
def agrL (fr fr' : Fr) : List Operand → Prop
  | [] => True
  | x :: xs => agr1 fr fr' x ∧ agrL fr fr' xs

/-- What may come on either side of a change tells the same on both. -/
def vagain (C : Cfg) (an : Nat) (fr : Fr) (σ : St) (fr' : Fr) (σ' : St) : List (RO × V) → Prop
  | [] => True
  | p :: r => (bif bitB an p.1.i then True else ((σ' = σ ∧ agrL fr fr' p.1.o.op.operands.toList) ∨ vqg C fr' σ' p.1.g p.1.o.op fun v => v = p.2)) ∧ vagain C an fr σ fr' σ' r

def prune (an : Nat) : List (RO × V) → List (RO × V)
  | [] => []
  | p :: r => bif bitB an p.1.i then prune an r else p :: prune an r

def vdr (C : Cfg) : List RO → List (RO × V) → Fr → St → (Fr → St → Prop) → Prop
  | [], _, fr, σ, Q => Q fr σ
  | r :: rest, fl, fr, σ, Q => bif r.t then
        (noLrefL r.o.dst fr = true ∧ (r.o.op.operands.toList.all fun x => !isU (opv fr x)) = true ∧ ve C fr σ r.o fun fr' σ' => vagain C r.an fr σ fr' σ' fl ∧ vdr C rest (prune r.an fl) fr' σ' Q)
      else vqg C fr σ r.g r.o.op fun v => isC v = false ∧ vdr C rest ((r, v) :: fl) (putd fr r.o v) σ Q

/-- What an operation looks at, of what the region makes, is among what it waits for. -/
def seesB (ops : List Oper) (qd : List Nat) (o : Oper) : Bool :=
  o.op.operands.toList.all fun x => match x with
    | .tmp t => !memB qd t || (depsOf o).any fun j => match gslot ops j with | some d => Nat.beq d t | none => false
    | _ => true

/-- Changes wait for all that changes ahead of them wait for. -/
def chainB (an : List Nat) (tl : List Nat) : List Nat → Nat → Bool
  | [], _ => true
  | i :: r, acc => bif memB tl i then (Nat.beq (acc ||| an.getD i 0) (an.getD i 0) && chainB an tl r (an.getD i 0)) else chainB an tl r acc

def drawOK (ops : List Oper) (tl plan : List Nat) : Bool :=
  planOK ops tl plan && ops.all (seesB ops (qdsts ops tl)) && chainB (ancs ops) tl plan 0

end Go.VL

/- Regions that draw their order, told as one walk: soundness. Conditions: none (plain theorems). -/
namespace Go.VL

theorem eq_of_agr {fr M : Fr} {x : Operand} (h : Agr fr M x) : opv fr x = opv M x := h.1.symm
theorem all_agr {fr M : Fr} {l : List Operand} (h : ∀ x ∈ l, Agr fr M x) : l.map (opv fr) = l.map (opv M) := List.map_congr_left fun x hx => eq_of_agr (h x hx)

/-- An operation that changes something, at a frame that agrees where it looks. -/
theorem ve_trans {C : Cfg} {σ : St} {fr M : Fr} {o : Oper} (hop : ∀ x ∈ o.op.operands.toList, Agr fr M x) (hnl : ∀ d, o.dst = some d → noLref d fr = true → noLref d M = true) {K : Fr → St → Prop} (h : ve C fr σ o K) :
    ve C M σ o fun fr' σ' => ∃ pfx, fr' = pfx ++ M ∧ K (pfx ++ fr) σ' ∧ ∀ p ∈ pfx, o.dst = some p.1 ∨ ∃ cs, lk M p.1 = .cell cs := by
  have hU' : ∀ x ∈ o.op.operands.toList, Agr fr M x := hop
  have leaf : ∀ v σ', K (putd fr o v) σ' → ∃ pfx, putd M o v = pfx ++ M ∧ K (pfx ++ fr) σ' ∧ ∀ p ∈ pfx, o.dst = some p.1 ∨ ∃ cs, lk M p.1 = .cell cs := fun v σ' hk =>
    ⟨putd [] o v, putd_app _ _ _, by rw [← putd_app]; exact hk, fun p hp => .inl (putd_mem hp)⟩
  cases ho : o.op <;> unfold ve at h ⊢ <;> rw [ho] at h hU' ⊢ <;> (try simp only at h ⊢) <;> try exact h.elim
  case alloc t =>
    refine ⟨h.1, ?_⟩
    replace h := h.2
    cases hd : o.dst with
    | none => rw [hd] at h; exact h.elim
    | some d =>
      rw [hd] at h
      simp only at h ⊢
      cases hm : memB C.esc d <;> rw [hm] at h <;> simp only [cond_true, cond_false] at h ⊢
      · exact ⟨hnl d hd h.1, [_], rfl, h.2, fun p hp => .inl (by simp at hp; rw [hp])⟩
      · exact ⟨[_], rfl, h, fun p hp => .inl (by simp at hp; rw [hp])⟩
  case box t x =>
    have e := eq_of_agr (hU' x (by simp [Op.operands]))
    rw [e] at h
    refine ⟨h.1, ?_⟩
    replace h := h.2
    cases hd : o.dst with
    | none => rw [hd] at h; exact h.elim
    | some d =>
      rw [hd] at h
      simp only at h ⊢
      cases hm : memB C.esc d <;> rw [hm] at h <;> simp only [cond_true, cond_false] at h ⊢
      · cases hw : memB C.wrt d <;> rw [hw] at h <;> simp only [cond_true, cond_false] at h ⊢
        · exact ⟨h.1, [_], rfl, h.2, fun p hp => .inl (by simp at hp; rw [hp])⟩
        · exact ⟨hnl d hd h.1, [_], rfl, h.2, fun p hp => .inl (by simp at hp; rw [hp])⟩
      · exact ⟨[_], rfl, h, fun p hp => .inl (by simp at hp; rw [hp])⟩
  case store t p x =>
    have e := eq_of_agr (hU' x (by simp [Op.operands]))
    have ep := eq_of_agr (hU' p (by simp [Op.operands]))
    rw [e] at h
    refine ⟨h.1, h.2.1, h.2.2.1, ?_⟩
    replace h := h.2.2.2
    unfold vstore at h ⊢
    rw [ep] at h
    cases hX : opv M p <;> rw [hX] at h <;> (try simp only at h ⊢) <;> try exact h.elim
    case cell cs =>
      cases p <;> (try simp only at h ⊢) <;> try exact h.elim
      rename_i s
      refine ⟨h.1, putd [] o (.tup []) ++ [(s, .cell (setCells cs 0 (opv M x).cells))], by rw [putd_app]; simp, by have := h.2; rw [putd_app] at this; simpa using this, fun q hq => ?_⟩
      rcases List.mem_append.1 hq with hq | hq
      · exact .inl (putd_mem hq)
      · simp at hq
        rw [hq]
        exact .inr ⟨cs, hX⟩
    case lref s off =>
      have hs : ∀ cs, lk fr s = .cell cs → lk M s = .cell cs := fun cs e => by
        exact (hU' p (by simp [Op.operands])).2 s off cs (ep.trans hX) e
      cases hc : lk fr s <;> rw [hc] at h <;> (try simp only at h) <;> try exact h.elim
      rename_i cs
      rw [hs cs hc]
      refine ⟨h.1, putd [] o (.tup []) ++ [(s, .cell (setCells cs off (opv M x).cells))], by rw [putd_app]; simp, by have := h.2; rw [putd_app] at this; simpa using this, fun q hq => ?_⟩
      rcases List.mem_append.1 hq with hq | hq
      · exact .inl (putd_mem hq)
      · simp at hq
        rw [hq]
        exact .inr ⟨cs, hs cs hc⟩
    case ptr id off =>
      generalize σ[id]? = ob at h ⊢
      cases ob with
      | none => exact h.elim
      | some ob =>
        cases ob <;> (try simp only at h ⊢) <;> try exact h.elim
        exact ⟨h.1, leaf _ _ h.2⟩
    case eptr id g i off =>
      generalize σ[id]? = ob at h ⊢
      cases ob with
      | none => exact h.elim
      | some ob =>
        cases ob <;> (try simp only at h ⊢) <;> try exact h.elim
        exact ⟨h.1, h.2.1, h.2.2.1, leaf _ _ h.2.2.2⟩
  case assign x =>
    rw [eq_of_agr (hU' x (by simp [Op.operands]))] at h
    exact ⟨h.1, leaf _ _ h.2⟩
  case buildSlice t n parts =>
    rw [vbuildSlice_congr (List.map_congr_left fun p hp => eq_of_agr (hU' p.2 (by simp [Op.operands]; exact ⟨p.1, by simpa using hp⟩)))] at h
    exact vbuildSlice_mono (fun v => vrow_mono fun v σ' hk => leaf v σ' hk) h
  case convert s d x =>
    rw [eq_of_agr (hU' x (by simp [Op.operands]))] at h
    exact vshare_mono (fun v σ' hk => leaf v σ' hk) h
  case makeMap t r => exact ⟨h.1, leaf _ _ h.2⟩
  case range t x =>
    rw [eq_of_agr (hU' x (by simp [Op.operands]))] at h
    exact vrange_mono (fun v σ' hk => leaf v σ' hk) h
  case next x s =>
    rw [eq_of_agr (hU' x (by simp [Op.operands]))] at h
    exact vnext_mono (fun v σ' hk => leaf v σ' hk) h
  case makeSlice t l c =>
    rw [eq_of_agr (hU' l (by simp [Op.operands])), eq_of_agr (hU' c (by simp [Op.operands]))] at h
    exact vmake_mono (fun v σ' hk => leaf v σ' hk) h
  case insert t x k v =>
    rw [eq_of_agr (hU' x (by simp [Op.operands])), eq_of_agr (hU' k (by simp [Op.operands])), eq_of_agr (hU' v (by simp [Op.operands]))] at h
    refine ⟨h.1, ?_⟩
    replace h := h.2
    cases hd : (C.T t).d <;> rw [hd] at h <;> (try simp only at h ⊢) <;> try exact h.elim
    cases hx : opv M x <;> rw [hx] at h <;> (try simp only at h ⊢) <;> try exact h.elim
    rename_i id
    refine ⟨h.1, h.2.1, h.2.2.1, ?_⟩
    replace h := h.2.2.2
    generalize σ[id]? = ob at h ⊢
    cases ob with
    | none => exact h.elim
    | some ob =>
      cases ob <;> (try simp only at h ⊢) <;> try exact h.elim
      exact ⟨h.1, leaf _ _ h.2⟩
  case mapUpdate t x k v =>
    rw [eq_of_agr (hU' x (by simp [Op.operands])), eq_of_agr (hU' k (by simp [Op.operands])), eq_of_agr (hU' v (by simp [Op.operands]))] at h
    refine ⟨h.1, ?_⟩
    replace h := h.2
    cases hd : (C.T t).d <;> rw [hd] at h <;> (try simp only at h ⊢) <;> try exact h.elim
    cases hx : opv M x <;> rw [hx] at h <;> (try simp only at h ⊢) <;> try exact h.elim
    rename_i id
    refine ⟨h.1, h.2.1, h.2.2.1, ?_⟩
    replace h := h.2.2.2
    generalize σ[id]? = ob at h ⊢
    cases ob with
    | none => exact h.elim
    | some ob =>
      cases ob <;> (try simp only at h ⊢) <;> try exact h.elim
      exact ⟨h.1, leaf _ _ h.2⟩
  case call c =>
    obtain ⟨callee, args, ats⟩ := c
    cases callee with
    | invoke r n => exact h.elim
    | builtin b =>
      cases b <;> (try simp only at h ⊢) <;> try exact h.elim
      · have hargs : ∀ x ∈ args.toList, Agr fr M x := fun x hx => hU' x (by simp [Op.operands, Call.operands]; simpa using hx)
        split at h
        · rename_i s x st xt ha ht
          rw [ha] at hargs
          rw [eq_of_agr (hargs s (by simp)), eq_of_agr (hargs x (by simp))] at h
          exact vappend_up (fun v σ' hk => leaf v σ' hk) h
        · exact h.elim
      · have hargs : ∀ x ∈ args.toList, Agr fr M x := fun x hx => hU' x (by simp [Op.operands, Call.operands]; simpa using hx)
        split at h
        · rename_i x t ha ht
          rw [ha] at hargs
          rw [eq_of_agr (hargs x (by simp))] at h
          refine ⟨h.1, ?_⟩
          replace h := h.2
          split at h
          · refine ⟨h.1, ?_⟩
            replace h := h.2
            split at h
            · exact ⟨h.1, h.2.1, h.2.2.1, h.2.2.2.1, leaf _ _ h.2.2.2.2⟩
            · exact h.elim
          · exact h.elim
        · exact h.elim
    | value f =>
      have hargs : ∀ x ∈ args.toList, Agr fr M x := fun x hx => hU' x (by simp [Op.operands, Call.operands]; exact .inr (by simpa using hx))
      have hf := hU' f (by simp [Op.operands, Call.operands])
      (try simp only at h ⊢)
      rw [eq_of_agr hf, all_agr hargs] at h
      split at h
      · exact ⟨h.1, h.2.mono fun r σ' hk => ⟨hk.1, leaf _ _ hk.2⟩⟩
      · exact ⟨h.1, h.2.mono fun r σ' hk => ⟨hk.1, leaf _ _ hk.2⟩⟩
      · exact h.elim


/-- One walk's frame, and the frame that orders are told with. -/
structure Cor (ops : List Oper) (tl pre : List Nat) (done : List (Nat × V)) (S fr : Fr) : Prop where
  nd : (done.map (·.1)).Nodup
  q : ∀ j v, lkd done j = some v → j ∈ pre ∧ memB tl j = false ∧ isC v = false ∧ ∃ d, gslot ops j = some d
  q' : ∀ j, j ∈ pre → memB tl j = false → ∃ v, lkd done j = some v
  eq : ∀ t, lk fr t = lk (doneFr ops done ++ S) t
  bl : ∀ t, t ∈ qdsts ops tl → lk S t = .undef
  sub : ∀ p, p ∈ S → p.2 = .undef ∨ p ∈ fr
  dsub : ∀ j v d, lkd done j = some v → gslot ops j = some d → (d, v) ∈ fr

section
variable {C : Cfg} {ops : List Oper} {tl pre : List Nat} {done : List (Nat × V)} {S fr : Fr} {σ : St}

theorem qd_mem {j d : Nat} (h : gslot ops j = some d) (hj : memB tl j = false) : d ∈ qdsts ops tl := by
  obtain ⟨o, h1, h2⟩ := gslot_some h
  exact qdstsGo_mem (k := 0) h1 h2 (by simpa using hj)

theorem qd_inj (qn : (qdsts ops tl).Nodup) {j j' d : Nat} (h : gslot ops j = some d) (hj : memB tl j = false) (h' : gslot ops j' = some d) (hj' : memB tl j' = false) : j = j' := by
  obtain ⟨o, h1, h2⟩ := gslot_some h
  obtain ⟨o', h3, h4⟩ := gslot_some h'
  exact qdstsGo_inj (k := 0) qn h1 h2 (by simpa using hj) h3 h4 (by simpa using hj')

theorem Cor.out (D : Cor ops tl pre done S fr) {t : Nat} (ht : t ∉ qdsts ops tl) : lk fr t = lk S t := by
  rw [D.eq]
  rcases lk_app (doneFr ops done) S t with h | ⟨v, h1, _⟩
  · exact h
  · obtain ⟨j, h2, h3⟩ := doneFr_mem h1
    exact absurd (qd_mem h2 (D.q j v (mem_lkd D.nd h3)).2.1) ht

theorem Cor.one (qn : (qdsts ops tl).Nodup) (D : Cor ops tl pre done S fr) {j d : Nat} {v : V} (h : lkd done j = some v) (hg : gslot ops j = some d) : lk fr d = v := by
  rw [D.eq]
  refine lk_of_mem (mem_doneFr hg (lkd_mem h)) fun v' hv' => ?_
  obtain ⟨j', h1, h2⟩ := doneFr_mem hv'
  have h3 := mem_lkd D.nd h2
  have := qd_inj qn hg (D.q j v h).2.1 h1 (D.q j' v' h3).2.1
  subst this
  rw [h] at h3
  cases h3
  rfl

theorem Cor.none (D : Cor ops tl pre done S fr) {t : Nat} (ht : t ∈ qdsts ops tl) (h : ∀ j v, lkd done j = some v → gslot ops j = some t → False) : lk fr t = .undef := by
  rw [D.eq]
  rcases lk_app (doneFr ops done) S t with h1 | ⟨v, h1, _⟩
  · rw [h1]; exact D.bl t ht
  · obtain ⟨j, h2, h3⟩ := doneFr_mem h1
    exact (h j v (mem_lkd D.nd h3) h2).elim

/-- A place of the region's own is no variable. -/
theorem Cor.noCell (qn : (qdsts ops tl).Nodup) (D : Cor ops tl pre done S fr) {t : Nat} {cs : List V} (h : lk fr t = .cell cs) : t ∉ qdsts ops tl := by
  intro ht
  by_cases hex : ∃ j v, lkd done j = some v ∧ gslot ops j = some t
  · obtain ⟨j, v, h1, h2⟩ := hex
    rw [D.one qn h1 h2] at h
    have := (D.q j v h1).2.2.1
    rw [h] at this
    cases this
  · rw [D.none ht fun j v h1 h2 => hex ⟨j, v, h1, h2⟩] at h
    cases h

/-- What an operation looks at is the same in both. -/
theorem Cor.agr (qn : (qdsts ops tl).Nodup) (td : ∀ j d, memB tl j = true → gslot ops j = some d → d ∉ qdsts ops tl) (D : Cor ops tl pre done S fr) {o : Oper} (hd : ∀ j ∈ depsOf o, j ∈ pre) (hs : seesB ops (qdsts ops tl) o = true) :
    ∀ x ∈ o.op.operands.toList, Agr fr (visOf ops done (depsOf o) ++ S) x := by
  have visOut : ∀ t, t ∉ qdsts ops tl → lk (visOf ops done (depsOf o) ++ S) t = lk S t := fun t ht => by
    rcases lk_app (visOf ops done (depsOf o)) S t with h | ⟨v, h1, _⟩
    · exact h
    · obtain ⟨j, _, h2, h3⟩ := vis_mem h1
      exact absurd (qd_mem h2 (D.q j v h3).2.1) ht
  have mem_vis : ∀ {js : List Nat} {j d : Nat} {v : V}, j ∈ js → gslot ops j = some d → lkd done j = some v → (d, v) ∈ visOf ops done js := by
    intro js
    induction js with
    | nil => intro j d v h; cases h
    | cons k js ih =>
      intro j d v h hg hl
      simp only [visOf]
      rcases List.mem_cons.1 h with rfl | h
      · rw [hg, hl]; simp
      · have := ih h hg hl
        split
        · simp [this]
        · exact this
  intro x hx
  refine ⟨?_, fun s off cs _ hc => ?_⟩
  · cases x with
    | tmp t =>
      simp only [opv]
      by_cases ht : t ∈ qdsts ops tl
      · have := List.all_eq_true.1 hs _ hx
        simp only [(memB_iff _ _).2 ht, Bool.not_true, Bool.false_or, List.any_eq_true] at this
        obtain ⟨j, hj, hg⟩ := this
        cases hgs : gslot ops j with
        | none => rw [hgs] at hg; cases hg
        | some d =>
          rw [hgs] at hg
          have := Nat.eq_of_beq_eq_true hg
          subst this
          have hq : memB tl j = false := by
            cases hb : memB tl j with
            | false => rfl
            | true => exact absurd ht (td j d hb hgs)
          obtain ⟨v, hv⟩ := D.q' j (hd j hj) hq
          rw [D.one qn hv hgs]
          refine lk_of_mem (mem_vis hj hgs hv) fun v' hv' => ?_
          obtain ⟨j', _, h1, h2⟩ := vis_mem hv'
          have := qd_inj qn hgs hq h1 (D.q j' v' h2).2.1
          subst this
          rw [hv] at h2
          cases h2
          rfl
      · rw [visOut t ht, D.out ht]
    | _ => rfl
  · have hs := D.noCell qn hc
    rw [visOut s hs, ← D.out hs]
    exact hc

theorem vqp_vq1 {M : Fr} {o : Oper} {K : V → Prop} (ha : ∀ x ∈ o.op.operands.toList, Agr fr M x) (h : vqp C fr σ o.op K) : ∃ v, K v ∧ vq1 C M σ o v := by
  by_cases hc : ∃ f args ats, o.op = .call { callee := .value f, args := args, argTypes := ats }
  · obtain ⟨f, args, ats, ho⟩ := hc
    rw [ho] at h ha
    unfold vqp at h
    unfold vq1
    rw [ho]
    simp only at h ⊢
    have hf := ha f (by simp [Op.operands, Call.operands])
    have hargs : ∀ x ∈ args.toList, Agr fr M x := fun x hx => ha x (by simp [Op.operands, Call.operands]; exact .inr (by simpa using hx))
    rw [hf.1, ← all_agr hargs]
    cases hX : opv fr f <;> rw [hX] at h <;> (try simp only [pfn] at h) <;> try exact h.elim
    rename_i g first cap
    cases g <;> (try simp only [pfn] at h) <;> try exact h.elim
    obtain ⟨h1, v, h2, h3⟩ := h
    exact ⟨v, h3, h1, h2⟩
  · have e1 : vqp C fr σ o.op K = vqx C fr σ o.op K := by
      unfold vqp
      split
      · rename_i f args ats heq
        exact absurd ⟨f, args, ats, heq⟩ hc
      · rfl
    rw [e1] at h
    obtain ⟨v, h1, h2⟩ := d_vqx ha K h
    refine ⟨v, h1, ?_⟩
    unfold vq1
    split
    · rename_i f args ats heq
      exact absurd ⟨f, args, ats, heq⟩ hc
    · exact h2 _ rfl

/-- An operation, guarded, in both. -/
theorem vqg_qok (qn : (qdsts ops tl).Nodup) (td : ∀ j d, memB tl j = true → gslot ops j = some d → d ∉ qdsts ops tl) (D : Cor ops tl pre done S fr) {i : Nat} {o : Oper} {an : List Nat} (ho : ops[i]? = some o) (hd : ∀ j ∈ depsOf o, j ∈ pre) (hs : seesB ops (qdsts ops tl) o = true)
    (hg : ∀ j want, o.guard = some (j, want) → j ∈ depsOf o ∧ memB tl j = false) {K : V → Prop} (h : vqg C fr σ (mkRO ops tl an i).g o.op K) : ∃ v, K v ∧ qok C ops done S σ o v := by
  have ha := D.agr qn td hd hs
  unfold qok
  have ero : (mkRO ops tl an i).g = rg ops o := by
    simp [mkRO, List.getD_eq_getElem?_getD, ho]
  rw [ero] at h
  cases hgd : o.guard with
  | none =>
    simp only [rg, hgd] at h
    exact vqp_vq1 ha h
  | some p =>
    obtain ⟨j, want⟩ := p
    simp only [rg, hgd] at h
    simp only
    obtain ⟨hj, hjq⟩ := hg j want hgd
    obtain ⟨v, hv⟩ := D.q' j (hd j hj) hjq
    obtain ⟨hq1, hq2, hq3, d, hgs⟩ := D.q j v hv
    rw [hgs] at h
    simp only [Option.map_some, vqg] at h
    rw [D.one qn hv hgs] at h
    rw [hv]
    unfold vgd at h
    cases v <;> (try simp only at h ⊢) <;> try exact h.elim
    case bool b =>
      cases hb : b == want with
      | true =>
        rw [hb] at h
        exact vqp_vq1 ha h
      | false =>
        rw [hb] at h
        exact ⟨.tup [], h, rfl⟩
    case tup l =>
      cases l <;> (try simp only at h ⊢) <;> try exact h.elim
      exact ⟨.tup [], h, rfl⟩

end
end Go.VL

/- Regions that draw their order, told as one walk: soundness, second part. Conditions: none (plain theorems). -/
namespace Go.VL

section
variable {C : Cfg} {ops : List Oper} {tl pre : List Nat} {done : List (Nat × V)} {S fr : Fr} {σ : St}

theorem ve_mono {o : Oper} {K K' : Fr → St → Prop} (hk : ∀ fr' σ', K fr' σ' → K' fr' σ') (h : ve C fr σ o K) : ve C fr σ o K' := by
  cases ho : o.op <;> unfold ve at h ⊢ <;> rw [ho] at h ⊢ <;> (try simp only at h ⊢) <;> try exact h.elim
  case alloc t =>
    refine ⟨h.1, ?_⟩
    replace h := h.2
    cases hd : o.dst with
    | none => rw [hd] at h; exact h.elim
    | some d =>
      rw [hd] at h
      simp only at h ⊢
      cases hm : memB C.esc d <;> rw [hm] at h <;> simp only [cond_true, cond_false] at h ⊢
      · exact ⟨h.1, hk _ _ h.2⟩
      · exact hk _ _ h
  case box t x =>
    refine ⟨h.1, ?_⟩
    replace h := h.2
    cases hd : o.dst with
    | none => rw [hd] at h; exact h.elim
    | some d =>
      rw [hd] at h
      simp only at h ⊢
      cases hm : memB C.esc d <;> rw [hm] at h <;> simp only [cond_true, cond_false] at h ⊢
      · cases hw : memB C.wrt d <;> rw [hw] at h <;> simp only [cond_true, cond_false] at h ⊢
        · exact ⟨h.1, hk _ _ h.2⟩
        · exact ⟨h.1, hk _ _ h.2⟩
      · exact hk _ _ h
  case store t p x =>
    refine ⟨h.1, h.2.1, h.2.2.1, ?_⟩
    replace h := h.2.2.2
    unfold vstore at h ⊢
    cases hX : opv fr p <;> rw [hX] at h <;> (try simp only at h ⊢) <;> try exact h.elim
    case cell cs =>
      cases p <;> (try simp only at h ⊢) <;> try exact h.elim
      exact ⟨h.1, hk _ _ h.2⟩
    case lref s off =>
      cases hc : lk fr s <;> rw [hc] at h <;> (try simp only at h ⊢) <;> try exact h.elim
      exact ⟨h.1, hk _ _ h.2⟩
    case ptr id off =>
      generalize σ[id]? = ob at h ⊢
      cases ob with
      | none => exact h.elim
      | some ob =>
        cases ob <;> (try simp only at h ⊢) <;> try exact h.elim
        exact ⟨h.1, hk _ _ h.2⟩
    case eptr id g i off =>
      generalize σ[id]? = ob at h ⊢
      cases ob with
      | none => exact h.elim
      | some ob =>
        cases ob <;> (try simp only at h ⊢) <;> try exact h.elim
        exact ⟨h.1, h.2.1, h.2.2.1, hk _ _ h.2.2.2⟩
  case assign x => exact ⟨h.1, hk _ _ h.2⟩
  case buildSlice t n parts => exact vbuildSlice_mono (fun v => vrow_mono fun v σ' h => hk _ _ h) h
  case convert s d x => exact vshare_mono (fun v σ' h => hk _ _ h) h
  case makeMap t r => exact ⟨h.1, hk _ _ h.2⟩
  case range t x => exact vrange_mono (fun v σ' h => hk _ _ h) h
  case next x s => exact vnext_mono (fun v σ' h => hk _ _ h) h
  case makeSlice t l c => exact vmake_mono (fun v σ' h => hk _ _ h) h
  case insert t x k v =>
    refine ⟨h.1, ?_⟩
    replace h := h.2
    cases hd : (C.T t).d <;> rw [hd] at h <;> (try simp only at h ⊢) <;> try exact h.elim
    cases hx : opv fr x <;> rw [hx] at h <;> (try simp only at h ⊢) <;> try exact h.elim
    rename_i id
    refine ⟨h.1, h.2.1, h.2.2.1, ?_⟩
    replace h := h.2.2.2
    generalize σ[id]? = ob at h ⊢
    cases ob with
    | none => exact h.elim
    | some ob =>
      cases ob <;> (try simp only at h ⊢) <;> try exact h.elim
      exact ⟨h.1, hk _ _ h.2⟩
  case mapUpdate t x k v =>
    refine ⟨h.1, ?_⟩
    replace h := h.2
    cases hd : (C.T t).d <;> rw [hd] at h <;> (try simp only at h ⊢) <;> try exact h.elim
    cases hx : opv fr x <;> rw [hx] at h <;> (try simp only at h ⊢) <;> try exact h.elim
    rename_i id
    refine ⟨h.1, h.2.1, h.2.2.1, ?_⟩
    replace h := h.2.2.2
    generalize σ[id]? = ob at h ⊢
    cases ob with
    | none => exact h.elim
    | some ob =>
      cases ob <;> (try simp only at h ⊢) <;> try exact h.elim
      exact ⟨h.1, hk _ _ h.2⟩
  case call c =>
    obtain ⟨callee, args, ats⟩ := c
    cases callee with
    | invoke r n => exact h.elim
    | builtin b =>
      cases b <;> (try simp only at h ⊢) <;> try exact h.elim
      · split at h
        · exact vappend_up (fun v σ' h => hk _ _ h) h
        · exact h.elim
      · split at h
        · refine ⟨h.1, ?_⟩
          replace h := h.2
          split at h
          · refine ⟨h.1, ?_⟩
            replace h := h.2
            split at h
            · exact ⟨h.1, h.2.1, h.2.2.1, h.2.2.2.1, hk _ _ h.2.2.2.2⟩
            · exact h.elim
          · exact h.elim
        · exact h.elim
    | value f =>
      (try simp only at h ⊢)
      split at h
      · exact ⟨h.1, h.2.mono fun r σ' h => ⟨h.1, hk _ _ h.2⟩⟩
      · exact ⟨h.1, h.2.mono fun r σ' h => ⟨h.1, hk _ _ h.2⟩⟩
      · exact h.elim

theorem agrL_mem {fr fr' : Fr} : ∀ {l : List Operand}, agrL fr fr' l → ∀ x ∈ l, agr1 fr fr' x
  | y :: l, h, x, hx => by
    rcases List.mem_cons.1 hx with rfl | hx
    · exact h.1
    · exact agrL_mem h.2 x hx

theorem vagain_mem {an : Nat} {fr' : Fr} {σ' : St} : ∀ (l : List (RO × V)), vagain C an fr σ fr' σ' l → ∀ p, p ∈ l → bitB an p.1.i = true ∨ (σ' = σ ∧ agrL fr fr' p.1.o.op.operands.toList) ∨ vqg C fr' σ' p.1.g p.1.o.op fun v => v = p.2
  | [], _, _, hp => by cases hp
  | q :: l, h, p, hp => by
    have h2 : vagain C an fr σ fr' σ' l := by
      unfold vagain at h
      exact h.2
    have h1 : bitB an q.1.i = true ∨ (σ' = σ ∧ agrL fr fr' q.1.o.op.operands.toList) ∨ vqg C fr' σ' q.1.g q.1.o.op fun v => v = q.2 := by
      unfold vagain at h
      cases hb : bitB an q.1.i with
      | true => exact .inl rfl
      | false =>
        rw [hb] at h
        exact .inr h.1
    rcases List.mem_cons.1 hp with e | hp
    · rw [e]; exact h1
    · exact vagain_mem l h2 p hp

theorem prune_mem {an : Nat} : ∀ {l : List (RO × V)} {p : RO × V}, p ∈ prune an l ↔ p ∈ l ∧ bitB an p.1.i = false
  | [], p => by simp [prune]
  | q :: l, p => by
    simp only [prune]
    cases hb : bitB an q.1.i with
    | true =>
      simp only [cond_true, prune_mem (l := l), List.mem_cons]
      constructor
      · exact fun h => ⟨.inr h.1, h.2⟩
      · rintro ⟨rfl | h, h2⟩
        · rw [hb] at h2; cases h2
        · exact ⟨h, h2⟩
    | false =>
      simp only [cond_false, List.mem_cons, prune_mem (l := l)]
      constructor
      · rintro (rfl | h)
        · exact ⟨.inl rfl, hb⟩
        · exact ⟨.inr h.1, h.2⟩
      · rintro ⟨rfl | h, h2⟩
        · exact .inl rfl
        · exact .inr ⟨h, h2⟩

theorem again_of {an : Nat} {σ' : St} : ∀ {l : List (Nat × V)}, (∀ p ∈ l, bitB an p.1 = true ∨ ∃ o, ops[p.1]? = some o ∧ qok C ops done S σ' o p.2) → again C ops an done S σ' l
  | [], _ => trivial
  | q :: l, h => by
    refine ⟨?_, again_of fun p hp => h p (by simp [hp])⟩
    rcases h q (by simp) with hb | ⟨o, ho, hq⟩
    · rw [hb]; trivial
    · cases hb : bitB an q.1 with
      | true => trivial
      | false => rw [ho]; exact hq

theorem vq1_trans {M M' : Fr} {o : Oper} {v : V} (ha : ∀ x ∈ o.op.operands.toList, Agr M M' x) (h : vq1 C M σ o v) : vq1 C M' σ o v := by
  by_cases hc : ∃ f args ats, o.op = .call { callee := .value f, args := args, argTypes := ats }
  · obtain ⟨f, args, ats, ho⟩ := hc
    rw [ho] at ha
    unfold vq1 at h ⊢
    rw [ho] at h ⊢
    simp only at h ⊢
    have hf := ha f (by simp [Op.operands, Call.operands])
    have hargs : ∀ x ∈ args.toList, Agr M M' x := fun x hx => ha x (by simp [Op.operands, Call.operands]; exact .inr (by simpa using hx))
    rw [hf.1, ← all_agr hargs]
    exact h
  · have e1 : ∀ M, vq1 C M σ o v = vqx C M σ o.op fun x => x = v := by
      intro M
      unfold vq1
      split
      · rename_i f args ats heq
        exact absurd ⟨f, args, ats, heq⟩ hc
      · rfl
    rw [e1] at h ⊢
    obtain ⟨r, h1, h2⟩ := d_vqx ha _ h
    exact h2 _ h1

theorem chainB_bit {an : List Nat} {i acc j : Nat} (h : Nat.beq (acc ||| an.getD i 0) (an.getD i 0) = true) (hb : bitB acc j = true) : bitB (an.getD i 0) j = true := by
  have e := Nat.eq_of_beq_eq_true h
  unfold bitB at hb ⊢
  rw [← e, Nat.testBit_or, hb]
  rfl

/-- What may float, told at the state that stands. -/
def FlOK (C : Cfg) (ops : List Oper) (tl : List Nat) (done : List (Nat × V)) (S : Fr) (σ : St) (fl : List (RO × V)) : Prop :=
  ∀ p ∈ fl, p.1 = mkRO ops tl (ancs ops) p.1.i ∧ lkd done p.1.i = some p.2 ∧ ∃ o, ops[p.1.i]? = some o ∧ qok C ops done S σ o p.2

theorem mkRO_o {tl : List Nat} {i : Nat} {o : Oper} {an : List Nat} (ho : ops[i]? = some o) : (mkRO ops tl an i).o = o := by simp [mkRO, List.getD_eq_getElem?_getD, ho]

theorem vdr_vrun {plan : List Nat} {Q Q' : Fr → St → Prop} (qn : (qdsts ops tl).Nodup) (td : ∀ j d, memB tl j = true → gslot ops j = some d → d ∉ qdsts ops tl) (pl : planB ops (ancs ops) tl plan [] none = true) (pn : plan.Nodup)
    (sees : ∀ o ∈ ops, seesB ops (qdsts ops tl) o = true) (hQ : ∀ fr fr' σ, (∀ t, lk fr' t = lk fr t) → Q fr σ → Q' fr' σ) :
    ∀ (rest pre : List Nat) (done : List (Nat × V)) (fl : List (RO × V)) (S fr : Fr) (σ : St) (acc : Nat), plan = pre ++ rest → Cor ops tl pre done S fr → FlOK C ops tl done S σ fl → chainB (ancs ops) tl rest acc = true →
      (∀ j v, lkd done j = some v → bitB acc j = true ∨ ∃ p ∈ fl, p.1.i = j) → vdr C (rest.map (mkRO ops tl (ancs ops))) fl fr σ Q → vrun C ops tl rest done S σ Q'
  | [], pre, done, fl, S, fr, σ, acc, _, D, _, _, _, h => hQ _ _ _ (fun t => (D.eq t).symm) h
  | i :: r, pre, done, fl, S, fr, σ, acc, hp, D, hfl, hch, hcov, h => by
    obtain ⟨o, hpl⟩ := placed pl hp
    have hnd := pn
    rw [hp] at hnd
    have hip : i ∉ pre := fun h => (List.nodup_append.1 hnd).2.2 i h i (by simp) rfl
    have hs := sees o (List.mem_of_getElem? hpl.at_)
    have hro := mkRO_o (tl := tl) (an := ancs ops) hpl.at_
    have depsPre : ∀ j, j ∈ pre → ∀ oj, ops[j]? = some oj → ∀ k ∈ depsOf oj, k ∈ pre := by
      intro j hj oj hoj k hk
      obtain ⟨p, q, rfl⟩ := List.append_of_mem hj
      obtain ⟨o2, hpl2⟩ := placed (pre := p) (i := j) (rest := q ++ i :: r) pl (by rw [hp]; simp)
      rw [hpl2.at_] at hoj
      cases hoj
      simp [hpl2.deps k hk]
    have guardDeps : ∀ j, j ∈ pre → memB tl j = false → ∀ oj, ops[j]? = some oj → ∀ k want, oj.guard = some (k, want) → k ∈ depsOf oj ∧ memB tl k = false := by
      intro j hj hjq oj hoj k want hg
      obtain ⟨p, q, rfl⟩ := List.append_of_mem hj
      obtain ⟨o2, hpl2⟩ := placed (pre := p) (i := j) (rest := q ++ i :: r) pl (by rw [hp]; simp)
      rw [hpl2.at_] at hoj
      cases hoj
      exact (hpl2.isQ hjq).2.2 k want hg
    simp only [List.map_cons, vdr] at h
    have hrt : (mkRO ops tl (ancs ops) i).t = memB tl i := rfl
    have hri : (mkRO ops tl (ancs ops) i).i = i := rfl
    have hra : (mkRO ops tl (ancs ops) i).an = (ancs ops).getD i 0 := rfl
    rw [hrt, hro, hra] at h
    simp only [vrun, hpl.at_]
    cases hm : memB tl i with
    | false =>
      rw [hm] at h
      simp only [cond_false] at h ⊢
      obtain ⟨⟨d, hd⟩, _, hgd⟩ := hpl.isQ hm
      have hgi : gslot ops i = some d := by simp [gslot, hpl.at_, hd]
      obtain ⟨v, ⟨hc, hv⟩, hok⟩ := vqg_qok qn td D hpl.at_ hpl.deps hs hgd h
      have hcons : ∀ j, lkd ((i, v) :: done) j = if i = j then some v else lkd done j := fun j => by
        simp only [lkd]
        by_cases e : i = j
        · subst e; simp
        · have : Nat.beq i j = false := by
            cases hb : Nat.beq i j with
            | false => rfl
            | true => exact absurd (Nat.eq_of_beq_eq_true hb) e
          rw [this, if_neg e]; rfl
      have hpd : putd fr o v = (d, v) :: fr := by simp [putd, hd]
      rw [hpd] at hv
      refine ⟨v, hok, vdr_vrun qn td pl pn sees hQ r (pre ++ [i]) ((i, v) :: done) ((mkRO ops tl (ancs ops) i, v) :: fl) S ((d, v) :: fr) σ acc (by rw [hp]; simp) ⟨?_, fun j v' h => ?_, fun j hj hjm => ?_, fun t => ?_, D.bl, fun p hp => ?_, fun j v' d' h hg => ?_⟩ (fun p hp => ?_) ?_ (fun j v' h => ?_) hv⟩
      · simp only [List.map_cons, List.nodup_cons]
        refine ⟨fun hm => ?_, D.nd⟩
        obtain ⟨q, hq, e⟩ := List.mem_map.1 hm
        have := mem_lkd D.nd hq
        rw [e] at this
        exact hip (D.q i _ this).1
      · rw [hcons] at h
        by_cases e : i = j
        · subst e
          rw [if_pos rfl] at h
          cases h
          exact ⟨by simp, hm, hc, d, hgi⟩
        · rw [if_neg e] at h
          obtain ⟨h1, h2⟩ := D.q j v' h
          exact ⟨by simp [h1], h2⟩
      · rw [hcons]
        by_cases e : i = j
        · exact ⟨v, by rw [if_pos e]⟩
        · rw [if_neg e]
          refine D.q' j ?_ hjm
          rcases List.mem_append.1 hj with h | h
          · exact h
          · exact absurd (by simpa using h) (Ne.symm e)
      · have : doneFr ops ((i, v) :: done) = (d, v) :: doneFr ops done := by simp [doneFr, hgi]
        rw [this, List.cons_append, lk_cons, lk_cons, D.eq t]
      · rcases D.sub p hp with h | h
        · exact .inl h
        · exact .inr (by simp [h])
      · rw [hcons] at h
        by_cases e : i = j
        · subst e
          rw [if_pos rfl] at h
          rw [hgi] at hg
          cases h; cases hg
          simp
        · rw [if_neg e] at h
          simp [D.dsub j v' d' h hg]
      · rcases List.mem_cons.1 hp with rfl | hp
        · refine ⟨rfl, by rw [hcons, if_pos hri.symm], o, hpl.at_, qok_congr (fun k hk => ?_) (fun k want hg => (hgd k want hg).1) hok⟩
          rw [hcons, if_neg fun e : i = k => hip (by rw [e]; exact hpl.deps k hk)]
        · obtain ⟨h1, h2, o', ho', h3⟩ := hfl p hp
          have hj := D.q p.1.i p.2 h2
          refine ⟨h1, by rw [hcons, if_neg fun e : i = p.1.i => hip (by rw [e]; exact hj.1)]; exact h2, o', ho', qok_congr (fun k hk => ?_) (fun k want hg => (guardDeps _ hj.1 hj.2.1 o' ho' k want hg).1) h3⟩
          rw [hcons, if_neg fun e : i = k => hip (by rw [e]; exact depsPre _ hj.1 o' ho' k hk)]
      · simp only [chainB, hm, cond_false] at hch
        exact hch
      · rw [hcons] at h
        by_cases e : i = j
        · exact .inr ⟨(mkRO ops tl (ancs ops) i, v), by simp, e⟩
        · rw [if_neg e] at h
          rcases hcov j v' h with h | ⟨p, hp, h⟩
          · exact .inl h
          · exact .inr ⟨p, by simp [hp], h⟩
    | true =>
      rw [hm] at h
      simp only [cond_true] at h ⊢
      obtain ⟨hnl, hU, hve⟩ := h
      simp only [chainB, hm, cond_true, Bool.and_eq_true] at hch
      have hagr := D.agr qn td hpl.deps hs
      have hMcell : ∀ t cs, lk (visOf ops done (depsOf o) ++ S) t = .cell cs → t ∉ qdsts ops tl := by
        intro t cs hc ht
        rcases lk_app (visOf ops done (depsOf o)) S t with h | ⟨v, h1, h2⟩
        · rw [h, D.bl t ht] at hc; cases hc
        · obtain ⟨j, _, _, h3⟩ := vis_mem h1
          have := (D.q j v h3).2.2.1
          rw [h2] at hc
          rw [hc] at this
          cases this
      refine ⟨?_, ?_, ve_mono (fun fr2 σ' h => ?_) (ve_trans hagr (fun d hd hn => ?_) hve)⟩
      · unfold noLrefL at hnl ⊢
        cases hdst : o.dst with
        | none => rfl
        | some d =>
          rw [hdst] at hnl
          refine List.all_eq_true.2 fun p hp => ?_
          have h1 := mem_lkd D.nd (j := p.1) (v := p.2) hp
          obtain ⟨_, _, _, dj, hg⟩ := D.q _ _ h1
          exact List.all_eq_true.1 hnl (dj, p.2) (D.dsub _ _ _ h1 hg)
      · refine List.all_eq_true.2 fun x hx => ?_
        rw [(hagr x hx).1]
        exact List.all_eq_true.1 hU x hx
      · obtain ⟨pfx, rfl, ⟨hag, hv⟩, hpfx⟩ := h
        have hnp : ∀ t, t ∈ qdsts ops tl → ∀ q ∈ pfx, q.1 ≠ t := by
          intro t ht q hq e
          rcases hpfx q hq with h | ⟨cs, h⟩
          · exact td i t hm (by simp [gslot, hpl.at_, h, e]) ht
          · exact hMcell _ cs h (by rw [e]; exact ht)
        have D' : Cor ops tl (pre ++ [i]) done (blanks (qdsts ops tl) ++ (pfx ++ (visOf ops done (depsOf o) ++ S))) (pfx ++ fr) := by
          refine ⟨D.nd, fun j v h => ?_, fun j hj hjm => ?_, fun t => ?_, fun t ht => ?_, fun p hp => ?_, fun j v d h hg => by simp [D.dsub j v d h hg]⟩
          · obtain ⟨h1, h2⟩ := D.q j v h
            exact ⟨by simp [h1], h2⟩
          · rcases List.mem_append.1 hj with h | h
            · exact D.q' j h hjm
            · have : j = i := by simpa using h
              rw [this, hm] at hjm; cases hjm
          · by_cases ht : t ∈ qdsts ops tl
            · rw [lk_app_none (hnp t ht)]
              by_cases hex : ∃ j v, lkd done j = some v ∧ gslot ops j = some t
              · obtain ⟨j, v, h1, h2⟩ := hex
                rw [D.one qn h1 h2]
                refine (lk_of_mem (mem_doneFr h2 (lkd_mem h1)) fun v' hv' => ?_).symm
                obtain ⟨j', h3, h4⟩ := doneFr_mem hv'
                have h5 := mem_lkd D.nd h4
                have := qd_inj qn h2 (D.q j v h1).2.1 h3 (D.q j' v' h5).2.1
                subst this
                rw [h1] at h5
                cases h5
                rfl
              · rw [D.none ht fun j v h1 h2 => hex ⟨j, v, h1, h2⟩]
                rcases lk_app (doneFr ops done) (blanks (qdsts ops tl) ++ (pfx ++ (visOf ops done (depsOf o) ++ S))) t with h | ⟨v, h1, _⟩
                · rw [h]
                  rcases lk_blanks (l := qdsts ops tl) (fr := pfx ++ (visOf ops done (depsOf o) ++ S)) (t := t) with ⟨_, h⟩ | ⟨h, _⟩
                  · exact h.symm
                  · exact absurd ht h
                · obtain ⟨j, h2, h3⟩ := doneFr_mem h1
                  exact absurd ⟨j, v, mem_lkd D.nd h3, h2⟩ hex
            · have hvis : lk (visOf ops done (depsOf o) ++ S) t = lk fr t := by
                rw [D.out ht]
                rcases lk_app (visOf ops done (depsOf o)) S t with h | ⟨v, h1, _⟩
                · exact h
                · obtain ⟨j, _, h2, h3⟩ := vis_mem h1
                  exact absurd (qd_mem h2 (D.q j v h3).2.1) ht
              rcases lk_app (doneFr ops done) (blanks (qdsts ops tl) ++ (pfx ++ (visOf ops done (depsOf o) ++ S))) t with h | ⟨v, h1, _⟩
              · rw [h]
                rcases lk_blanks (l := qdsts ops tl) (fr := pfx ++ (visOf ops done (depsOf o) ++ S)) (t := t) with ⟨h, _⟩ | ⟨_, h⟩
                · exact absurd h ht
                · rw [h]
                  exact (lk_app_congr pfx hvis).symm
              · obtain ⟨j, h2, h3⟩ := doneFr_mem h1
                exact absurd (qd_mem h2 (D.q j v (mem_lkd D.nd h3)).2.1) ht
          · rcases lk_blanks (l := qdsts ops tl) (fr := pfx ++ (visOf ops done (depsOf o) ++ S)) (t := t) with ⟨_, h⟩ | ⟨h, _⟩
            · exact h
            · exact absurd ht h
          · rcases List.mem_append.1 hp with h | h
            · obtain ⟨d, _, rfl⟩ := List.mem_map.1 h
              exact .inl rfl
            · rcases List.mem_append.1 h with h | h
              · exact .inr (by simp [h])
              · rcases List.mem_append.1 h with h | h
                · obtain ⟨j, _, h2, h3⟩ := vis_mem h
                  exact .inr (List.mem_append_right _ (D.dsub j _ _ h3 h2))
                · rcases D.sub p h with h | h
                  · exact .inl h
                  · exact .inr (by simp [h])
        have float : ∀ p ∈ fl, bitB ((ancs ops).getD i 0) p.1.i = true ∨ ∃ oj, ops[p.1.i]? = some oj ∧ qok C ops done (blanks (qdsts ops tl) ++ (pfx ++ (visOf ops done (depsOf o) ++ S))) σ' oj p.2 := by
          intro p hp
          obtain ⟨h1, h2, oj, ho', h3⟩ := hfl p hp
          obtain ⟨hq1, hq2, _⟩ := D.q _ _ h2
          have hroj : p.1.o = oj := by rw [h1]; exact mkRO_o ho'
          have hsj := sees oj (List.mem_of_getElem? ho')
          have hdj := depsPre _ hq1 oj ho'
          have hgj := guardDeps _ hq1 hq2 oj ho'
          rcases vagain_mem _ hag p hp with hb | ⟨rfl, hagr'⟩ | hv'
          · exact .inl hb
          · refine .inr ⟨oj, ho', ?_⟩
            have a1 := D.agr qn td hdj hsj
            have a2 := D'.agr qn td (fun j hj => by simp [hdj j hj]) hsj
            rw [hroj] at hagr'
            have a3 : ∀ x ∈ oj.op.operands.toList, Agr (visOf ops done (depsOf oj) ++ S) (visOf ops done (depsOf oj) ++ (blanks (qdsts ops tl) ++ (pfx ++ (visOf ops done (depsOf o) ++ S)))) x := by
              intro x hx
              obtain ⟨e1, e2⟩ := agrL_mem hagr' x hx
              refine ⟨by rw [(a2 x hx).1, e1, (a1 x hx).1], fun s off cs hl hc => ?_⟩
              have hlf : opv fr x = .lref s off := by rw [← (a1 x hx).1]; exact hl
              rw [hlf] at e2
              simp only at e2
              have hsq : s ∉ qdsts ops tl := by
                intro ht
                rcases lk_app (visOf ops done (depsOf oj)) S s with h | ⟨v, h5, h6⟩
                · rw [h, D.bl s ht] at hc; cases hc
                · obtain ⟨j, _, _, h7⟩ := vis_mem h5
                  have := (D.q j v h7).2.2.1
                  rw [h6] at hc
                  rw [hc] at this
                  cases this
              have hcf : lk fr s = .cell cs := by
                rw [D.out hsq]
                rcases lk_app (visOf ops done (depsOf oj)) S s with h | ⟨v, h5, h6⟩
                · rw [← h]; exact hc
                · obtain ⟨j, _, h7, h8⟩ := vis_mem h5
                  exact absurd (qd_mem h7 (D.q j v h8).2.1) hsq
              exact (a2 x hx).2 s off cs (by rw [e1]; exact hlf) (by rw [e2]; exact hcf)
            unfold qok at h3 ⊢
            cases hgd : oj.guard with
            | none => rw [hgd] at h3; exact vq1_trans a3 h3
            | some pr =>
              obtain ⟨k, want⟩ := pr
              rw [hgd] at h3
              simp only at h3 ⊢
              cases hlk : lkd done k with
              | none => rw [hlk] at h3; exact h3.elim
              | some vk =>
                rw [hlk] at h3
                cases vk <;> (try simp only at h3 ⊢) <;> try exact h3.elim
                case bool b =>
                  cases hb : b == want with
                  | true => rw [hb] at h3; exact vq1_trans a3 h3
                  | false => rw [hb] at h3; exact h3
                case tup l => cases l <;> (try simp only at h3 ⊢) <;> first | exact h3 | exact h3.elim
          · refine .inr ⟨oj, ho', ?_⟩
            rw [hroj, h1] at hv'
            obtain ⟨v, rfl, hok⟩ := vqg_qok qn td D' ho' (fun j hj => by simp [hdj j hj]) hsj hgj hv'
            exact hok
        have hagain : ∀ p ∈ done, bitB ((ancs ops).getD i 0) p.1 = true ∨ ∃ oj, ops[p.1]? = some oj ∧ qok C ops done (blanks (qdsts ops tl) ++ (pfx ++ (visOf ops done (depsOf o) ++ S))) σ' oj p.2 := by
          intro p hp
          have h1 := mem_lkd D.nd (j := p.1) (v := p.2) hp
          rcases hcov p.1 p.2 h1 with h | ⟨q, hq, e⟩
          · exact .inl (chainB_bit hch.1 h)
          · have h2 := (hfl q hq).2.1
            rw [e, h1] at h2
            have e2 := Option.some.inj h2
            have := float q hq
            rw [e, ← e2] at this
            exact this
        refine ⟨again_of hagain, vdr_vrun qn td pl pn sees hQ r (pre ++ [i]) done (prune ((ancs ops).getD i 0) fl) _ (pfx ++ fr) σ' _ (by rw [hp]; simp) D' (fun p hp => ?_) hch.2 (fun j v h => ?_) hv⟩
        · obtain ⟨h1, h2⟩ := prune_mem.1 hp
          obtain ⟨h3, h4, _⟩ := hfl p h1
          refine ⟨h3, h4, ?_⟩
          rcases float p h1 with h | h
          · rw [h2] at h; cases h
          · exact h
        · rcases hcov j v h with h' | ⟨q, hq, e⟩
          · exact .inl (chainB_bit hch.1 h')
          · cases hb : bitB ((ancs ops).getD i 0) q.1.i with
            | true => exact .inl (by rw [← e]; exact hb)
            | false => exact .inr ⟨q, prune_mem.2 ⟨hq, hb⟩, e⟩
      · rw [noLref_app, Bool.and_eq_true]
        constructor
        · refine List.all_eq_true.2 fun p hp => ?_
          obtain ⟨j, _, h2, h3⟩ := vis_mem hp
          exact List.all_eq_true.1 hn _ (D.dsub j _ _ h3 h2)
        · refine List.all_eq_true.2 fun p hp => ?_
          rcases D.sub p hp with h | h
          · rw [h]; rfl
          · exact List.all_eq_true.1 hn _ h

/-- A region that draws its order, as one walk. -/
theorem w_walk {σ0 : St} {Q : Exit → Fr → St → Prop} {id : Nat} {ops : Array Oper} (tl plan qd : List Nat) (hqd : qdsts ops.toList tl = qd) (h : drawOK ops.toList tl plan = true) (hf : (qd.all fun d => isU (lk fr d)) = true) (hr : vdr C (plan.map (mkRO ops.toList tl (ancs ops.toList))) [] fr σ (Q .normal)) : vwp C σ0 (.region id ops true) fr σ Q := by
  simp only [drawOK, Bool.and_eq_true, List.all_eq_true] at h
  obtain ⟨⟨hp, hs⟩, hc⟩ := h
  subst hqd
  refine w_draw tl plan hp ?_
  simp only [planOK, Bool.and_eq_true, List.all_eq_true, Bool.not_eq_true'] at hp
  obtain ⟨⟨⟨⟨_, h2⟩, h3⟩, h4⟩, h5⟩ := hp
  have td : ∀ j d, memB tl j = true → gslot ops.toList j = some d → d ∉ qdsts ops.toList tl := fun j d hj hg hm => by
    have := h4 d (List.mem_filterMap.2 ⟨j, (memB_iff _ _).1 hj, hg⟩)
    rw [(memB_iff _ _).2 hm] at this
    cases this
  refine vdr_vrun (nodupB_iff _ h3) td h5 (nodupB_iff _ h2) hs (fun fr fr' σ he hq => ⟨fr, σ, .frame _ _ _ fun t => .inl (he t).symm, hq⟩) plan [] [] [] _ fr σ 0 rfl ⟨List.nodup_nil, fun j v h => (by simp [lkd] at h), fun j hj => (by cases hj), fun t => ?_, fun t ht => ?_, fun p hp => ?_, fun j v d h => (by simp [lkd] at h)⟩ (fun p hp => (by cases hp)) hc (fun j v h => (by simp [lkd] at h)) hr
  · show lk fr t = lk (blanks (qdsts ops.toList tl) ++ fr) t
    rcases lk_blanks (l := qdsts ops.toList tl) (fr := fr) (t := t) with ⟨ht, h⟩ | ⟨_, h⟩
    · rw [h]
      have := List.all_eq_true.1 hf t ht
      generalize lk fr t = v at this
      cases v <;> first | rfl | cases this
    · exact h.symm
  · rcases lk_blanks (l := qdsts ops.toList tl) (fr := fr) (t := t) with ⟨_, h⟩ | ⟨h, _⟩
    · exact h
    · exact absurd ht h
  · rcases List.mem_append.1 hp with h | h
    · obtain ⟨d, _, rfl⟩ := List.mem_map.1 h
      exact .inl rfl
    · exact .inr h

end
end Go.VL

/- Functions that leave new objects; rules for calls that change nothing. Conditions: the table of types tells the program's own rows (TabOK). -/
namespace Go.VL

def vendK (C : Cfg) (rs : List ResultVar) (K : V → St → Prop) : Exit → Fr → St → Prop
  | .normal, fr', σ' => vresL C fr' σ' rs fun vs => K (packV vs) σ'
  | .ret, fr', σ' => vresL C fr' σ' rs fun vs => K (packV vs) σ'
  | _, _, _ => False

/-- A function whose new objects stay objects. -/
theorem vcalls_keep {C : Cfg} (tok : TabOK C) {f : FuncId} {fn : Func} {c : Code} {args : List V} {σ : St} {K : V → St → Prop} (hf : C.P.funcs[f]? = some fn) (hb : fn.body = some c) (hname : (fn.name == "runtime.NumGoroutine") = false) (hok : okCode fn.ntmps c = true)
    (hlen : Nat.ble args.length fn.ntmps = true) {rs : List ResultVar} (hrs : fn.results.toList = rs) (h : vwp C σ c (fr0 0 args) σ (vendK C rs K)) : VCalls C.P f args σ K := by
  subst hrs
  refine ⟨⟨fn, hf, by rw [hb]; rfl, hname⟩, fun A m w us hR hv => callsIn_wide.1 (callsIn_of_wp_marks (n := 0) hf hb trivial ?_)⟩
  have hlen' : args.length ≤ fn.ntmps := Nat.le_of_ble_eq_true hlen
  have hus : us.length = args.length := hv.1
  have F : Frm A m σ w fn.ntmps (fr0 0 args) σ { tmps := us.toArray ++ Array.replicate (fn.ntmps - us.toArray.size) Go.undef, defers := [] } w m (fun _ => none) := by
    refine ⟨by simp; omega, DefOK.nil, by rw [pA_none]; exact hR, fun t ht => ?_, fun t ht => ?_, fun s t b h => (by cases h), fun t b h => (by cases h), Ext.refl m σ w⟩
    · rw [lk_fr0, pA_none]
      simp only [Nat.zero_le, if_true, Nat.sub_zero]
      cases hq : args[t]? with
      | none => exact .imm _ _ (.undef _)
      | some v =>
        have hlt := lt_of_some hq
        have hu : us[t]? = some us[t] := List.getElem?_eq_getElem (by omega)
        have hr := hv.2 t v _ hq hu
        simp only [Option.getD_some]
        rw [SlotR_val hr.isVal]
        have : (us.toArray ++ Array.replicate (fn.ntmps - us.toArray.size) Go.undef).getD t Go.undef = us[t] := by
          rw [Array.getD_eq_getD_getElem?, Array.getElem?_append_left (by simp; omega)]
          simp [hu]
        rw [this]
        exact hr
    · rw [lk_fr0]
      simp only [Nat.zero_le, if_true, Nat.sub_zero]
      rw [List.getElem?_eq_none (by omega)]
      rfl
  have key : ∀ (fr' : Fr) (σ' : St) (a' : Act) (w' : World), FRel A m σ w fn.ntmps fr' σ' a' w' → (vresL C fr' σ' fn.results.toList fun vs => K (packV vs) σ') →
      LeavesInM Fence.wide 0 C.P fn a'.tmps (fun e w' => ∃ r u m' σ', e = .returned u ∧ VR A m' σ' w' r u ∧ Rel A m' σ' w' ∧ Ext m σ w m' σ' w' ∧ K r σ') a'.defers .returning w' := by
    rintro fr' σ' a' w' ⟨m', pb, F'⟩ hres
    refine Frm.leaves a'.defers w' F' fun w' F' => ?_
    obtain ⟨v, u, hk, hr, hrun⟩ := results_run tok F' (K := fun r => K r σ') hres
    have hm : m'.take σ'.length = m' := by rw [← F'.rel.len, List.take_length]
    have hsg : σ'.take σ'.length = σ' := List.take_length
    have h1 := hr.take (A' := A) (n := σ'.length) (fun b hb => .inl (.inl hb)) hr.sc
    have h2 := F'.rel.drop (A' := A) (n := σ'.length) (fun b hb => .inl hb) fun i o hi ho => by
      have hlt : i < m'.length := by rw [F'.rel.len]; exact hi
      exact (F'.rel.objs i o _ ho (List.getElem?_eq_getElem hlt)).sc
    rw [hm, hsg] at h1 h2
    exact ⟨u, hrun, v, u, m', σ', rfl, h1, h2, F'.ext, hk⟩
  refine vwp_sound tok c none A m σ w fn.ntmps hR (.inl rfl) _ _ _ _ _ _ hok ⟨m, _, F⟩ h fun e fr' σ' a' w' F' h' => ?_
  cases e with
  | normal => exact key fr' σ' a' w' F' h'
  | ret => exact key fr' σ' a' w' F' h'
  | _ => exact h'.elim

/-- A call that changes nothing, by its contract. -/
theorem pcall_of {P : Program} {g : FuncId} {args : List V} {σ : St} {v : V} {K : V → Prop} (h : VCalls P g args σ fun r σ' => r = v ∧ σ' = σ) (hk : K v) : pcall P g args σ K := ⟨v, h, hk⟩
/-- The same, where the order is the text's. -/
theorem call_of {P : Program} {g : FuncId} {args : List V} {σ : St} {v : V} {K : V → St → Prop} (h : VCalls P g args σ fun r σ' => r = v ∧ σ' = σ) (hk : K v σ) : VCalls P g args σ K := h.mono fun r σ' e => by rw [e.1, e.2]; exact hk

end Go.VL

/- The value-level words, one equation each, for reckoning: what follows is a closure, not a function's text. Conditions: none (plain theorems). -/
namespace Go.VL

section
variable {C : Cfg}

/-- Behind an operation: the rest of the region. -/
def kO (C : Cfg) (all os : List Oper) (Q : Fr → St → Prop) : Fr → St → Prop := fun fr σ => vops C all os fr σ Q
theorem kO_app (all os : List Oper) (Q : Fr → St → Prop) (fr : Fr) (σ : St) : kO C all os Q fr σ = vops C all os fr σ Q := rfl

/-- Behind an operation that tells a value. -/
def kV (fr : Fr) (o : Oper) (σ : St) (K : Fr → St → Prop) : V → Prop := fun v => K (putd fr o v) σ
theorem kV_app (fr : Fr) (o : Oper) (σ : St) (K : Fr → St → Prop) (v : V) : kV fr o σ K v = K (putd fr o v) σ := rfl

def isCallV : Op → Bool
  | .call { callee := .value _, .. } => true
  | _ => false

/-- What a guard says: 0: go, 1: not. -/
def gst (fr : Fr) : Option (Option Nat × Bool) → Nat
  | none => 0
  | some (some d, want) => (match lk fr d with
    | .bool b => bif b == want then 0 else 1
    | .tup [] => 1
    | _ => 2)
  | some (none, _) => 2
def grd (all : List Oper) (o : Oper) : Option (Option Nat × Bool) := match o.guard with
  | none => none
  | some (j, want) => some (gslot all j, want)

def vst (C : Cfg) (fr : Fr) (σ : St) (o : Oper) (K : Fr → St → Prop) : Bool → Prop
  | true => ve C fr σ o K
  | false => vq C fr σ o.op (kV fr o σ K)

def vgo (C : Cfg) (all : List Oper) (o : Oper) (os : List Oper) (fr : Fr) (σ : St) (Q : Fr → St → Prop) : Nat → Bool → Prop
  | 0, _ => vstep C fr σ o (kO C all os Q)
  | 1, _ => vops C all os (putd fr o (.tup [])) σ Q
  | _, _ => False

theorem vops_nil (all : List Oper) (fr : Fr) (σ : St) (Q : Fr → St → Prop) : vops C all [] fr σ Q = Q fr σ := rfl
theorem vops_cons (all : List Oper) (o : Oper) (os : List Oper) (fr : Fr) (σ : St) (Q : Fr → St → Prop) : vops C all (o :: os) fr σ Q = vgo C all o os fr σ Q (gst fr (grd all o)) (isCallV o.op) := by
  conv => lhs; unfold vops
  unfold grd
  cases o.guard with
  | none => rfl
  | some p =>
    obtain ⟨j, want⟩ := p
    simp only
    cases gslot all j with
    | none => rfl
    | some d =>
      simp only [gst]
      cases lk fr d with
      | bool b => cases hb : b == want <;> simp [vgo, hb] <;> rfl
      | tup l => cases l <;> rfl
      | _ => rfl
theorem vgo_run (all : List Oper) (o : Oper) (os : List Oper) (fr : Fr) (σ : St) (Q : Fr → St → Prop) : vgo C all o os fr σ Q 0 false = vst C fr σ o (kO C all os Q) (effect o.op) := by
  show vstep C fr σ o (kO C all os Q) = _
  unfold vstep vst
  cases effect o.op <;> rfl
theorem vgo_skip (all : List Oper) (o : Oper) (os : List Oper) (fr : Fr) (σ : St) (Q : Fr → St → Prop) (b : Bool) : vgo C all o os fr σ Q 1 b = vops C all os (putd fr o (.tup [])) σ Q := rfl

/-- A call whose contract is known to change nothing. -/
theorem vgo_call {all : List Oper} {o : Oper} {os : List Oper} {fr : Fr} {σ : St} {Q : Fr → St → Prop} {f : Operand} {args : Array Operand} {ats : Array TypeId} {g : FuncId} {first cap : List V} {v : V} (ho : o.op = .call { callee := .value f, args := args, argTypes := ats }) (hf : opv fr f = .fn (.func g) first cap)
    (ha : (args.toList.map (opv fr)).all V.isVal = true) (hv : v.isVal = true) (hc : VCalls C.P g (first ++ args.toList.map (opv fr) ++ cap) σ fun r σ' => r = v ∧ σ' = σ) (hk : vops C all os (putd fr o v) σ Q) : vgo C all o os fr σ Q 0 true := by
  show vstep C fr σ o (kO C all os Q)
  unfold vstep
  rw [ho]
  simp only [effect, cond_true]
  unfold ve
  rw [ho]
  simp only
  rw [hf]
  exact ⟨ha, call_of hc ⟨hv, hk⟩⟩
/-- A call, by its contract. -/
theorem vgo_call' {all : List Oper} {o : Oper} {os : List Oper} {fr : Fr} {σ : St} {Q : Fr → St → Prop} {f : Operand} {args : Array Operand} {ats : Array TypeId} {g : FuncId} {first cap : List V} {K : V → St → Prop} (ho : o.op = .call { callee := .value f, args := args, argTypes := ats }) (hf : opv fr f = .fn (.func g) first cap)
    (ha : (args.toList.map (opv fr)).all V.isVal = true) (hc : VCalls C.P g (first ++ args.toList.map (opv fr) ++ cap) σ K) (hk : ∀ r σ', K r σ' → r.isVal = true ∧ vops C all os (putd fr o r) σ' Q) : vgo C all o os fr σ Q 0 true := by
  show vstep C fr σ o (kO C all os Q)
  unfold vstep
  rw [ho]
  simp only [effect, cond_true]
  unfold ve
  rw [ho]
  simp only
  rw [hf]
  exact ⟨ha, hc.mono hk⟩

/-! Closures inside operations -/
def kLd (C : Cfg) (t : TypeId) (K : V → Prop) : List V → Prop := fun cs => vload C t cs K
theorem kLd_app (t : TypeId) (K : V → Prop) (cs : List V) : kLd C t K cs = vload C t cs K := rfl
theorem q_load' (fr : Fr) (σ : St) (t : TypeId) (a : Operand) (K : V → Prop) : vq C fr σ (.load t a) K = vcells fr σ (opv fr a) (kLd C t K) := rfl
def kAg (K : V → Prop) : List V → Prop := fun cs => K (.agg cs)
theorem kAg_app (K : V → Prop) (cs : List V) : kAg K cs = K (.agg cs) := rfl
theorem vbuild_eq (fr : Fr) (t : TypeId) (parts : List (Nat × Operand)) (K : V → Prop) : vbuild C fr t parts K = ((C.T t).known = true ∧
  match (C.T t).d with
  | .struct fs => (fs.all fun f => (C.T f.2).known) = true ∧ fillV C (fun i => fs[i]?) (zeroC (C.T t)) (parts.map fun p => (p.1, opv fr p.2)) (kAg K)
  | .array _ e => (C.T e).known = true ∧ fillV C (fun i => some (i * (C.T e).size, e)) (zeroC (C.T t)) (parts.map fun p => (p.1, opv fr p.2)) (kAg K)
  | _ => False) := rfl
def kSt (o : Oper) (K : Fr → St → Prop) : Fr → St → Prop := fun fr σ => K (putd fr o (.tup [])) σ
theorem kSt_app (o : Oper) (K : Fr → St → Prop) (fr : Fr) (σ : St) : kSt o K fr σ = K (putd fr o (.tup [])) σ := rfl

theorem e_alloc' (fr : Fr) (σ : St) (K : Fr → St → Prop) (d : Option Nat) (t ty : TypeId) (ps : String) (af : Array Edge) (g : Option (Nat × Bool)) : ve C fr σ { dst := d, op := .alloc t, type := ty, pos := ps, after := af, guard := g } K = ((C.T t).known = true ∧ (match d with
    | some d => bif memB C.esc d then K ((d, .ptr σ.length 0) :: fr) (σ ++ [.box (zeroC (C.T t))]) else (noLref d fr = true ∧ K ((d, .cell (zeroC (C.T t))) :: fr) σ)
    | none => False)) := rfl
theorem e_assign' (fr : Fr) (σ : St) (K : Fr → St → Prop) (d : Option Nat) (ty : TypeId) (x : Operand) (ps : String) (af : Array Edge) (g : Option (Nat × Bool)) : ve C fr σ { dst := d, op := .assign x, type := ty, pos := ps, after := af, guard := g } K = ((opv fr x).isVal = true ∧ K (putd fr { dst := d, op := .assign x, type := ty, pos := ps, after := af, guard := g } (opv fr x)) σ) := rfl
theorem e_box' (fr : Fr) (σ : St) (K : Fr → St → Prop) (d : Option Nat) (t ty : TypeId) (x : Operand) (ps : String) (af : Array Edge) (g : Option (Nat × Bool)) : ve C fr σ { dst := d, op := .box t x, type := ty, pos := ps, after := af, guard := g } K = (okv (opv fr x) = true ∧ (match d with
    | some d => bif memB C.esc d then K ((d, .ptr σ.length 0) :: fr) (σ ++ [.box (opv fr x).cells]) else
        (bif memB C.wrt d then (noLref d fr = true ∧ K ((d, .cell (opv fr x).cells) :: fr) σ) else (immV (opv fr x) = true ∧ K ((d, .ip (opv fr x).cells) :: fr) σ))
    | none => False)) := rfl
theorem e_store' (fr : Fr) (σ : St) (K : Fr → St → Prop) (d : Option Nat) (t ty : TypeId) (a x : Operand) (ps : String) (af : Array Edge) (g : Option (Nat × Bool)) : ve C fr σ { dst := d, op := .store t a x, type := ty, pos := ps, after := af, guard := g } K =
    ((C.T t).known = true ∧ okv (opv fr x) = true ∧ (opv fr x).cells.length = (C.T t).size ∧ vstore fr σ a (opv fr x).cells (kSt { dst := d, op := .store t a x, type := ty, pos := ps, after := af, guard := g } K)) := rfl

/-- What is appended lies behind. -/
def vapp2 (C : Cfg) (fr : Fr) (σ : St) (o : Oper) (e : TypeId) (K : Fr → St → Prop) (s : V) (src : List V) : Prop :=
  match s with
  | .sl nl clip sz es => (nl || clip) = true ∧ (es = [] ∨ sz = (C.T e).size) ∧ es.length + src.length ≤ lim ∧
      bif isFrz C o then K (putd fr o (.sl (nl && src.isEmpty) false (C.T e).size (es ++ src))) σ
      else ((es = [] ∨ src ≠ []) ∧ K (putd fr o (.rsl σ.length 0 0 (es.length + src.length))) (σ ++ [.arr (nl && src.isEmpty) 0 (C.T e).size (es ++ src)]))
  | .rsl id g lo hi => (match σ[id]? with
    | some (.arr nl g0 sz es) => bif isInp C o then (g = g0 ∧ sz = (C.T e).size ∧ lo = 0 ∧ 0 < es.length ∧ hi + src.length ≤ es.length ∧ K (putd fr o (.rsl id g 0 (hi + src.length))) (σ.set id (.arr nl g0 sz (es.take hi ++ src ++ es.drop (hi + src.length)))))
      else g = g0 ∧ sz = (C.T e).size ∧ lo = 0 ∧ hi = es.length ∧ es.length + src.length ≤ lim ∧
        bif isFrz C o then K (putd fr o (.sl (nl && src.isEmpty) false sz (es ++ src))) (σ.set id .dead)
        else K (putd fr o (.rsl id (g0 + 1) 0 (es.length + src.length))) (σ.set id (.arr (nl && src.isEmpty) (g0 + 1) sz (es ++ src)))
    | _ => False)
  | _ => False
def vapp1 (C : Cfg) (fr : Fr) (σ : St) (o : Oper) (s x : V) (st xt : TypeId) (K : Fr → St → Prop) : TD → Prop
  | .slice e => (C.T e).known = true ∧ 0 < (C.T e).size ∧ (C.T e).bytes ≤ 4096 ∧ vsrc C σ e xt x (vapp2 C fr σ o e K s)
  | _ => False
theorem vappend_eq (fr : Fr) (σ : St) (o : Oper) (s x : V) (st xt : TypeId) (K : Fr → St → Prop) : vappend C fr σ o s x st xt K = ((C.T st).known = true ∧ (C.T xt).known = true ∧ vapp1 C fr σ o s x st xt K (C.T st).d) := by
  unfold vappend vapp1
  congr 2
theorem e_append' (fr : Fr) (σ : St) (K : Fr → St → Prop) (d : Option Nat) (s x : Operand) (st xt ty : TypeId) (ps : String) (af : Array Edge) (g : Option (Nat × Bool)) : ve C fr σ { dst := d, op := .call { callee := .builtin .append, args := #[s, x], argTypes := #[st, xt] }, type := ty, pos := ps, after := af, guard := g } K =
    vappend C fr σ { dst := d, op := .call { callee := .builtin .append, args := #[s, x], argTypes := #[st, xt] }, type := ty, pos := ps, after := af, guard := g } (opv fr s) (opv fr x) st xt K := rfl

/-! Drawn regions -/
def kD (C : Cfg) (r : RO) (rest : List RO) (fl : List (RO × V)) (fr : Fr) (σ : St) (Q : Fr → St → Prop) : V → Prop := fun v => isC v = false ∧ vdr C rest ((r, v) :: fl) (putd fr r.o v) σ Q
theorem kD_app (r : RO) (rest : List RO) (fl : List (RO × V)) (fr : Fr) (σ : St) (Q : Fr → St → Prop) (v : V) : kD C r rest fl fr σ Q v = (isC v = false ∧ vdr C rest ((r, v) :: fl) (putd fr r.o v) σ Q) := rfl
def kT (C : Cfg) (r : RO) (rest : List RO) (fl : List (RO × V)) (fr : Fr) (σ : St) (Q : Fr → St → Prop) : Fr → St → Prop := fun fr' σ' => vagain C r.an fr σ fr' σ' fl ∧ vdr C rest (prune r.an fl) fr' σ' Q
theorem kT_app (r : RO) (rest : List RO) (fl : List (RO × V)) (fr : Fr) (σ : St) (Q : Fr → St → Prop) (fr' : Fr) (σ' : St) : kT C r rest fl fr σ Q fr' σ' = (vagain C r.an fr σ fr' σ' fl ∧ vdr C rest (prune r.an fl) fr' σ' Q) := rfl

def gsr (fr : Fr) : Option (Nat × Bool) → Nat
  | none => 0
  | some (d, want) => (match lk fr d with
    | .bool b => bif b == want then 0 else 1
    | .tup [] => 1
    | _ => 2)

def isCallN (op : Op) : Nat := match op with
  | .call { callee := .value _, .. } => 1
  | .call { callee := .builtin .append, .. } => 2
  | _ => 0
def vdgo (C : Cfg) (r : RO) (rest : List RO) (fl : List (RO × V)) (fr : Fr) (σ : St) (Q : Fr → St → Prop) : Bool → Nat → Nat → Prop
  | true, _, _ => noLrefL r.o.dst fr = true ∧ (r.o.op.operands.toList.all fun x => !isU (opv fr x)) = true ∧ ve C fr σ r.o (kT C r rest fl fr σ Q)
  | false, 0, 1 => vqp C fr σ r.o.op (kD C r rest fl fr σ Q)
  | false, 0, 2 => vqx C fr σ r.o.op (kD C r rest fl fr σ Q)
  | false, 0, _ => vq C fr σ r.o.op (kD C r rest fl fr σ Q)
  | false, 1, _ => isC (.tup []) = false ∧ vdr C rest ((r, .tup []) :: fl) (putd fr r.o (.tup [])) σ Q
  | false, _, _ => False

theorem vdr_nil (fl : List (RO × V)) (fr : Fr) (σ : St) (Q : Fr → St → Prop) : vdr C [] fl fr σ Q = Q fr σ := rfl
theorem vqp_x (fr : Fr) (σ : St) (op : Op) (K : V → Prop) (h : isCallN op ≠ 1) : vqp C fr σ op K = vqx C fr σ op K := by
  unfold vqp
  split
  · simp [isCallN] at h
  · rfl
theorem vqp_q (fr : Fr) (σ : St) (op : Op) (K : V → Prop) (h : isCallN op = 0) : vqp C fr σ op K = vq C fr σ op K := by
  rw [vqp_x fr σ op K (by rw [h]; decide)]
  unfold vqx
  split
  · simp [isCallN] at h
  · rfl
theorem vdgo_run (r : RO) (rest : List RO) (fl : List (RO × V)) (fr : Fr) (σ : St) (Q : Fr → St → Prop) : vdgo C r rest fl fr σ Q false 0 (isCallN r.o.op) = vqp C fr σ r.o.op (kD C r rest fl fr σ Q) := by
  have : isCallN r.o.op = 1 ∨ isCallN r.o.op = 2 ∨ isCallN r.o.op = 0 := by
    unfold isCallN
    split <;> simp
  rcases this with h | h | h
  · rw [h]; rfl
  · rw [vqp_x fr σ _ _ (by rw [h]; decide), h]; rfl
  · rw [vqp_q fr σ _ _ h, h]; rfl
theorem vdr_cons (r : RO) (rest : List RO) (fl : List (RO × V)) (fr : Fr) (σ : St) (Q : Fr → St → Prop) : vdr C (r :: rest) fl fr σ Q = vdgo C r rest fl fr σ Q r.t (gsr fr r.g) (isCallN r.o.op) := by
  conv => lhs; unfold vdr
  cases r.t with
  | true => rfl
  | false =>
    simp only [cond_false]
    unfold vqg gsr
    cases r.g with
    | none => exact (vdgo_run r rest fl fr σ Q).symm
    | some p =>
      obtain ⟨d, want⟩ := p
      simp only [vgd]
      cases lk fr d with
      | bool b =>
        simp only
        cases hb : b == want with
        | true => exact (vdgo_run r rest fl fr σ Q).symm
        | false => rfl
      | tup l => cases l <;> rfl
      | _ => rfl
theorem vdgo_t (r : RO) (rest : List RO) (fl : List (RO × V)) (fr : Fr) (σ : St) (Q : Fr → St → Prop) (n : Nat) (b : Nat) : vdgo C r rest fl fr σ Q true n b = (noLrefL r.o.dst fr = true ∧ (r.o.op.operands.toList.all fun x => !isU (opv fr x)) = true ∧ ve C fr σ r.o (kT C r rest fl fr σ Q)) := rfl
theorem vdgo_q (i : Nat) (d : Option Nat) (op : Op) (ty : TypeId) (ps : String) (af : Array Edge) (g0 : Option (Nat × Bool)) (t : Bool) (an : Nat) (g : Option (Nat × Bool)) (rest : List RO) (fl : List (RO × V)) (fr : Fr) (σ : St) (Q : Fr → St → Prop) :
    vdgo C { i := i, o := { dst := d, op := op, type := ty, pos := ps, after := af, guard := g0 }, t := t, an := an, g := g } rest fl fr σ Q false 0 0 = vq C fr σ op (kD C { i := i, o := { dst := d, op := op, type := ty, pos := ps, after := af, guard := g0 }, t := t, an := an, g := g } rest fl fr σ Q) := rfl
theorem vdgo_app (i : Nat) (d : Option Nat) (s x : Operand) (st xt : TypeId) (ty : TypeId) (ps : String) (af : Array Edge) (g0 : Option (Nat × Bool)) (t : Bool) (an : Nat) (g : Option (Nat × Bool)) (rest : List RO) (fl : List (RO × V)) (fr : Fr) (σ : St) (Q : Fr → St → Prop) :
    vdgo C { i := i, o := { dst := d, op := .call { callee := .builtin .append, args := #[s, x], argTypes := #[st, xt] }, type := ty, pos := ps, after := af, guard := g0 }, t := t, an := an, g := g } rest fl fr σ Q false 0 2 =
      vappQ C σ (opv fr s) (opv fr x) st xt (kD C { i := i, o := { dst := d, op := .call { callee := .builtin .append, args := #[s, x], argTypes := #[st, xt] }, type := ty, pos := ps, after := af, guard := g0 }, t := t, an := an, g := g } rest fl fr σ Q) := rfl
theorem vqg_app (s x : Operand) (st xt : TypeId) (fr : Fr) (σ : St) (K : V → Prop) : vqg C fr σ none (.call { callee := .builtin .append, args := #[s, x], argTypes := #[st, xt] }) K = vappQ C σ (opv fr s) (opv fr x) st xt K := rfl
def vapp3 (C : Cfg) (σ : St) (x : V) (xt e : TypeId) (K : V → Prop) : V → Prop
  | .sl nl clip sz es => vsrc C σ e xt x fun src => (nl || clip) = true ∧ (es = [] ∨ sz = (C.T e).size) ∧ es.length + src.length ≤ lim ∧ K (.sl (nl && src.isEmpty) false (C.T e).size (es ++ src))
  | _ => vsrc C σ e xt x fun _ => False
def vapp4 (C : Cfg) (σ : St) (s x : V) (xt : TypeId) (K : V → Prop) : TD → Prop
  | .slice e => (C.T e).known = true ∧ 0 < (C.T e).size ∧ (C.T e).bytes ≤ 4096 ∧ vapp3 C σ x xt e K s
  | _ => False
theorem vappQ_eq (σ : St) (s x : V) (st xt : TypeId) (K : V → Prop) : vappQ C σ s x st xt K = ((C.T st).known = true ∧ (C.T xt).known = true ∧ vapp4 C σ s x xt K (C.T st).d) := by
  unfold vappQ vapp4 vapp3
  cases (C.T st).d <;> try rfl
  cases s <;> rfl
theorem vdgo_skip (r : RO) (rest : List RO) (fl : List (RO × V)) (fr : Fr) (σ : St) (Q : Fr → St → Prop) (b : Nat) : vdgo C r rest fl fr σ Q false 1 b = vdr C rest ((r, .tup []) :: fl) (putd fr r.o (.tup [])) σ Q := by
  simp [vdgo, isC]
theorem vdgo_call {r : RO} {rest : List RO} {fl : List (RO × V)} {fr : Fr} {σ : St} {Q : Fr → St → Prop} {f : Operand} {args : Array Operand} {ats : Array TypeId} {g : FuncId} {first cap : List V} {v : V} (ho : r.o.op = .call { callee := .value f, args := args, argTypes := ats }) (hf : opv fr f = .fn (.func g) first cap)
    (ha : (args.toList.map (opv fr)).all V.isVal = true) (hv : isC v = false) (hc : VCalls C.P g (first ++ args.toList.map (opv fr) ++ cap) σ fun r σ' => r = v ∧ σ' = σ) (hk : vdr C rest ((r, v) :: fl) (putd fr r.o v) σ Q) : vdgo C r rest fl fr σ Q false 0 1 := by
  show vqp C fr σ r.o.op (kD C r rest fl fr σ Q)
  unfold vqp
  rw [ho]
  simp only
  rw [hf]
  exact ⟨ha, pcall_of hc ⟨hv, hk⟩⟩

/-! Conditions that are known -/
theorem vcond_true (σ0 : St) (t e : Code) (fr : Fr) (σ : St) (Q : Exit → Fr → St → Prop) : vcond C σ0 t e fr σ Q (.bool true) = vwp C σ0 t fr σ Q := rfl
theorem vcond_false (σ0 : St) (t e : Code) (fr : Fr) (σ : St) (Q : Exit → Fr → St → Prop) : vcond C σ0 t e fr σ Q (.bool false) = vwp C σ0 e fr σ Q := rfl

end
end Go.VL

/- The value-level words, one equation each, for reckoning: operations that change nothing. Conditions: none (plain theorems). -/
namespace Go.VL

section
variable {C : Cfg} (fr : Fr) (σ : St) (K : V → Prop)

theorem x_move (x : Operand) : vq C fr σ (.move x) K = ((opv fr x).isVal = true ∧ K (opv fr x)) := rfl
theorem x_assign (x : Operand) : vq C fr σ (.assign x) K = ((opv fr x).isVal = true ∧ K (opv fr x)) := rfl
def vpick (c a b : V) (K : V → Prop) : Prop := match c with
  | .bool t => (bif t then a else b).isVal = true ∧ K (bif t then a else b)
  | _ => False
theorem x_pick (c a b : Operand) : vq C fr σ (.pick c a b) K = vpick (opv fr c) (opv fr a) (opv fr b) K := rfl
theorem vpick_bool (t : Bool) (a b : V) : vpick (.bool t) a b K = ((bif t then a else b).isVal = true ∧ K (bif t then a else b)) := rfl
theorem x_binOp (op : BinOp) (t yt : TypeId) (x y : Operand) : vq C fr σ (.binOp op t x y yt) K = vbin C σ op t (opv fr x) (opv fr y) K := rfl
theorem x_unOp (op : UnOp) (t : TypeId) (x : Operand) : vq C fr σ (.unOp op t x) K = vun op (opv fr x) K := rfl
theorem x_convert (s d : TypeId) (x : Operand) : vq C fr σ (.convert s d x) K = vconv C σ s d (opv fr x) K := rfl
theorem x_fieldAddr (t : TypeId) (x : Operand) (i : Nat) : vq C fr σ (.fieldAddr t x i) K = ((C.T t).known = true ∧ (match (C.T t).d with
    | .struct fs => (match fs[i]? with
      | some (off, ft) => (C.T ft).known = true ∧ 0 < (C.T ft).size ∧ vshiftP fr σ x (opv fr x) off K
      | none => False)
    | _ => False)) := rfl
theorem x_field (t : TypeId) (x : Operand) (i : Nat) : vq C fr σ (.field t x i) K = ((C.T t).known = true ∧ (match (C.T t).d, opv fr x with
    | .struct fs, .agg cs => (match fs[i]? with
      | some (off, ft) => vpart C ft cs off K
      | none => False)
    | _, _ => False)) := rfl
def vixA (C : Cfg) (fr : Fr) (σ : St) (t : TypeId) (x : Operand) (K : V → Prop) : V → Prop
  | .int _ n => (match (C.T t).d with
      | .slice e => (C.T e).known = true ∧ (match opv fr x with
        | .sl _ _ sz es => sz = (C.T e).size ∧ (0 ≤ n ∧ n < es.length) ∧ K (.ip (es.getD n.toNat .undef).cells)
        | .rsl id g lo hi => (match σ[id]? with
          | some (.arr _ g0 sz _) => g = g0 ∧ sz = (C.T e).size ∧ (0 ≤ n ∧ n < ((hi - lo : Nat) : Int)) ∧ K (.eptr id g (lo + n.toNat) 0)
          | _ => False)
        | _ => False)
      | .array len e => (C.T e).known = true ∧ (0 ≤ n ∧ n < len) ∧ vshiftP fr σ x (opv fr x) (n.toNat * (C.T e).size) K
      | _ => False)
  | _ => False
theorem x_indexAddr (t : TypeId) (x i : Operand) : vq C fr σ (.indexAddr t x i) K = ((C.T t).known = true ∧ vixA C fr σ t x K (opv fr i)) := by
  show (_ ∧ _) = _
  congr 1
theorem x_index (t : TypeId) (x i : Operand) : vq C fr σ (.index t x i) K = ((C.T t).known = true ∧ (match opv fr i with
    | .int _ n => (match (C.T t).d, opv fr x with
      | .array len e, .agg cs => (C.T e).known = true ∧ (0 ≤ n ∧ n < len) ∧ vpart C e cs (n.toNat * (C.T e).size) K
      | .str, .str s => (0 ≤ n ∧ n < s.size) ∧ K (.int .u8 (s.data.toList.getD n.toNat 0).toNat)
      | _, _ => False)
    | _ => False)) := rfl
theorem x_slice (t : TypeId) (x : Operand) (lo hi mx : Option Operand) : vq C fr σ (.slice t x lo hi mx) K = vslice C fr σ t x lo hi mx K := rfl
theorem x_build (t : TypeId) (parts : Array (Nat × Operand)) : vq C fr σ (.build t parts) K = vbuild C fr t parts.toList K := rfl
theorem x_buildSlice (t : TypeId) (n : Nat) (parts : Array (Nat × Operand)) : vq C fr σ (.buildSlice t n parts) K = vbuildSlice C fr t n parts.toList K := rfl
theorem x_makeFunc (f : Fn) (xs ys : Array Operand) : vq C fr σ (.makeFunc f xs ys) K = (((xs.toList.map (opv fr)).all V.isVal && (ys.toList.map (opv fr)).all V.isVal) = true ∧ K (.fn f (xs.toList.map (opv fr)) (ys.toList.map (opv fr)))) := rfl
def vext (t : V) (i : Nat) (K : V → Prop) : Prop := match t with
  | .tup cs => i < cs.length ∧ (cs.getD i .undef).isVal = true ∧ K (cs.getD i .undef)
  | _ => False
theorem x_extract (t : Operand) (i : Nat) : vq C fr σ (.extract t i) K = vext (opv fr t) i K := rfl
theorem vext_tup (cs : List V) (i : Nat) : vext (.tup cs) i K = (i < cs.length ∧ (cs.getD i .undef).isVal = true ∧ K (cs.getD i .undef)) := rfl
theorem x_lookup (t : TypeId) (x k : Operand) (ok : Bool) : vq C fr σ (.lookup t x k ok) K = vlookup C σ t (opv fr x) (opv fr k) ok K := rfl
theorem x_nilCheck (x : Operand) : vq C fr σ (.nilCheck x) K = (match opv fr x with
    | .ptr id off => (match σ[id]? with
      | some (.box _) => K (.ptr id off)
      | _ => False)
    | .ip cs => K (.ip cs)
    | .fn (.func f) xs ys => K (.fn (.func f) xs ys)
    | _ => False) := rfl
theorem x_len (x : Operand) (t : TypeId) : vq C fr σ (.call { callee := .builtin .len, args := #[x], argTypes := #[t] }) K = vlen C σ t (opv fr x) K := rfl
theorem x_cap (x : Operand) (t : TypeId) : vq C fr σ (.call { callee := .builtin .cap, args := #[x], argTypes := #[t] }) K = vcap C t (opv fr x) K := rfl
def vmm (mx : Bool) (x y : V) (K : V → Prop) : Prop := match intsOf [x, y] with
  | some ((k, n) :: r) => K (.int k (bif mx then r.foldl (fun m y => if y.2 > m then y.2 else m) n else r.foldl (fun m y => if y.2 < m then y.2 else m) n))
  | _ => False
theorem x_min (x y : Operand) (ts : Array TypeId) : vq C fr σ (.call { callee := .builtin .min, args := #[x, y], argTypes := ts }) K = vmm false (opv fr x) (opv fr y) K := rfl
theorem x_max (x y : Operand) (ts : Array TypeId) : vq C fr σ (.call { callee := .builtin .max, args := #[x, y], argTypes := ts }) K = vmm true (opv fr x) (opv fr y) K := rfl
theorem vmm_int (mx : Bool) (k k' : IntKind) (a b : Int) : vmm mx (.int k a) (.int k' b) K = K (.int k (bif mx then (if b > a then b else a) else (if b < a then b else a))) := rfl

theorem beqT (b : Bool) : (b == true) = b := by cases b <;> rfl
theorem beqF (b : Bool) : (b == false) = !b := by cases b <;> rfl

/-! Comparisons and sums, where both sides are known -/
theorem vbin_int (op : BinOp) (t : TypeId) (k k' : IntKind) (a b : Int) : vbin C σ op t (.int k a) (.int k' b) K = (bif isShift op then vshift op k a b K else (k = k' ∧ vint op k a b K)) := rfl
theorem vbin_bool (op : BinOp) (t : TypeId) (a b : Bool) : vbin C σ op t (.bool a) (.bool b) K = ((C.T t).d matches .bool ∧ (C.T t).known = true ∧ eqK op (a == b) K) := rfl
theorem vbin_str (op : BinOp) (t : TypeId) (a b : ByteArray) : vbin C σ op t (.str a) (.str b) K = vstr op a b K := rfl
theorem vbin_agg (op : BinOp) (t : TypeId) (xs ys : List V) : vbin C σ op t (.agg xs) (.agg ys) K = ((C.T t).eqs = true ∧ (C.T t).known = true ∧ mk (C.T t).eqk xs = true ∧ mk (C.T t).eqk ys = true ∧ eqK op (cellsEq xs ys) K) := rfl
def vnil (C : Cfg) (σ : St) (op : BinOp) (t : TypeId) (x y : V) (K : V → Prop) : Prop := (C.T t).known = true ∧ (kindOk (C.T t).d x && kindOk (C.T t).d y) = true ∧ (bif isNilV y then ((∃ b, nilB σ x = some b ∧ eqK op b K)) else (isNilV x = true ∧ ∃ b, nilB σ y = some b ∧ eqK op b K))
theorem vbin_sl (op : BinOp) (t : TypeId) (nl c : Bool) (sz : Nat) (es : List V) (y : V) : vbin C σ op t (.sl nl c sz es) y K = vnil C σ op t (.sl nl c sz es) y K := rfl
theorem vbin_rsl (op : BinOp) (t : TypeId) (id g lo hi : Nat) (y : V) : vbin C σ op t (.rsl id g lo hi) y K = vnil C σ op t (.rsl id g lo hi) y K := rfl
theorem vbin_ptr (op : BinOp) (t : TypeId) (id off : Nat) (y : V) : vbin C σ op t (.ptr id off) y K = vnil C σ op t (.ptr id off) y K := rfl
theorem vbin_ip (op : BinOp) (t : TypeId) (cs : List V) (y : V) : vbin C σ op t (.ip cs) y K = vnil C σ op t (.ip cs) y K := rfl
theorem vbin_nilp (op : BinOp) (t : TypeId) (y : V) : vbin C σ op t .nilp y K = vnil C σ op t .nilp y K := rfl
theorem vbin_fn (op : BinOp) (t : TypeId) (f : Fn) (xs ys : List V) (y : V) : vbin C σ op t (.fn f xs ys) y K = vnil C σ op t (.fn f xs ys) y K := rfl
theorem vbin_nilf (op : BinOp) (t : TypeId) (y : V) : vbin C σ op t .nilf y K = vnil C σ op t .nilf y K := rfl
theorem vbin_mp (op : BinOp) (t : TypeId) (id : Nat) (y : V) : vbin C σ op t (.mp id) y K = vnil C σ op t (.mp id) y K := rfl
theorem vbin_nilm (op : BinOp) (t : TypeId) (y : V) : vbin C σ op t .nilm y K = vnil C σ op t .nilm y K := rfl
end

/-- Clear. -/
def vclr (C : Cfg) (fr : Fr) (σ : St) (o : Oper) (K : Fr → St → Prop) (x : V) : TD → Prop
  | .slice e => (match x with
    | .rsl id g lo hi => (C.T e).known = true ∧ (match σ[id]? with
      | some (.arr nl g0 sz es) => g = g0 ∧ sz = (C.T e).size ∧ 0 < (C.T e).size ∧ (zeroC (C.T e)).all cell1 = true ∧ K (putd fr o (.tup [])) (σ.set id (.arr nl g0 sz (es.take lo ++ List.replicate (hi - lo) (zeroOf (C.T e)) ++ es.drop hi)))
      | _ => False)
    | _ => False)
  | _ => False
theorem e_clear' {C : Cfg} (fr : Fr) (σ : St) (K : Fr → St → Prop) (d : Option Nat) (x : Operand) (t ty : TypeId) (ps : String) (af : Array Edge) (g : Option (Nat × Bool)) : ve C fr σ { dst := d, op := .call { callee := .builtin .clear, args := #[x], argTypes := #[t] }, type := ty, pos := ps, after := af, guard := g } K =
    ((C.T t).known = true ∧ vclr C fr σ { dst := d, op := .call { callee := .builtin .clear, args := #[x], argTypes := #[t] }, type := ty, pos := ps, after := af, guard := g } K (opv fr x) (C.T t).d) := by
  show (_ ∧ _) = _
  congr 1
  unfold vclr
  cases (C.T t).d <;> try rfl
  cases opv fr x <;> rfl

end Go.VL

/- The words for reckoning, as one set. Conditions: none. -/
namespace Go.VL

attribute [go_sem]
  effect opv lk fr0 putd cond_false cond_true gslot Option.bind cfg_T cfg_P cfg_esc cfg_wrt cfg_frz ofVal ofVal0 V.isVal V.cells isShift vshift vint vconv vun vstr eqK vlen bnd vslice vbuildSlice fillV
  inOrder vload vcells vshiftP vpart vlookup vsrc isFrz isInp memB vstore setCells okv cell1 imm0 imm1 immV zeroC zeroOf noLref isLref reEl vend vresL vres1 packV vfin_same vfin_app fzV fz1 fz0 scV ref1 ref0
  kindOk isNilV nilB intsOf keyD keyA keyB updB kindsEq sameKind plainCell cellsEq cellEq List.map_cons List.map_nil List.all_cons List.all_nil List.length_cons List.length_nil List.headD_cons List.getElem?_cons_zero
  List.getElem?_cons_succ List.take_succ_cons List.take_zero List.drop_succ_cons List.drop_zero List.getD_cons_zero List.getD_cons_succ List.nil_append List.cons_append List.append_nil Bool.and_true
  Bool.true_and Bool.and_self Bool.not_true Bool.not_false Bool.false_eq_true true_and and_true and_self eq_self ne_eq not_false_eq_true not_true_eq_false Bool.or_true Bool.or_false Bool.true_or
  Bool.false_or Option.isNone_none Option.isSome_none Option.isSome_some Nat.reduceAdd Nat.reduceMul Nat.reduceLeDiff Nat.reduceEqDiff Nat.reduceSub Nat.reduceLT Nat.zero_le forall_const exists_eq_left
  exists_eq_left' exists_eq_right exists_and_left exists_and_right exists_false exists_const blt_self blt_add get_at get_add set_at set_add beq_self_nat Nat.beq_refl Int.reduceLE Int.reduceLT
  Int.reduceToNat Int.reduceNeg IntKind.bits Nat.min_def reduceIte Int.toNat_zero Int.natCast_nonneg Int.toNat_natCast gt_iff_lt ge_iff_le w_skip w_exit w_ret w_region kSeq w_seq kBlock w_block w_cond
  Keeps and_assoc Int.ofNat_lt decide_true decide_false Int.ofNat_le Nat.beq mkRO rg vgd pfn isC prune vagain agrL agr1 isU noLrefL Option.map_some Option.map_none Option.getD_some Option.getD_none
  List.getElem?_nil vops_nil vops_cons vgo_run vgo_skip grd gst isCallV vst kO_app kV_app kLd_app q_load' kAg_app kSt_app vbuild_eq e_alloc' e_assign' e_box' e_store' e_append' vappend_eq vapp1 vapp2 kD_app
  kT_app gsr vdr_nil vdr_cons vdgo_t vdgo_q vdgo_app vappQ_eq vapp3 vapp4 isCallN vdgo_skip vcond_true vcond_false x_move x_assign x_pick vpick_bool x_binOp x_unOp x_convert x_fieldAddr x_field x_indexAddr vixA x_index x_slice x_build
  x_buildSlice x_makeFunc x_extract vext_tup x_lookup x_nilCheck x_len x_cap vcap x_min x_max vbin_int vbin_bool vbin_str vbin_agg vnil vbin_sl vbin_rsl vbin_ptr vbin_ip vbin_nilp vbin_fn vbin_nilf vbin_mp
  vbin_nilm vmm_int beqT beqF Int.reduceEq Int.reduceNe Int.reduceMul Int.reduceAdd Int.reduceSub List.set_cons_zero List.set_cons_succ List.set_nil Option.some.injEq false_and false_or or_false true_or
  or_true e_clear' vclr vendK beq_self_eq_true bne_self_eq_false

end Go.VL

/- Rows that are nil are one value, whatever is told of them; calls by contracts over such. Conditions: none (plain theorems). -/
namespace Go.VL

/-- The same, but for what is told of a row that is nil. -/
inductive NE : V → V → Prop where
  | refl (v : V) : NE v v
  | clip (nl : Bool) (sz : Nat) (es : List V) : NE (.sl nl true sz es) (.sl nl false sz es)
  | nil (c : Bool) (sz : Nat) (c' : Bool) (sz' : Nat) : NE (.sl true c sz []) (.sl true c' sz' [])
  | agg (cs cs' : List V) (hl : cs.length = cs'.length) (h : ∀ (i : Nat) v v', cs[i]? = some v → cs'[i]? = some v' → NE v v') : NE (.agg cs) (.agg cs')
  | tup (cs cs' : List V) (hl : cs.length = cs'.length) (h : ∀ (i : Nat) v v', cs[i]? = some v → cs'[i]? = some v' → NE v v') : NE (.tup cs) (.tup cs')
  | sl (nl c : Bool) (sz : Nat) (es es' : List V) (hl : es.length = es'.length) (h : ∀ (i : Nat) v v', es[i]? = some v → es'[i]? = some v' → NE v v') : NE (.sl nl c sz es) (.sl nl c sz es')

theorem NE.cells {v v' : V} (h : NE v v') : v.cells.length = v'.cells.length ∧ ∀ (r : Nat) x x', v.cells[r]? = some x → v'.cells[r]? = some x' → NE x x' := by
  have one : ∀ {v v' : V}, NE v v' → v.cells = [v] → v'.cells = [v'] → v.cells.length = v'.cells.length ∧ ∀ (r : Nat) x x', v.cells[r]? = some x → v'.cells[r]? = some x' → NE x x' := by
    intro v v' h h1 h2
    rw [h1, h2]
    refine ⟨rfl, fun r x x' a b => ?_⟩
    cases r with
    | zero => simp at a b; rw [← a, ← b]; exact h
    | succ r => simp at a
  cases h with
  | refl => exact ⟨rfl, fun r x x' a b => by rw [a] at b; cases b; exact .refl _⟩
  | clip nl sz es => exact one (.clip nl sz es) rfl rfl
  | nil c sz c' sz' => exact one (.nil c sz c' sz') rfl rfl
  | agg cs cs' hl h => exact ⟨hl, h⟩
  | tup cs cs' hl h => exact one (.tup cs cs' hl h) rfl rfl
  | sl nl c sz es es' hl h => exact one (.sl nl c sz es es' hl h) rfl rfl

theorem some_of_lt {α : Type} {l : List α} {i : Nat} (h : i < l.length) : ∃ x, l[i]? = some x := ⟨_, List.getElem?_eq_getElem h⟩

theorem NE.vi {w : World} {B : Nat → Prop} {v v' : V} (h : NE v v') : ∀ {u : Value}, VI w B v u → VI w B v' u := by
  induction h with
  | refl v => exact fun hu => hu
  | clip nl sz es =>
    intro u hu
    cases hu with
    | sl0 => exact .sl0 false sz
    | sl _ _ _ a cap cell hB hblk hcap hclip hsz hcell hone hv => exact .sl false sz es a cap cell hB hblk hcap (fun h => by cases h) hsz hcell hone hv
  | nil c sz c' sz' =>
    intro u hu
    cases hu
    exact .sl0 c' sz'
  | agg cs cs' hl h ih =>
    intro u hu
    cases hu with
    | agg _ us hl' hv =>
      refine .agg cs' us (by rw [hl', hl]) fun i v' u h1 h2 => ?_
      obtain ⟨v, hv'⟩ := some_of_lt (l := cs) (i := i) (by rw [hl]; exact lt_of_some h1)
      exact ih i v v' hv' h1 (hv i v u hv' h2)
  | tup cs cs' hl h ih =>
    intro u hu
    cases hu with
    | tup _ us hl' hv =>
      refine .tup cs' us (by rw [hl', hl]) fun i v' u h1 h2 => ?_
      obtain ⟨v, hv'⟩ := some_of_lt (l := cs) (i := i) (by rw [hl]; exact lt_of_some h1)
      exact ih i v v' hv' h1 (hv i v u hv' h2)
  | sl nl c sz es es' hl h ih =>
    intro u hu
    cases hu with
    | sl0 =>
      cases es' with
      | nil => exact .sl0 c sz
      | cons e es' => simp at hl
    | sl _ _ _ a cap cell hB hblk hcap hclip hsz hcell hone hv =>
      rw [hl]
      rw [hl] at hB hblk hcap hclip hcell hone
      refine .sl c sz es' a cap cell hB hblk hcap hclip (fun e' he' => ?_) hcell hone fun i e' he' r x' hx' => ?_
      · obtain ⟨i, hi, rfl⟩ := List.mem_iff_getElem.1 he'
        obtain ⟨e, he⟩ := some_of_lt (l := es) (i := i) (by rw [hl]; exact hi)
        rw [← ((h i e _ he (List.getElem?_eq_getElem hi)).cells).1]
        exact hsz e (List.mem_of_getElem? he)
      · obtain ⟨e, he⟩ := some_of_lt (l := es) (i := i) (by rw [hl]; exact lt_of_some he')
        have hc := (h i e e' he he').cells
        obtain ⟨x, hx⟩ := some_of_lt (l := e.cells) (i := r) (by rw [hc.1]; exact lt_of_some hx')
        have hvx := hv i e he r x hx
        have key : ∀ {u : Value}, VI w B e u → VI w B e' u := fun h => ih i e e' he he' h
        cases h i e e' he he' with
        | refl => rw [hx] at hx'; cases hx'; exact hvx
        | clip n1 s1 e1 =>
          have e1 : r = 0 := by have := lt_of_some hx; simp [V.cells] at this; exact this
          subst e1
          simp [V.cells] at hx hx'
          subst hx hx'
          exact key hvx
        | nil c1 s1 c2 s2 =>
          have e1 : r = 0 := by have := lt_of_some hx; simp [V.cells] at this; exact this
          subst e1
          simp [V.cells] at hx hx'
          subst hx hx'
          exact key hvx
        | agg cs cs' hl2 h2 =>
          have hse : cs.length = sz := hsz _ (List.mem_of_getElem? he)
          have k1 : VI w B (.agg cs) (.agg (Array.ofFn fun r : Fin sz => cell (i * sz + r))) := by
            refine .agg cs _ (by simp [hse]) fun r v u a b => ?_
            have hr : r < sz := by rw [← hse]; exact lt_of_some a
            simp [hr] at b
            rw [← b]
            exact hv i _ he r v a
          have k2 := key k1
          cases k2 with
          | agg _ _ hl3 hv3 =>
            have hr : r < sz := by rw [← hse, hl2]; exact lt_of_some hx'
            exact hv3 r x' _ hx' (by simp [hr])
        | tup cs cs' hl2 h2 =>
          have e1 : r = 0 := by have := lt_of_some hx; simp [V.cells] at this; exact this
          subst e1
          simp [V.cells] at hx hx'
          subst hx hx'
          exact key hvx
        | sl nl2 c2 sz2 es2 es2' hl2 h2 =>
          have e1 : r = 0 := by have := lt_of_some hx; simp [V.cells] at this; exact this
          subst e1
          simp [V.cells] at hx hx'
          subst hx hx'
          exact key hvx

theorem NE.vr {A : Nat → Prop} {m : Mp} {σ : St} {w : World} {v v' : V} (h : NE v v') : ∀ {u : Value}, VR A m σ w v u → VR A m σ w v' u := by
  induction h with
  | refl v => exact fun hu => hu
  | clip nl sz es =>
    intro u hu
    cases hu with
    | imm _ _ hi => exact .imm _ _ ((NE.clip nl sz es).vi hi)
  | nil c sz c' sz' =>
    intro u hu
    cases hu with
    | imm _ _ hi => exact .imm _ _ ((NE.nil c sz c' sz').vi hi)
  | agg cs cs' hl h ih =>
    intro u hu
    obtain ⟨us, rfl, hr⟩ := hu.agg_inv
    refine .agg cs' us (by have := hr.1; simp at this; rw [this, hl]) fun i v' u h1 h2 => ?_
    obtain ⟨v, hv'⟩ := some_of_lt (l := cs) (i := i) (by rw [hl]; exact lt_of_some h1)
    exact ih i v v' hv' h1 (hr.2 i v u hv' (by simpa using h2))
  | tup cs cs' hl h ih =>
    intro u hu
    obtain ⟨us, rfl, hr⟩ := hu.tup_inv
    refine .tup cs' us (by have := hr.1; simp at this; rw [this, hl]) fun i v' u h1 h2 => ?_
    obtain ⟨v, hv'⟩ := some_of_lt (l := cs) (i := i) (by rw [hl]; exact lt_of_some h1)
    exact ih i v v' hv' h1 (hr.2 i v u hv' (by simpa using h2))
  | sl nl c sz es es' hl h ih =>
    intro u hu
    cases hu with
    | imm _ _ hi => exact .imm _ _ ((NE.sl nl c sz es es' hl h).vi hi)

/-- Lists, one by one. -/
def NEs : List V → List V → Prop
  | [], [] => True
  | v :: vs, v' :: vs' => NE v v' ∧ NEs vs vs'
  | _, _ => False
theorem NEs.at : ∀ {vs vs' : List V}, NEs vs vs' → vs.length = vs'.length ∧ ∀ (i : Nat) v v', vs[i]? = some v → vs'[i]? = some v' → NE v v'
  | [], [], _ => ⟨rfl, fun i v v' h => by simp at h⟩
  | v :: vs, v' :: vs', h => by
    obtain ⟨h1, h2⟩ := NEs.at h.2
    refine ⟨by simp [h1], fun i x x' a b => ?_⟩
    cases i with
    | zero => simp at a b; rw [← a, ← b]; exact h.1
    | succ i => exact h2 i x x' (by simpa using a) (by simpa using b)
  | [], _ :: _, h => h.elim
  | _ :: _, [], h => h.elim
theorem NEs.refl : ∀ vs : List V, NEs vs vs
  | [] => trivial
  | v :: vs => ⟨.refl v, NEs.refl vs⟩
theorem NE.aggL {cs cs' : List V} (h : NEs cs cs') : NE (.agg cs) (.agg cs') := .agg cs cs' h.at.1 h.at.2
theorem NE.tupL {cs cs' : List V} (h : NEs cs cs') : NE (.tup cs) (.tup cs') := .tup cs cs' h.at.1 h.at.2
/-- A contract, over arguments that are the same but for rows that are nil. -/
theorem VCalls.ne {P : Program} {f : FuncId} {args args' : List V} {σ : St} {K : V → St → Prop} (h : VCalls P f args' σ K) (hn : NEs args args') : VCalls P f args σ K := by
  refine ⟨h.1, fun A m w us hR hv => h.2 A m w us hR ⟨?_, fun i v' u h1 h2 => ?_⟩⟩
  · rw [hv.1, hn.at.1]
  · obtain ⟨v, hv'⟩ := some_of_lt (l := args) (i := i) (by rw [hn.at.1]; exact lt_of_some h1)
    exact (hn.at.2 i v v' hv' h1).vr (hv.2 i v u hv' h2)

/-- A contract's result, the same but for rows that are nil. -/
theorem VCalls.res {P : Program} {f : FuncId} {args : List V} {σ : St} {K : V → St → Prop} (h : VCalls P f args σ fun r σ' => ∃ r', NE r r' ∧ K r' σ') : VCalls P f args σ K :=
  ⟨h.1, fun A m w us hR hv => (h.2 A m w us hR hv).mono fun _ _ ⟨_, u, m', σ', h1, h2, h3, h4, r', h5, h6⟩ => ⟨r', u, m', σ', h1, h5.vr h2, h3, h4, h6⟩⟩

end Go.VL
namespace Go.VL
end Go.VL

/- Maps: one equation each, for reckoning. Conditions: none (plain theorems). -/
namespace Go.VL

theorem e_makeMap' {C : Cfg} (fr : Fr) (σ : St) (K : Fr → St → Prop) (d : Option Nat) (t ty : TypeId) (r : Option Operand) (ps : String) (af : Array Edge) (g : Option (Nat × Bool)) : ve C fr σ { dst := d, op := .makeMap t r, type := ty, pos := ps, after := af, guard := g } K =
    (r.isNone = true ∧ K (putd fr { dst := d, op := .makeMap t r, type := ty, pos := ps, after := af, guard := g } (.mp σ.length)) (σ ++ [.map []])) := rfl
def vins (C : Cfg) (fr : Fr) (σ : St) (o : Oper) (K : Fr → St → Prop) (x k v : V) : TD → Prop
  | .map kt _ => (match x with
    | .mp id => (C.T kt).known = true ∧ keyB (C.T kt) k = true ∧ v.isVal = true ∧ (match σ[id]? with
      | some (.map l) => ((l.all fun kv => sameKind k kv.1) && updB l k) = true ∧ K (putd fr o (.tup [])) (σ.set id (.map (vput l k v)))
      | _ => False)
    | _ => False)
  | _ => False
theorem e_insert' {C : Cfg} (fr : Fr) (σ : St) (K : Fr → St → Prop) (d : Option Nat) (t ty : TypeId) (x k v : Operand) (ps : String) (af : Array Edge) (g : Option (Nat × Bool)) : ve C fr σ { dst := d, op := .insert t x k v, type := ty, pos := ps, after := af, guard := g } K =
    ((C.T t).known = true ∧ vins C fr σ { dst := d, op := .insert t x k v, type := ty, pos := ps, after := af, guard := g } K (opv fr x) (opv fr k) (opv fr v) (C.T t).d) := by
  show (_ ∧ _) = _
  congr 1
  unfold vins
  cases (C.T t).d <;> try rfl
  cases opv fr x <;> rfl
theorem e_mapUpdate' {C : Cfg} (fr : Fr) (σ : St) (K : Fr → St → Prop) (d : Option Nat) (t ty : TypeId) (x k v : Operand) (ps : String) (af : Array Edge) (g : Option (Nat × Bool)) : ve C fr σ { dst := d, op := .mapUpdate t x k v, type := ty, pos := ps, after := af, guard := g } K =
    ((C.T t).known = true ∧ vins C fr σ { dst := d, op := .mapUpdate t x k v, type := ty, pos := ps, after := af, guard := g } K (opv fr x) (opv fr k) (opv fr v) (C.T t).d) := by
  show (_ ∧ _) = _
  congr 1
  unfold vins
  cases (C.T t).d <;> try rfl
  cases opv fr x <;> rfl

attribute [go_sem] e_makeMap' e_insert' e_mapUpdate' vins immV

end Go.VL

/- Drawn regions, with what waits for what told as numbers. Conditions: none (plain theorems). -/
namespace Go.VL

/-- A region that draws its order, as one walk; qd: the places of what changes nothing; an: what each one waits for, as bits. -/
theorem w_walk2 {C : Cfg} {σ0 : St} {fr : Fr} {σ : St} {Q : Exit → Fr → St → Prop} {id : Nat} {ops : Array Oper} (tl plan qd an : List Nat) (hqd : qdsts ops.toList tl = qd) (han : ancs ops.toList = an) (h : drawOK ops.toList tl plan = true) (hf : (qd.all fun d => isU (lk fr d)) = true)
    (hr : vdr C (plan.map (mkRO ops.toList tl an)) [] fr σ (Q .normal)) : vwp C σ0 (.region id ops true) fr σ Q := by
  subst han
  exact w_walk tl plan qd hqd h hf hr

/-- The same, where some of these places held something else ahead. -/
theorem w_walk3 {C : Cfg} {σ0 : St} {fr : Fr} {σ : St} {Q : Exit → Fr → St → Prop} {id : Nat} {ops : Array Oper} (tl plan qd an bl : List Nat) (hqd : qdsts ops.toList tl = qd) (han : ancs ops.toList = an) (h : drawOK ops.toList tl plan = true) (hb : bl.all (memB qd) = true) (hf : (qd.all fun d => memB bl d || isU (lk fr d)) = true)
    (hr : vdr C (plan.map (mkRO ops.toList tl an)) [] (blanks bl ++ fr) σ (Q .normal)) : vwp C σ0 (.region id ops true) fr σ Q := by
  subst han
  simp only [drawOK, Bool.and_eq_true, List.all_eq_true] at h
  obtain ⟨⟨hp, hs⟩, hc⟩ := h
  subst hqd
  refine w_draw tl plan hp ?_
  simp only [planOK, Bool.and_eq_true, List.all_eq_true, Bool.not_eq_true'] at hp
  obtain ⟨⟨⟨⟨_, h2⟩, h3⟩, h4⟩, h5⟩ := hp
  have td : ∀ j d, memB tl j = true → gslot ops.toList j = some d → d ∉ qdsts ops.toList tl := fun j d hj hg hm => by
    have := h4 d (List.mem_filterMap.2 ⟨j, (memB_iff _ _).1 hj, hg⟩)
    rw [(memB_iff _ _).2 hm] at this
    cases this
  have hlk : ∀ t, lk (blanks bl ++ fr) t = lk (blanks (qdsts ops.toList tl) ++ fr) t := by
    intro t
    rcases lk_blanks (l := qdsts ops.toList tl) (fr := fr) (t := t) with ⟨ht, h⟩ | ⟨ht, h⟩
    · rw [h]
      rcases lk_blanks (l := bl) (fr := fr) (t := t) with ⟨_, h'⟩ | ⟨hn, h'⟩
      · exact h'
      · rw [h']
        have := List.all_eq_true.1 hf t ht
        rw [Bool.or_eq_true] at this
        rcases this with this | this
        · exact absurd ((memB_iff _ _).1 this) hn
        · generalize lk fr t = v at this
          cases v <;> first | rfl | cases this
    · rw [h]
      rcases lk_blanks (l := bl) (fr := fr) (t := t) with ⟨hn, _⟩ | ⟨_, h'⟩
      · exact absurd ((memB_iff _ _).1 (List.all_eq_true.1 hb t hn)) ht
      · exact h'
  refine vdr_vrun (nodupB_iff _ h3) td h5 (nodupB_iff _ h2) hs (fun fr fr' σ he hq => ⟨fr, σ, .frame _ _ _ fun t => .inl (he t).symm, hq⟩) plan [] [] [] _ (blanks bl ++ fr) σ 0 rfl ⟨List.nodup_nil, fun j v h => (by simp [lkd] at h), fun j hj => (by cases hj), fun t => ?_, fun t ht => ?_, fun p hp => ?_, fun j v d h => (by simp [lkd] at h)⟩ (fun p hp => (by cases hp)) hc (fun j v h => (by simp [lkd] at h)) hr
  · exact hlk t
  · rcases lk_blanks (l := qdsts ops.toList tl) (fr := fr) (t := t) with ⟨_, h⟩ | ⟨h, _⟩
    · exact h
    · exact absurd ht h
  · rcases List.mem_append.1 hp with h | h
    · obtain ⟨d, _, rfl⟩ := List.mem_map.1 h
      exact .inl rfl
    · exact .inr (by simp [h])

/-- A walk through a list of operations, from what is told of it. -/
theorem walk_run {C : Cfg} {fr : Fr} {σ : St} (ops : List Oper) (tl plan qd bl : List Nat) (hqd : qdsts ops tl = qd) (h : drawOK ops tl plan = true) (hb : bl.all (memB qd) = true) (hf : (qd.all fun d => memB bl d || isU (lk fr d)) = true)
    {R Qv : Fr → St → Prop} (hQ : ∀ fr fr' σ, (∀ t, lk fr' t = lk fr t) → R fr σ → Qv fr' σ) (hr : vdr C (plan.map (mkRO ops tl (ancs ops))) [] (blanks bl ++ fr) σ R) : planOK ops tl plan = true ∧ vrun C ops tl plan [] (blanks (qdsts ops tl) ++ fr) σ Qv := by
  simp only [drawOK, Bool.and_eq_true, List.all_eq_true] at h
  obtain ⟨⟨hp, hs⟩, hc⟩ := h
  subst hqd
  refine ⟨hp, ?_⟩
  simp only [planOK, Bool.and_eq_true, List.all_eq_true, Bool.not_eq_true'] at hp
  obtain ⟨⟨⟨⟨_, h2⟩, h3⟩, h4⟩, h5⟩ := hp
  have td : ∀ j d, memB tl j = true → gslot ops j = some d → d ∉ qdsts ops tl := fun j d hj hg hm => by
    have := h4 d (List.mem_filterMap.2 ⟨j, (memB_iff _ _).1 hj, hg⟩)
    rw [(memB_iff _ _).2 hm] at this
    cases this
  have hlk : ∀ t, lk (blanks bl ++ fr) t = lk (blanks (qdsts ops tl) ++ fr) t := by
    intro t
    rcases lk_blanks (l := qdsts ops tl) (fr := fr) (t := t) with ⟨ht, h⟩ | ⟨ht, h⟩
    · rw [h]
      rcases lk_blanks (l := bl) (fr := fr) (t := t) with ⟨_, h'⟩ | ⟨hn, h'⟩
      · exact h'
      · rw [h']
        have := List.all_eq_true.1 hf t ht
        rw [Bool.or_eq_true] at this
        rcases this with this | this
        · exact absurd ((memB_iff _ _).1 this) hn
        · generalize lk fr t = v at this
          cases v <;> first | rfl | cases this
    · rw [h]
      rcases lk_blanks (l := bl) (fr := fr) (t := t) with ⟨hn, _⟩ | ⟨_, h'⟩
      · exact absurd ((memB_iff _ _).1 (List.all_eq_true.1 hb t hn)) ht
      · exact h'
  refine vdr_vrun (nodupB_iff _ h3) td h5 (nodupB_iff _ h2) hs hQ plan [] [] [] _ (blanks bl ++ fr) σ 0 rfl ⟨List.nodup_nil, fun j v h => (by simp [lkd] at h), fun j hj => (by cases hj), fun t => ?_, fun t ht => ?_, fun p hp => ?_, fun j v d h => (by simp [lkd] at h)⟩ (fun p hp => (by cases hp)) hc (fun j v h => (by simp [lkd] at h)) hr
  · exact hlk t
  · rcases lk_blanks (l := qdsts ops tl) (fr := fr) (t := t) with ⟨_, h⟩ | ⟨h, _⟩
    · exact h
    · exact absurd ht h
  · rcases List.mem_append.1 hp with h | h
    · obtain ⟨d, _, rfl⟩ := List.mem_map.1 h
      exact .inl rfl
    · exact .inr (by simp [h])

/-! Some changes in any order -/
def insB (x : Nat) (l : List Nat) : List (List Nat) := (List.range (l.length + 1)).map fun i => l.take i ++ x :: l.drop i
def permsB : List Nat → List (List Nat)
  | [] => [[]]
  | x :: S => (permsB S).flatMap (insB x)
theorem permsB_all : ∀ {S τ : List Nat}, τ.Perm S → τ ∈ permsB S
  | [], τ, h => by rw [h.eq_nil]; simp [permsB]
  | x :: S, τ, h => by
    obtain ⟨u, v, rfl⟩ := List.append_of_mem (h.mem_iff.2 (List.mem_cons_self ..) : x ∈ τ)
    have h2 : (u ++ v).Perm S := (List.perm_middle.symm.trans h).cons_inv
    refine List.mem_flatMap.2 ⟨u ++ v, permsB_all h2, List.mem_map.2 ⟨u.length, List.mem_range.2 (by simp; omega), ?_⟩⟩
    simp

def moreR (es : List (Nat × Nat)) (r : RO) : RO := { r with o := More r.o (newAfter es r.i) }
theorem ve_more {C : Cfg} (fr : Fr) (σ : St) (o : Oper) (es : Array Edge) (K : Fr → St → Prop) (h : ve C fr σ o K) : ve C fr σ (More o es) K := h
theorem prune_more (an : Nat) (es : List (Nat × Nat)) : ∀ fl : List (RO × V), prune an (fl.map fun p => (moreR es p.1, p.2)) = (prune an fl).map fun p => (moreR es p.1, p.2)
  | [] => rfl
  | p :: r => by
    simp only [List.map_cons, prune]
    rw [prune_more an es r]
    show (bif bitB an p.1.i then _ else _) = _
    cases bitB an p.1.i <;> rfl
theorem vagain_more {C : Cfg} (an : Nat) (es : List (Nat × Nat)) (fr : Fr) (σ : St) (fr' : Fr) (σ' : St) : ∀ fl : List (RO × V), vagain C an fr σ fr' σ' fl → vagain C an fr σ fr' σ' (fl.map fun p => (moreR es p.1, p.2))
  | [], _ => trivial
  | p :: r, h => ⟨h.1, vagain_more an es fr σ fr' σ' r h.2⟩
theorem vqx_mono {C : Cfg} {fr : Fr} {σ : St} {op : Op} {K K' : V → Prop} (hk : ∀ v, K v → K' v) (h : vqg C fr σ none op K) : vqg C fr σ none op K' := by
  have h' : vqp C fr σ op K := h
  obtain ⟨v, h1, h2⟩ := vqp_vq1 (o := { dst := none, op := op, type := 0, pos := "", after := #[], guard := none }) (M := fr) (fun x _ => ⟨rfl, fun _ _ _ _ h => h⟩) h'
  show vqp C fr σ op K'
  by_cases hc : ∃ f args ats, op = .call { callee := .value f, args := args, argTypes := ats }
  · obtain ⟨f, args, ats, rfl⟩ := hc
    unfold vqp at h' ⊢
    simp only at h' ⊢
    cases hX : opv fr f <;> rw [hX] at h' <;> (try simp only [pfn] at h' ⊢) <;> try exact h'.elim
    rename_i g first cap
    cases g <;> (try simp only [pfn] at h' ⊢) <;> try exact h'.elim
    obtain ⟨h1, v, h2, h3⟩ := h'
    exact ⟨h1, v, h2, hk _ h3⟩
  · have e1 : ∀ K, vqp C fr σ op K = vqx C fr σ op K := by
      intro K
      unfold vqp
      split
      · rename_i f args ats
        exact absurd ⟨f, args, ats, rfl⟩ hc
      · rfl
    rw [e1] at h' ⊢
    obtain ⟨v, h1, h2⟩ := d_vqx (M := fr) (fun x _ => ⟨rfl, fun _ _ _ _ h => h⟩) K h'
    exact h2 _ (hk _ h1)
theorem vqg_mono {C : Cfg} {fr : Fr} {σ : St} {g : Option (Nat × Bool)} {op : Op} {K K' : V → Prop} (hk : ∀ v, K v → K' v) (h : vqg C fr σ g op K) : vqg C fr σ g op K' := by
  cases g with
  | none => exact vqx_mono hk h
  | some p =>
    obtain ⟨d, want⟩ := p
    unfold vqg vgd at h ⊢
    simp only at h ⊢
    generalize lk fr d = b at h ⊢
    cases b <;> (try simp only at h ⊢) <;> try exact h.elim
    case bool b =>
      cases hb : b == want with
      | true => rw [hb] at h; exact vqx_mono hk h
      | false => rw [hb] at h; exact hk _ h
    case tup l => cases l <;> (try simp only at h ⊢) <;> first | exact hk _ h | exact h.elim
theorem vdr_more {C : Cfg} {Q : Fr → St → Prop} (es : List (Nat × Nat)) : ∀ (rs : List RO) (fl : List (RO × V)) (fr : Fr) (σ : St), vdr C rs fl fr σ Q → vdr C (rs.map (moreR es)) (fl.map fun p => (moreR es p.1, p.2)) fr σ Q
  | [], fl, fr, σ, h => h
  | r :: rs, fl, fr, σ, h => by
    simp only [List.map_cons, vdr] at h ⊢
    show (bif r.t then _ else _)
    cases ht : r.t with
    | true =>
      rw [ht] at h
      simp only [cond_true] at h ⊢
      refine ⟨h.1, h.2.1, ve_more _ _ _ _ _ (ve_mono (fun fr' σ' hk => ?_) h.2.2)⟩
      refine ⟨vagain_more _ es _ _ _ _ fl hk.1, ?_⟩
      have := vdr_more es rs _ fr' σ' hk.2
      rw [← prune_more] at this
      exact this
    | false =>
      rw [ht] at h
      simp only [cond_false] at h ⊢
      exact vqg_mono (fun v hk => ⟨hk.1, vdr_more es rs ((r, v) :: fl) _ σ hk.2⟩) h

theorem gslot_more (es : List (Nat × Nat)) (ops : List Oper) (j : Nat) : gslot (addE es ops 0) j = gslot ops j := by
  unfold gslot
  rw [addE_get]
  cases ops[j]? <;> rfl
theorem mkRO_more (es : List (Nat × Nat)) {ops : List Oper} {tl an : List Nat} {i : Nat} (h : i < ops.length) : mkRO (addE es ops 0) tl an i = moreR es (mkRO ops tl an i) := by
  have ho : ops[i]? = some ops[i] := List.getElem?_eq_getElem h
  have e1 : (mkRO ops tl an i).o = ops[i] := mkRO_o ho
  have e2 : (mkRO (addE es ops 0) tl an i).o = More ops[i] (newAfter es i) := mkRO_o (by rw [addE_get, ho]; simp)
  have e3 : (mkRO ops tl an i).g = rg ops ops[i] := by simp [mkRO, List.getD_eq_getElem?_getD, ho]
  have e4 : (mkRO (addE es ops 0) tl an i).g = rg (addE es ops 0) (More ops[i] (newAfter es i)) := by simp [mkRO, List.getD_eq_getElem?_getD, addE_get, ho]
  have e5 : rg (addE es ops 0) (More ops[i] (newAfter es i)) = rg ops ops[i] := by
    unfold rg
    show (match (ops[i]).guard with | some (j, want) => _ | none => _) = _
    cases (ops[i]).guard with
    | none => rfl
    | some p => simp only [gslot_more]
  show RO.mk i (mkRO (addE es ops 0) tl an i).o (memB tl i) (an.getD i 0) (mkRO (addE es ops 0) tl an i).g = RO.mk i (More (mkRO ops tl an i).o (newAfter es i)) (memB tl i) (an.getD i 0) (mkRO ops tl an i).g
  rw [e1, e2, e3, e4, e5]

theorem qdstsGo_more (es : List (Nat × Nat)) (tl : List Nat) : ∀ (ops : List Oper) (k k' : Nat), qdstsGo tl (addE es ops k') k = qdstsGo tl ops k
  | [], _, _ => rfl
  | o :: os, k, k' => by simp only [addE, qdstsGo, qdstsGo_more es tl os]

theorem plan_lt {ops : List Oper} {tl plan : List Nat} (h : planOK ops tl plan = true) : ∀ i ∈ plan, i < ops.length := by
  intro i hi
  simp only [planOK, Bool.and_eq_true] at h
  obtain ⟨u, v, rfl⟩ := List.append_of_mem hi
  obtain ⟨o, hp⟩ := Go.VL.placed h.2 rfl
  exact lt_of_some hp.at_

/-- A region where some changes come in any order: each order as one walk; then from what is known behind all of them. -/
theorem w_walkP {C : Cfg} {σ0 : St} {fr : Fr} {σ : St} {Q : Exit → Fr → St → Prop} {id : Nat} {ops : Array Oper} {α : Type} (P : α → Prop) (F : α → Fr) (G : α → St) (S tl qd bl : List Nat) (cs : List (List Nat × List Nat × List Nat)) (hS : nodupB S = true)
    (hall : ((permsB S).all fun τ => cs.any fun c => c.1 == τ) = true) (hcs : (cs.all fun c => drawOK (chainO c.1 ops.toList) tl c.2.1 && (ancs (chainO c.1 ops.toList) == c.2.2)) = true) (hqd : qdsts ops.toList tl = qd) (hb : bl.all (memB qd) = true) (hf : (qd.all fun d => memB bl d || isU (lk fr d)) = true)
    (hr : ∀ c ∈ cs, vdr C (c.2.1.map (mkRO ops.toList tl c.2.2)) [] (blanks bl ++ fr) σ fun fr' σ' => ∃ x, P x ∧ Keeps (F x) fr' ∧ σ' = G x) (hk : ∀ x, P x → Q .normal (F x) (G x)) : vwp C σ0 (.region id ops true) fr σ Q := by
  refine w_drawAny S (nodupB_iff _ hS) fun τ hτ => ?_
  have h1 := List.all_eq_true.1 hall τ (permsB_all hτ)
  obtain ⟨c, hc, h2⟩ := List.any_eq_true.1 h1
  have h2 : c.1 = τ := by simpa using h2
  subst h2
  have h3 := List.all_eq_true.1 hcs c hc
  simp only [Bool.and_eq_true] at h3
  obtain ⟨h3, h4⟩ := h3
  have h4 : ancs (chainO c.1 ops.toList) = c.2.2 := by simpa using h4
  have hq : qdsts (chainO c.1 ops.toList) tl = qd := by
    rw [← hqd]
    cases c.1 with
    | nil => rfl
    | cons x r => exact qdstsGo_more _ tl _ 0 0
  refine ⟨tl, c.2.1, walk_run (chainO c.1 ops.toList) tl c.2.1 qd bl hq h3 hb hf (R := fun fr' σ' => ∃ x, P x ∧ Keeps (F x) fr' ∧ σ' = G x) (fun fr1 fr2 σ1 he h => ?_) ?_⟩
  · obtain ⟨x, hx, hkp, rfl⟩ := h
    refine ⟨F x, G x, .frame _ _ _ fun t => ?_, hk x hx⟩
    rcases keeps_lk hkp t with e | e
    · exact .inl (by rw [e, he])
    · exact .inr e
  · have := hr c hc
    rw [h4]
    cases hc1 : c.1 with
    | nil => exact this
    | cons x r =>
      have hpl : planOK (addE (edgesOf (x :: r)) ops.toList 0) tl c.2.1 = true := by
        rw [hc1] at h3
        simp only [drawOK, Bool.and_eq_true] at h3
        exact h3.1.1
      have h5 := vdr_more (edgesOf (x :: r)) _ _ _ _ this
      rw [List.map_map] at h5
      have h6 : c.2.1.map (mkRO (addE (edgesOf (x :: r)) ops.toList 0) tl c.2.2) = c.2.1.map (moreR (edgesOf (x :: r)) ∘ mkRO ops.toList tl c.2.2) := List.map_congr_left fun i hi => mkRO_more _ (by
        have := plan_lt hpl i hi
        rw [addE_size] at this
        exact this)
      show vdr C (c.2.1.map (mkRO (addE (edgesOf (x :: r)) ops.toList 0) tl c.2.2)) _ _ _ _
      rw [h6]
      exact h5

/-- What is known otherwise ahead of a loop. -/
theorem loop_ghost {C : Cfg} {σ0 : St} {fr fr1 : Fr} {σ σ1 : St} {Q : Exit → Fr → St → Prop} {c : Code} (g : Ghost σ0 fr σ fr1 σ1) (h : vwp C σ0 (.loop c) fr1 σ1 Q) : vwp C σ0 (.loop c) fr σ Q := by
  obtain ⟨I, ⟨n, fr2, σ2, g2, hI⟩, h⟩ := h
  exact ⟨I, ⟨n, fr2, σ2, .trans _ _ _ _ _ _ g g2, hI⟩, h⟩
/-- A row that is nil is laid down as one that grows. -/
theorem loop_adopt {C : Cfg} {σ0 : St} {fr : Fr} {σ : St} {Q : Exit → Fr → St → Prop} {c : Code} (t sz n : Nat) {cl : Bool} {z : Nat} (ht : lk fr t = .sl true cl z []) (hn : σ.length = n) (h : vwp C σ0 (.loop c) ((t, .rsl n 0 0 0) :: fr) (σ ++ [.arr true 0 sz []]) Q) : vwp C σ0 (.loop c) fr σ Q := by
  subst hn
  exact loop_ghost (.adopt _ _ t sz cl z ht) h
/-- The same for a row in a variable's field. -/
theorem loop_adoptF {C : Cfg} {σ0 : St} {fr : Fr} {σ : St} {Q : Exit → Fr → St → Prop} {c : Code} (t i sz n : Nat) {cs : List V} {cl : Bool} {z : Nat} (ht : lk fr t = .cell cs) (hc : cs[i]? = some (.sl true cl z [])) (hn : σ.length = n) (h : vwp C σ0 (.loop c) ((t, .cell (cs.set i (.rsl n 0 0 0))) :: fr) (σ ++ [.arr true 0 sz []]) Q) : vwp C σ0 (.loop c) fr σ Q := by
  subst hn
  exact loop_ghost (.adoptF _ _ t i sz cs cl z ht hc) h
/-- The same for a row in an object's field. -/
theorem loop_adoptO {C : Cfg} {σ0 : St} {fr : Fr} {σ : St} {Q : Exit → Fr → St → Prop} {c : Code} (k i sz n : Nat) {cs : List V} {cl : Bool} {z : Nat} (ho : σ[k]? = some (.box cs)) (hc : cs[i]? = some (.sl true cl z [])) (hn : σ.length = n) (h : vwp C σ0 (.loop c) fr ((σ ++ [VO.arr true 0 sz []]).set k (VO.box (cs.set i (.rsl n 0 0 0)))) Q) : vwp C σ0 (.loop c) fr σ Q := by
  subst hn
  exact loop_ghost (.adoptO _ _ k i sz cs cl z ho hc) h
theorem len_app1 (σ : St) (x : VO) : (σ ++ [x]).length = σ.length + 1 := by simp
theorem o_alloc (t : TypeId) : (Op.alloc t).operands.toList = [] := rfl
theorem o_store (t : TypeId) (a v : Operand) : (Op.store t a v).operands.toList = [a, v] := rfl
theorem o_box (t : TypeId) (x : Operand) : (Op.box t x).operands.toList = [x] := rfl
theorem o_makeMap (t : TypeId) : (Op.makeMap t none).operands.toList = [] := rfl
theorem o_insert (t : TypeId) (a k v : Operand) : (Op.insert t a k v).operands.toList = [a, k, v] := rfl
theorem o_mapUpdate (t : TypeId) (a k v : Operand) : (Op.mapUpdate t a k v).operands.toList = [a, k, v] := rfl
theorem o_move (x : Operand) : (Op.move x).operands.toList = [x] := rfl
theorem o_assign (x : Operand) : (Op.assign x).operands.toList = [x] := rfl
theorem o_load (t : TypeId) (x : Operand) : (Op.load t x).operands.toList = [x] := rfl
theorem o_unOp (u : UnOp) (t : TypeId) (x : Operand) : (Op.unOp u t x).operands.toList = [x] := rfl
theorem o_convert (s d : TypeId) (x : Operand) : (Op.convert s d x).operands.toList = [x] := rfl
theorem o_fieldAddr (t : TypeId) (x : Operand) (i : Nat) : (Op.fieldAddr t x i).operands.toList = [x] := rfl
theorem o_field (t : TypeId) (x : Operand) (i : Nat) : (Op.field t x i).operands.toList = [x] := rfl
theorem o_extract (x : Operand) (i : Nat) : (Op.extract x i).operands.toList = [x] := rfl
theorem o_nilCheck (x : Operand) : (Op.nilCheck x).operands.toList = [x] := rfl
theorem o_pick (a b c : Operand) : (Op.pick a b c).operands.toList = [a, b, c] := rfl
theorem o_binOp (o : BinOp) (t u : TypeId) (a b : Operand) : (Op.binOp o t a b u).operands.toList = [a, b] := rfl
theorem o_indexAddr (t : TypeId) (a b : Operand) : (Op.indexAddr t a b).operands.toList = [a, b] := rfl
theorem o_index (t : TypeId) (a b : Operand) : (Op.index t a b).operands.toList = [a, b] := rfl
theorem o_lookup (t : TypeId) (a b : Operand) (ok : Bool) : (Op.lookup t a b ok).operands.toList = [a, b] := rfl
theorem o_build (t : TypeId) (ps : Array (Nat × Operand)) : (Op.build t ps).operands.toList = ps.toList.map (·.2) := rfl
theorem o_buildSlice (t : TypeId) (n : Nat) (ps : Array (Nat × Operand)) : (Op.buildSlice t n ps).operands.toList = ps.toList.map (·.2) := rfl
theorem o_makeFunc (f : Fn) (a b : Array Operand) : (Op.makeFunc f a b).operands.toList = a.toList ++ b.toList := by simp [Op.operands]
theorem o_callV (f : Operand) (a : Array Operand) (ts : Array TypeId) : (Op.call { callee := .value f, args := a, argTypes := ts }).operands.toList = f :: a.toList := by simp [Op.operands, Call.operands]
theorem o_callB (b : Builtin) (a : Array Operand) (ts : Array TypeId) : (Op.call { callee := .builtin b, args := a, argTypes := ts }).operands.toList = a.toList := by simp [Op.operands, Call.operands]
theorem o_slice (t : TypeId) (x : Operand) (l h m : Option Operand) : (Op.slice t x l h m).operands.toList = x :: (l.toList ++ h.toList ++ m.toList) := by
  cases l <;> cases h <;> cases m <;> rfl

attribute [go_sem] o_alloc o_store o_box o_makeMap o_insert o_mapUpdate o_move o_assign o_load o_unOp o_convert o_fieldAddr o_field o_extract o_nilCheck o_pick o_binOp o_indexAddr o_index o_lookup o_build o_buildSlice o_makeFunc o_callV o_callB o_slice
attribute [go_sem] Nat.reduceShiftRight Nat.reduceAnd Nat.reduceBneDiff Nat.reduceBeqDiff Int.reduceBEq Int.reduceBNe
attribute [go_sem] Bool.false_and Bool.and_false List.isEmpty_cons List.isEmpty_nil
attribute [go_sem] blanks bitB Nat.testBit Option.toList_some Option.toList_none

end Go.VL
namespace Go.VL
/-- A loop is left, where something is known otherwise from then on. -/
theorem l_exit' {σ0 : St} {fr fr1 : Fr} {σ σ1 : St} {Q : Exit → Fr → St → Prop} {I : Nat → Fr → St → Prop} {n id : Nat} (g : Ghost σ0 fr σ fr1 σ1) (h : Q (.exit id) fr1 σ1) : lpost σ0 I n Q (.exit id) fr σ := ⟨_, _, g, h⟩
end Go.VL

/- Plain data: what is read as data of a shape is values without memory of that shape. Conditions: none (plain theorems over any program). -/
namespace Go.VL
open Go.ChangeShapes Go.WideShapes Go.Deep Go.RowKit

/-- A shape: 'nil' and 'pair' are a struct's fields, one behind the other. -/
inductive Sh where
  | bool
  | int (k : IntKind)
  | str
  | sl (e : Sh)
  | st (p : Sh)
  | nil
  | pair (a b : Sh)
  | arr (n : Nat) (e : Sh)

def Sh.size : Sh → Nat
  | .bool | .int _ | .str | .sl _ => 1
  | .st p => p.size
  | .nil => 0
  | .pair a b => a.size + b.size
  | .arr n e => n * e.size
def Sh.isAgg : Sh → Bool
  | .st _ | .arr _ _ => true
  | _ => false
def isAggV : V → Bool
  | .agg _ => true
  | _ => false

mutual
def shT (P : Program) : Sh → TypeId → Bool
  | .bool, t => Nat.beq (P.cellsOf t) 1 && (match P.underlying t with | some .bool => true | _ => false)
  | .int k, t => Nat.beq (P.cellsOf t) 1 && (match P.underlying t with | some (.int k') => k' == k | _ => false)
  | .str, t => Nat.beq (P.cellsOf t) 1 && (match P.underlying t with | some .string => true | _ => false)
  | .sl e, t => Nat.beq (P.cellsOf t) 1 && (match P.underlying t with | some (.slice u) => Nat.ble 1 (P.bytesOf u) && shT P e u | _ => false)
  | .st p, t => Nat.beq (P.cellsOf t) p.size && (match P.underlying t with | some (.struct fs) => shF P p fs.toList 0 | _ => false)
  | .arr n e, t => Nat.beq (P.cellsOf t) (n * e.size) && (match P.underlying t with | some (.array m u) => Nat.beq m n && shT P e u | _ => false)
  | .nil, _ => false
  | .pair _ _, _ => false
def shF (P : Program) : Sh → List Field → Nat → Bool
  | .nil, [], _ => true
  | .pair a b, f :: fs, off => Nat.beq f.offset off && shT P a f.type && shF P b fs (off + a.size)
  | _, _, _ => false
end

def shV : Sh → List V → Prop
  | .bool, cs => ∃ b, cs = [.bool b]
  | .int k, cs => ∃ n, cs = [.int k n] ∧ (Lit.int k n).wf = true
  | .str, cs => ∃ s : ByteArray, cs = [.str s] ∧ s.size ≤ maxLen
  | .sl e, cs => cs = [.sl true false e.size []] ∨ ∃ es, cs = [.sl false false e.size es] ∧ es.length ≤ reachBytes ∧ ∀ x ∈ es, isAggV x = e.isAgg ∧ shV e x.cells
  | .st p, cs => shV p cs
  | .nil, cs => cs = []
  | .pair a b, cs => ∃ x y, cs = x ++ y ∧ shV a x ∧ shV b y
  | .arr n e, cs => ∃ ps : List (List V), cs = ps.flatten ∧ ps.length = n ∧ ∀ x ∈ ps, shV e x

def mkEl (e : Sh) (vs : List V) : V := bif e.isAgg then .agg vs else vs.headD .undef

theorem mkEl_cells {P : Program} {e : Sh} {t : TypeId} {vs : List V} (ht : shT P e t = true) (h : shV e vs) : (mkEl e vs).cells = vs ∧ isAggV (mkEl e vs) = e.isAgg := by
  cases e with
  | bool => obtain ⟨b, rfl⟩ := h; exact ⟨rfl, rfl⟩
  | int k => obtain ⟨b, rfl, _⟩ := h; exact ⟨rfl, rfl⟩
  | str => obtain ⟨b, rfl, _⟩ := h; exact ⟨rfl, rfl⟩
  | sl e =>
    rcases h with rfl | ⟨es, rfl, _⟩
    · exact ⟨rfl, rfl⟩
    · exact ⟨rfl, rfl⟩
  | st p => exact ⟨rfl, rfl⟩
  | arr n e => exact ⟨rfl, rfl⟩
  | nil => simp [shT] at ht
  | pair a b => simp [shT] at ht

theorem shT_size {P : Program} {s : Sh} {t : TypeId} (h : shT P s t = true) : P.cellsOf t = s.size := by
  cases s <;> simp only [shT, Bool.and_eq_true, Bool.false_eq_true] at h <;> exact Nat.eq_of_beq_eq_true h.1

section
variable {H : Type} {enc : TypeId × Value → H} {P : Program} {w : World} {sp : Nat → Bool} {held : Bool} {B : Nat → Prop}

def CellsR (w : World) (B : Nat → Prop) (vs : List V) (cs : List Value) : Prop :=
  vs.length = cs.length ∧ ∀ (i : Nat) v u, vs[i]? = some v → cs[i]? = some u → VI w B v u ∧ u.oneCell' = true

theorem CellsR.one {v : V} {u : Value} (h : VI w B v u) (ho : u.oneCell' = true) : CellsR w B [v] [u] := by
  refine ⟨rfl, fun i v' u' h1 h2 => ?_⟩
  cases i with
  | zero => simp at h1 h2; rw [← h1, ← h2]; exact ⟨h, ho⟩
  | succ i => simp at h1
theorem CellsR.app {vs vs' : List V} {cs cs' : List Value} (h : CellsR w B vs cs) (h' : CellsR w B vs' cs') : CellsR w B (vs ++ vs') (cs ++ cs') := by
  refine ⟨by simp [h.1, h'.1], fun i v u h1 h2 => ?_⟩
  by_cases hi : i < vs.length
  · rw [List.getElem?_append_left hi] at h1
    rw [List.getElem?_append_left (by rw [← h.1]; exact hi)] at h2
    exact h.2 i v u h1 h2
  · rw [List.getElem?_append_right (by omega)] at h1
    rw [List.getElem?_append_right (by rw [← h.1]; omega), ← h.1] at h2
    exact h'.2 _ v u h1 h2

theorem take_add' {α : Type} (l : List α) (off m n : Nat) (h : off + (m + n) = l.length) : l.drop off = (l.drop off).take m ++ l.drop (off + m) := by
  conv => lhs; rw [← List.take_append_drop m (l.drop off)]
  rw [List.drop_drop]

theorem el_of {P : Program} {e : Sh} {t : TypeId} {vs : List V} {cs : List Value} (ht : shT P e t = true) (h : shV e vs) (hr : CellsR w B vs cs) (hl : cs.length = e.size) : isAggV (mkEl e vs) = e.isAgg ∧ shV e (mkEl e vs).cells ∧ (mkEl e vs).cells.length = e.size ∧ (mkEl e vs).cells = vs := by
  obtain ⟨h1, h2⟩ := mkEl_cells ht h
  exact ⟨h2, by rw [h1]; exact h, by rw [h1, hr.1, hl], h1⟩

theorem flat_chunks {α : Type} (n : Nat) : ∀ (k : Nat) (l : List α), l.length = k * n → l = ((List.range k).map fun i => (l.drop (i * n)).take n).flatten
  | 0, l, h => by
    have : l = [] := List.eq_nil_of_length_eq_zero (by omega)
    subst this
    rfl
  | k + 1, l, h => by
    rw [List.range_succ_eq_map, List.map_cons, List.flatten_cons, List.map_map]
    have ih := flat_chunks n k (l.drop n) (by rw [List.length_drop, h, Nat.succ_mul]; omega)
    have e : (List.range k).map ((fun i => (l.drop (i * n)).take n) ∘ Nat.succ) = (List.range k).map fun i => ((l.drop n).drop (i * n)).take n := List.map_congr_left fun i _ => by
      simp only [Function.comp, List.drop_drop]
      congr 2
      rw [Nat.succ_mul]; omega
    rw [e, ← ih]
    simp

theorem CellsR.flat {n : Nat} : ∀ (pv : List (List V)) (pc : List (List Value)), pv.length = pc.length → (∀ (i : Nat) a b, pv[i]? = some a → pc[i]? = some b → CellsR w B a b) → CellsR w B pv.flatten pc.flatten
  | [], [], _, _ => ⟨rfl, fun i v u h => by simp at h⟩
  | a :: pv, b :: pc, hl, h => by
    rw [List.flatten_cons, List.flatten_cons]
    exact (h 0 a b rfl rfl).app (CellsR.flat (n := n) pv pc (by simpa using hl) fun i x y h1 h2 => h (i + 1) x y (by simpa using h1) (by simpa using h2))
  | [], _ :: _, hl, _ => by simp at hl
  | _ :: _, [], hl, _ => by simp at hl

theorem all_weights {P : Program} {e : TypeId} {d : DataW H} : ∀ {l : List (DataW H)}, (DataW.weightsAll P e l).all (· ≤ reachBytes) = true → d ∈ l → (d.weights P e).all (· ≤ reachBytes) = true
  | [], _, h => by cases h
  | x :: l, h, hd => by
    simp only [DataW.weightsAll, List.all_append, Bool.and_eq_true] at h
    rcases List.mem_cons.1 hd with rfl | hd
    · exact h.1
    · exact all_weights h.2 hd

theorem trod_V (hB : ∀ b, ¬ B b) (s : Sh) :
    (∀ (t : TypeId) (fuel : Nat) (cs : List Value) (x : DataW H × List MemPlace), shT P s t = true → DataW.trod enc P w 0 sp held fuel t cs = some x → (x.1.weights P t).all (· ≤ reachBytes) = true → ∃ vs, shV s vs ∧ CellsR w B vs cs ∧ cs.length = s.size) ∧
    (∀ (fs : List Field) (off fuel : Nat) (cs : List Value), shF P s fs off = true → off + s.size = cs.length →
      (∀ (i : Nat) f, fs[i]? = some f → ∃ y : DataW H × List MemPlace, DataW.trod enc P w 0 sp held fuel f.type ((cs.drop f.offset).take (P.cellsOf f.type)) = some y ∧ (y.1.weights P f.type).all (· ≤ reachBytes) = true) → ∃ vs, shV s vs ∧ CellsR w B vs (cs.drop off)) := by
  induction s with
  | bool =>
    refine ⟨fun t fuel cs x ht h hw => ?_, fun fs off fuel cs hf => (by simp [shF] at hf)⟩
    simp only [shT, Bool.and_eq_true] at ht
    cases hu : P.underlying t with
    | none => rw [hu] at ht; simp at ht
    | some d =>
      rw [hu] at ht
      cases d <;> simp only [Bool.false_eq_true, and_false] at ht
      obtain ⟨b, rfl, _⟩ := DataW.trod_bool hu h
      exact ⟨_, ⟨b, rfl⟩, .one (.bool b) rfl, rfl⟩
  | int k =>
    refine ⟨fun t fuel cs x ht h hw => ?_, fun fs off fuel cs hf => (by simp [shF] at hf)⟩
    simp only [shT, Bool.and_eq_true] at ht
    cases hu : P.underlying t with
    | none => rw [hu] at ht; simp at ht
    | some d =>
      rw [hu] at ht
      cases d <;> simp only [Bool.false_eq_true, and_false] at ht
      rename_i k'
      have e : k' = k := by simpa using ht.2
      subst e
      obtain ⟨n, rfl, _, hw⟩ := DataW.trod_int hu h
      exact ⟨_, ⟨n, rfl, hw⟩, .one (.int k' n) rfl, rfl⟩
  | str =>
    refine ⟨fun t fuel cs x ht h hw => ?_, fun fs off fuel cs hf => (by simp [shF] at hf)⟩
    simp only [shT, Bool.and_eq_true] at ht
    cases hu : P.underlying t with
    | none => rw [hu] at ht; simp at ht
    | some d =>
      rw [hu] at ht
      cases d <;> simp only [Bool.false_eq_true, and_false] at ht
      obtain ⟨s, rfl, _, hs⟩ := DataW.trod_string hu h
      exact ⟨_, ⟨s, rfl, hs⟩, .one (.str s) rfl, rfl⟩
  | sl e ih =>
    refine ⟨fun t fuel cs x ht h hw => ?_, fun fs off fuel cs hf => (by simp [shF] at hf)⟩
    simp only [shT, Bool.and_eq_true] at ht
    cases hu : P.underlying t with
    | none => rw [hu] at ht; simp at ht
    | some d =>
      rw [hu] at ht
      cases d <;> simp only [Bool.false_eq_true, and_false] at ht
      rename_i u
      simp only [Bool.and_eq_true] at ht
      obtain ⟨ht1, hby, ht2⟩ := ht
      replace ht : True ∧ shT P e u = true := ⟨trivial, ht2⟩
      have hsz := shT_size ht.2
      rcases open_slice hu h with ⟨rfl, _⟩ | ⟨a, len, cap, m, n, D, Pl, rfl, _, hlc, hcm, hm, rfl, hel⟩
      · exact ⟨_, .inl rfl, .one (.sl0 false e.size) rfl, rfl⟩
      · have hlm : len ≤ m := by rw [hm]; split <;> omega
        simp only [DataW.weights, hu, List.all_cons, List.all_append, Bool.and_eq_true, decide_eq_true_eq, List.length_map, List.length_range] at hw
        have hlr : len ≤ reachBytes := by
          have h1 : 1 ≤ P.bytesOf u := Nat.le_of_ble_eq_true hby
          have h2 := Nat.le_mul_of_pos_right (len + (m - len)) h1
          omega
        have hwe : ∀ i, i < len → ((D i).weights P u).all (· ≤ reachBytes) = true := fun i hi => all_weights hw.2.1 (List.mem_map.2 ⟨i, List.mem_range.2 hi, rfl⟩)
        have hex : ∀ i, i < len → ∃ q : List V × List Value, w.cells? 0 (a.add (i * e.size)) e.size = some q.2 ∧ shV e q.1 ∧ CellsR w B q.1 q.2 ∧ q.2.length = e.size := by
          intro i hi
          obtain ⟨cs', h1, h2⟩ := hel i (by omega)
          obtain ⟨vs, h3, h4, h5⟩ := ih.1 u n cs' _ ht.2 h2 (hwe i hi)
          rw [hsz] at h1
          exact ⟨(vs, cs'), h1, h3, h4, h5⟩
        obtain ⟨f, hf⟩ := choose_lt hex
        have hcell : ∀ (i r : Nat), i < len → r < e.size → ∃ u, w.cell? (a.add (i * e.size + r)) = some u ∧ (f i).2[r]? = some u := by
          intro i r hi hr
          obtain ⟨h1, _, _, h4⟩ := hf i hi
          obtain ⟨_, _, h7⟩ := World.cells?_some h1
          have h8 := h7 r hr
          rw [Go.Deep.add_add] at h8
          have h9 : (f i).2[r]? = some (f i).2[r] := List.getElem?_eq_getElem (by omega)
          exact ⟨_, h8.trans h9, h9⟩
        have hdiv : ∀ j, j < len * e.size → ∃ i r, j = i * e.size + r ∧ i < len ∧ r < e.size := by
          intro j hj
          have hpos : 0 < e.size := by rcases Nat.eq_zero_or_pos e.size with h | h; (rw [h, Nat.mul_zero] at hj; omega); exact h
          refine ⟨j / e.size, j % e.size, ?_, Nat.div_lt_of_lt_mul (by rw [Nat.mul_comm]; exact hj), Nat.mod_lt _ hpos⟩
          rw [Nat.mul_comm]; exact (Nat.div_add_mod j e.size).symm
        refine ⟨_, .inr ⟨(List.range len).map fun i => mkEl e (f i).1, rfl, by simp; omega, fun x hx => ?_⟩, .one ?_ rfl, rfl⟩
        · obtain ⟨i, hi, rfl⟩ := List.mem_map.1 hx
          have hi' := List.mem_range.1 hi
          obtain ⟨_, h3, h4, h5⟩ := hf i hi'
          have := el_of ht.2 h3 h4 h5
          exact ⟨this.1, this.2.1⟩
        · have hlen : ((List.range len).map fun i => mkEl e (f i).1).length = len := by simp
          have := VI.sl (w := w) (B := B) false e.size ((List.range len).map fun i => mkEl e (f i).1) a cap (fun j => (w.cell? (a.add j)).getD Go.undef) (fun _ => hB _) (fun h0 => ?_) (by rw [hlen]; exact hlc) (fun h => by cases h) (fun x hx => ?_) (fun j hj => ?_) (fun j hj => ?_) (fun i x hi r v hr => ?_)
          · rw [hlen] at this; exact this
          · rw [hlen] at h0
            obtain ⟨i, r, _, hi, hr⟩ := hdiv 0 h0
            obtain ⟨u, hu, _⟩ := hcell i r hi hr
            have : w.heap[(a.add (i * e.size + r)).block]? ≠ none := by
              intro hn
              unfold World.cell? at hu
              rw [hn] at hu
              cases hu
            rw [add_block] at this
            exact (Array.getElem?_eq_some_iff.1 (Option.ne_none_iff_exists'.1 this).choose_spec).1
          · obtain ⟨i, hi, rfl⟩ := List.mem_map.1 hx
            obtain ⟨_, h3, h4, h5⟩ := hf i (List.mem_range.1 hi)
            exact (el_of ht.2 h3 h4 h5).2.2.1
          · rw [hlen] at hj
            obtain ⟨i, r, rfl, hi, hr⟩ := hdiv j hj
            obtain ⟨u, hu, _⟩ := hcell i r hi hr
            rw [hu]; rfl
          · rw [hlen] at hj
            obtain ⟨i, r, rfl, hi, hr⟩ := hdiv j hj
            obtain ⟨u, hu, hu'⟩ := hcell i r hi hr
            obtain ⟨_, h3, h4, h5⟩ := hf i hi
            obtain ⟨v, hv⟩ := some_of_lt (l := (f i).1) (i := r) (by rw [h4.1, h5]; exact hr)
            rw [hu]
            exact (h4.2 r v u hv hu').2
          · rw [List.getElem?_map] at hi
            obtain ⟨i', hi', rfl⟩ := Option.map_eq_some_iff.1 hi
            obtain ⟨hlt, rfl⟩ := List.getElem?_eq_some_iff.1 hi'
            simp only [List.getElem_range, List.length_range] at hr hlt
            obtain ⟨_, h3, h4, h5⟩ := hf i hlt
            rw [(el_of ht.2 h3 h4 h5).2.2.2] at hr
            have hrl : r < e.size := by have := lt_of_some hr; rw [h4.1, h5] at this; exact this
            obtain ⟨u, hu, hu'⟩ := hcell i r hlt hrl
            show VI w B v ((w.cell? (a.add (i * e.size + r))).getD Go.undef)
            rw [hu]
            exact (h4.2 r v u hr hu').1
  | st p ih =>
    refine ⟨fun t fuel cs x ht h hw => ?_, fun fs off fuel cs hf => (by simp [shF] at hf)⟩
    have hsz := shT_size ht
    simp only [shT, Bool.and_eq_true] at ht
    cases hu : P.underlying t with
    | none => rw [hu] at ht; simp at ht
    | some d =>
      rw [hu] at ht
      cases d <;> simp only [Bool.false_eq_true, and_false] at ht
      rename_i fs
      obtain ⟨xs, n, _, rfl, hl, hxl, hx⟩ := DataW.trod_struct hu h
      obtain ⟨vs, h1, h2⟩ := ih.2 fs.toList 0 n cs ht.2 (by rw [hl, hsz]; simp [Sh.size]) fun i f hf => by
        have hf' : fs[i]? = some f := by simpa using hf
        have := hx i f hf'
        have hlt : i < xs.length := by rw [hxl]; exact (Array.getElem?_eq_some_iff.1 hf').1
        rw [List.getElem?_eq_getElem hlt] at this
        refine ⟨_, this, List.all_eq_true.2 fun k hk => List.all_eq_true.1 hw k ?_⟩
        simp only [DataW.weights, hu]
        exact DataW.weights_mem_each (j := i) (t := f.type) (d := xs[i].1) (by rw [List.getElem?_map, hf]; rfl) (by rw [List.getElem?_map, List.getElem?_eq_getElem hlt]; rfl) k hk
      exact ⟨vs, h1, by simpa using h2, by rw [hl, hsz]⟩
  | nil =>
    refine ⟨fun t fuel cs x ht => (by simp [shT] at ht), fun fs off fuel cs hf hl hx => ?_⟩
    cases fs with
    | cons f fs => simp [shF] at hf
    | nil =>
      refine ⟨[], rfl, ?_⟩
      rw [List.drop_eq_nil_of_le (by simp [Sh.size] at hl; omega)]
      exact ⟨rfl, fun i v u h => by simp at h⟩
  | pair a b iha ihb =>
    refine ⟨fun t fuel cs x ht => (by simp [shT] at ht), fun fs off fuel cs hf hl hx => ?_⟩
    cases fs with
    | nil => simp [shF] at hf
    | cons f fs =>
      simp only [shF, Bool.and_eq_true] at hf
      obtain ⟨⟨h1, h2⟩, h3⟩ := hf
      have ho : f.offset = off := Nat.eq_of_beq_eq_true h1
      have hsz := shT_size h2
      obtain ⟨y, hy⟩ := hx 0 f rfl
      obtain ⟨va, q1, q2, q3⟩ := iha.1 f.type fuel _ y h2 hy.1 hy.2
      obtain ⟨vb, q4, q5⟩ := ihb.2 fs (off + a.size) fuel cs h3 (by simp [Sh.size] at hl; omega) fun i f hf => hx (i + 1) f (by simpa using hf)
      refine ⟨va ++ vb, ⟨va, vb, rfl, q1, q4⟩, ?_⟩
      rw [ho, hsz] at q2
      rw [take_add' cs off a.size b.size (by simp [Sh.size] at hl; omega)]
      exact q2.app q5
  | arr n e ih =>
    refine ⟨fun t fuel cs x ht h hw => ?_, fun fs off fuel cs hf => (by simp [shF] at hf)⟩
    have hsz := shT_size ht
    simp only [shT, Bool.and_eq_true] at ht
    cases hu : P.underlying t with
    | none => rw [hu] at ht; simp at ht
    | some d =>
      rw [hu] at ht
      cases d <;> simp only [Bool.false_eq_true, and_false] at ht
      rename_i m u
      simp only [Bool.and_eq_true] at ht
      have hm := Nat.eq_of_beq_eq_true ht.2.1
      subst hm
      have hez := shT_size ht.2.2
      obtain ⟨xs, k, _, rfl, hl, hxl, hx⟩ := DataW.trod_array hu h
      rw [hez] at hx
      have hex : ∀ i, i < m → ∃ vs : List V, shV e vs ∧ CellsR w B vs ((cs.drop (i * e.size)).take e.size) := by
        intro i hi
        have := hx i hi
        rw [List.getElem?_eq_getElem (by omega)] at this
        have hwi : ((xs[i]'(by omega)).1.weights P u).all (· ≤ reachBytes) = true := by
          simp only [DataW.weights, hu] at hw
          exact all_weights hw (List.mem_map.2 ⟨_, List.getElem_mem (by omega), rfl⟩)
        obtain ⟨vs, h3, h4, _⟩ := ih.1 u k _ _ ht.2.2 this hwi
        exact ⟨vs, h3, h4⟩
      obtain ⟨f, hf⟩ := choose_lt hex
      refine ⟨((List.range m).map f).flatten, ⟨(List.range m).map f, rfl, by simp, fun x hx => ?_⟩, ?_, by rw [hl, hsz]⟩
      · obtain ⟨i, hi, rfl⟩ := List.mem_map.1 hx
        exact (hf i (List.mem_range.1 hi)).1
      · rw [flat_chunks e.size m cs (by rw [hl, hsz]; rfl)]
        refine CellsR.flat (n := e.size) _ _ (by simp) fun i x y h1 h2 => ?_
        rw [List.getElem?_map] at h1 h2
        obtain ⟨j, hj, rfl⟩ := Option.map_eq_some_iff.1 h1
        obtain ⟨j', hj', rfl⟩ := Option.map_eq_some_iff.1 h2
        rw [hj] at hj'
        cases hj'
        have := List.mem_range.1 (List.mem_of_getElem? hj)
        exact (hf j this).2

end
end Go.VL

/- Laws: a function that answers true at all plain data, as a row of a claim says it. Conditions: none (plain theorems over any program). -/
namespace Go.VL
open Go.ChangeShapes Go.WideShapes Go.Deep Go.RowKit

/-- The values of a call's arguments, of these shapes. -/
def argsV : List Sh → List V → Prop
  | [], vs => vs = []
  | s :: ss, vs => ∃ cs r, vs = mkEl s cs :: r ∧ shV s cs ∧ argsV ss r
def shTs (P : Program) : List Sh → List TypeId → Bool
  | [], [] => true
  | s :: ss, t :: ts => shT P s t && shTs P ss ts
  | _, _ => false

section
variable {H : Type} {enc : TypeId × Value → H} {P : Program}

theorem val_of {W : World} {base : Nat} {s : Sh} {t : TypeId} {u : Value} {d : DataW H} {p : List MemPlace} (ht : shT P s t = true) (hv : Value.okWide P W .any base t u) (h : DataW.Trod enc P W 0 (fun _ => true) true t u d p) (hw : (d.weights P t).all (· ≤ reachBytes) = true) :
    ∃ cs, shV s cs ∧ VI W (Bad (fun _ => False) []) (mkEl s cs) u := by
  obtain ⟨fuel, hf⟩ := h
  have hB : ∀ b, ¬ Bad (fun _ => False) ([] : Mp) b := by
    rintro b (h | ⟨i, c, h⟩)
    · exact h
    · simp at h
  obtain ⟨cs, h1, h2, h3⟩ := (trod_V (w := W) (enc := enc) (P := P) hB s).1 t fuel _ _ ht hf hw
  refine ⟨cs, h1, ?_⟩
  have agg : ∀ us : Array Value, u = .agg us → s.isAgg = true → VI W (Bad (fun _ => False) []) (mkEl s cs) u := by
    rintro us rfl hs
    unfold mkEl
    rw [hs]
    refine .agg cs us (by have := h2.1; simp [Value.cells] at this; exact this.symm) fun i v x a b => (h2.2 i v x a (by simpa [Value.cells] using b)).1
  have one : u.cells = #[u] → s.isAgg = false → VI W (Bad (fun _ => False) []) (mkEl s cs) u := by
    intro hu hs
    unfold mkEl
    rw [hs]
    rw [hu] at h2
    match cs, h2 with
    | [c], h2 => exact (h2.2 0 c u rfl rfl).1
    | [], h2 => have := h2.1; simp at this
    | _ :: _ :: _, h2 => have := h2.1; simp at this
  cases s with
  | bool =>
    simp only [shT, Bool.and_eq_true] at ht
    cases hu : P.underlying t with
    | none => rw [hu] at ht; simp at ht
    | some td =>
      rw [hu] at ht
      cases td <;> simp only [Bool.false_eq_true, and_false] at ht
      obtain ⟨b, rfl⟩ := okWide_bool hu hv
      exact one rfl rfl
  | int k =>
    simp only [shT, Bool.and_eq_true] at ht
    cases hu : P.underlying t with
    | none => rw [hu] at ht; simp at ht
    | some td =>
      rw [hu] at ht
      cases td <;> simp only [Bool.false_eq_true, and_false] at ht
      obtain ⟨b, rfl⟩ := okWide_int hu hv
      exact one rfl rfl
  | str =>
    simp only [shT, Bool.and_eq_true] at ht
    cases hu : P.underlying t with
    | none => rw [hu] at ht; simp at ht
    | some td =>
      rw [hu] at ht
      cases td <;> simp only [Bool.false_eq_true, and_false] at ht
      obtain ⟨b, rfl⟩ := okWide_string hu hv
      exact one rfl rfl
  | sl e =>
    simp only [shT, Bool.and_eq_true] at ht
    cases hu : P.underlying t with
    | none => rw [hu] at ht; simp at ht
    | some td =>
      rw [hu] at ht
      cases td <;> simp only [Bool.false_eq_true, and_false] at ht
      obtain ⟨a, l, c, rfl⟩ := okWide_slice hu hv
      exact one rfl rfl
  | st q =>
    simp only [shT, Bool.and_eq_true] at ht
    cases hu : P.underlying t with
    | none => rw [hu] at ht; simp at ht
    | some td =>
      rw [hu] at ht
      cases td <;> simp only [Bool.false_eq_true, and_false] at ht
      obtain ⟨us, rfl, _⟩ := okWide_struct hu hv
      exact agg us rfl rfl
  | arr n e =>
    simp only [shT, Bool.and_eq_true] at ht
    cases hu : P.underlying t with
    | none => rw [hu] at ht; simp at ht
    | some td =>
      rw [hu] at ht
      cases td <;> simp only [Bool.false_eq_true, and_false] at ht
      simp only [Value.okWide, hu] at hv
      obtain ⟨us, rfl, _⟩ := hv
      exact agg us rfl rfl
  | nil => simp [shT] at ht
  | pair a b => simp [shT] at ht

theorem args_of {W : World} {base : Nat} : ∀ {ss : List Sh} {ts : List TypeId} {us : List Value} {ds : List (DataW H)} {p : List MemPlace}, shTs P ss ts = true → (∀ (j : Nat) t v, ts[j]? = some t → us[j]? = some v → Value.okWide P W .any base t v) →
    DataW.TrodAll enc P W 0 (fun _ => true) true ts us ds p → (DataW.weightsEach P ts ds).all (· ≤ reachBytes) = true → ∃ vs, argsV ss vs ∧ VRs (fun _ => False) [] [] W vs us
  | [], [], us, ds, p, _, _, h, _ => by
    obtain ⟨rfl, rfl, rfl⟩ := trodAll_nil h
    exact ⟨[], rfl, rfl, fun i v u h => by simp at h⟩
  | s :: ss, t :: ts, us, ds, p, hs, hv, h, hw => by
    simp only [shTs, Bool.and_eq_true] at hs
    obtain ⟨u, us', d, ds', q, r, rfl, rfl, rfl, h1, h2⟩ := trodAll_cons h
    simp only [DataW.weightsEach, List.all_append, Bool.and_eq_true] at hw
    obtain ⟨cs, h3, h4⟩ := val_of hs.1 (hv 0 t u rfl rfl) h1 hw.1
    obtain ⟨vs, h5, h6⟩ := args_of hs.2 (fun j t v a b => hv (j + 1) t v (by simpa using a) (by simpa using b)) h2 hw.2
    refine ⟨mkEl s cs :: vs, ⟨cs, vs, rfl, h3, h5⟩, by simp [h6.1], fun i v x a b => ?_⟩
    cases i with
    | zero => simp at a b; rw [← a, ← b]; exact .imm _ _ h4
    | succ i => exact h6.2 i v x (by simpa using a) (by simpa using b)
  | [], _ :: _, _, _, _, hs, _, _, _ => by simp [shTs] at hs
  | _ :: _, [], _, _, _, hs, _, _, _ => by simp [shTs] at hs

theorem Ext.below {w w' : World} {m : Mp} {σ : St} (h : Ext [] [] w m σ w') : Below w.heap.size w w' :=
  ⟨h.os, h.tape, h.output, h.sz, fun i hi => h.blk i hi fun j c hj => by simp at hj⟩

/-- All arguments are read again as they were. -/
theorem again_of' (hl : laidOutB P = true) {W W' : World} (hb : Below W.heap.size W W') : ∀ {ts : List TypeId} {us : List Value} {ds : List (DataW H)} {p : List MemPlace}, (ts.all fun t => P.readableRec t && Nat.blt t P.types.size) = true →
    DataW.TrodAll enc P W 0 (fun _ => true) true ts us ds p → DataW.TrodAll enc P W' 0 (fun b => decide (b < W.heap.size)) true ts us ds p
  | [], us, ds, p, _, h => by
    obtain ⟨rfl, rfl, rfl⟩ := trodAll_nil h
    exact rfl
  | t :: ts, us, ds, p, hr, h => by
    simp only [List.all_cons, Bool.and_eq_true] at hr
    obtain ⟨u, us', d, ds', q, r, rfl, rfl, rfl, h1, h2⟩ := trodAll_cons h
    refine trodAll_cons_mk (Below.trod hl hr.1.1 (Nat.le_of_ble_eq_true hr.1.2) h1 hb fun x hx => ?_) (again_of' hl hb hr.2 h2)
    obtain ⟨n, hn⟩ := h1
    exact DataW.trod_lt n _ _ _ hn x hx

end
end Go.VL

/- Ranges over functions, as rules. Conditions: none (plain theorems). -/
namespace Go.VL

section
variable {C : Cfg} {σ0 : St} {fr : Fr} {σ : St} {Q : Exit → Fr → St → Prop}

end
end Go.VL

/- Ranges over maps and texts, rows of noughts: one equation each, for reckoning. Conditions: none (plain theorems). -/
namespace Go.VL

section
variable {C : Cfg} (fr : Fr) (σ : St)

/-- Behind an operation that tells a value and a state. -/
def kN (fr : Fr) (o : Oper) (K : Fr → St → Prop) : V → St → Prop := fun v σ' => K (putd fr o v) σ'
theorem kN_app (o : Oper) (K : Fr → St → Prop) (v : V) (σ' : St) : kN fr o K v σ' = K (putd fr o v) σ' := rfl
def kRow (σ : St) (K : V → St → Prop) : V → Prop := fun v => vrow σ v K
theorem kRow_app (K : V → St → Prop) (v : V) : kRow σ K v = vrow σ v K := rfl
theorem e_range' (K : Fr → St → Prop) (d : Option Nat) (t ty : TypeId) (x : Operand) (ps : String) (af : Array Edge) (g : Option (Nat × Bool)) : ve C fr σ { dst := d, op := .range t x, type := ty, pos := ps, after := af, guard := g } K =
    vrange C σ t (opv fr x) (kN fr { dst := d, op := .range t x, type := ty, pos := ps, after := af, guard := g } K) := rfl
theorem e_next' (K : Fr → St → Prop) (d : Option Nat) (ty : TypeId) (x : Operand) (s : Bool) (ps : String) (af : Array Edge) (g : Option (Nat × Bool)) : ve C fr σ { dst := d, op := .next x s, type := ty, pos := ps, after := af, guard := g } K =
    vnext σ s (opv fr x) (kN fr { dst := d, op := .next x s, type := ty, pos := ps, after := af, guard := g } K) := rfl
theorem e_make' (K : Fr → St → Prop) (d : Option Nat) (t ty : TypeId) (x y : Operand) (ps : String) (af : Array Edge) (g : Option (Nat × Bool)) : ve C fr σ { dst := d, op := .makeSlice t x y, type := ty, pos := ps, after := af, guard := g } K =
    vmake C σ t (opv fr x) (opv fr y) (kN fr { dst := d, op := .makeSlice t x y, type := ty, pos := ps, after := af, guard := g } K) := rfl
theorem e_build' (K : Fr → St → Prop) (d : Option Nat) (t ty : TypeId) (n : Nat) (parts : Array (Nat × Operand)) (ps : String) (af : Array Edge) (g : Option (Nat × Bool)) : ve C fr σ { dst := d, op := .buildSlice t n parts, type := ty, pos := ps, after := af, guard := g } K =
    vbuildSlice C fr t n parts.toList (kRow σ (kN fr { dst := d, op := .buildSlice t n parts, type := ty, pos := ps, after := af, guard := g } K)) := rfl
theorem e_share' (K : Fr → St → Prop) (d : Option Nat) (s t ty : TypeId) (x : Operand) (ps : String) (af : Array Edge) (g : Option (Nat × Bool)) : ve C fr σ { dst := d, op := .convert s t x, type := ty, pos := ps, after := af, guard := g } K =
    vshare C σ s t (opv fr x) (kN fr { dst := d, op := .convert s t x, type := ty, pos := ps, after := af, guard := g } K) := rfl
theorem x_entry (K : V → Prop) (x : Operand) : vq C fr σ (.entry x) K = ventry σ (opv fr x) K := rfl

/-- A map's range steps: no entry is left, or any one of them comes. -/
def vany (σ : St) (id mid n : Nat) (left : List Nat) (l : List (V × V)) (K : V → St → Prop) : Prop :=
  (left = [] → K (.tup [.bool false]) σ) ∧ ∀ i kv, i ∈ left → l[i]? = some kv → K (.tup [.bool true, kv.1, kv.2]) (σ.set id (.iter mid n (left.erase i) (some i)))
def vnxm (σ : St) (id mid n : Nat) (left : List Nat) (K : V → St → Prop) : Option VO → Prop
  | some (.map l) => l.length = n ∧ vany σ id mid n left l K
  | _ => False
def vnx (σ : St) (id : Nat) (isS : Bool) (K : V → St → Prop) : Option VO → Prop
  | some (.iter mid n left _) => isS = false ∧ vnxm σ id mid n left K σ[mid]?
  | some (.siter s pos) => isS = true ∧ bif Nat.blt pos s.size then ((s.data.toList.getD pos 0).toNat < 128 ∧ K (.tup [.bool true, .int .i64 pos, .int .i32 (s.data.toList.getD pos 0).toNat]) (σ.set id (.siter s (pos + 1)))) else K (.tup [.bool false]) σ
  | _ => False
theorem vnext_ptr (isS : Bool) (id off : Nat) (K : V → St → Prop) : vnext σ isS (.ptr id off) K = (off = 0 ∧ vnx σ id isS K σ[id]?) := by
  unfold vnext
  show (_ ∧ _) = _
  congr 1
/-- What a range begins with. -/
def vrg (σ : St) (x : V) (K : V → St → Prop) : TD → Prop
  | .map _ _ => (match x with
    | .mp id => (match σ[id]? with
      | some (.map l) => K (.ptr σ.length 0) (σ ++ [.iter id l.length (List.range l.length) none])
      | _ => False)
    | _ => False)
  | .str => (match x with
    | .str s => K (.ptr σ.length 0) (σ ++ [.siter s 0])
    | _ => False)
  | _ => False
theorem vrange_eq (t : TypeId) (x : V) (K : V → St → Prop) : vrange C σ t x K = ((C.T t).known = true ∧ vrg σ x K (C.T t).d) := by
  unfold vrange vrg
  congr 1
def vmk (C : Cfg) (σ : St) (l c : V) (K : V → St → Prop) : TD → Prop
  | .slice e => (C.T e).known = true ∧ 0 < (C.T e).size ∧ (C.T e).bytes ≤ 4096 ∧ (zeroC (C.T e)).all cell1 = true ∧ (match l with
    | .int .i64 n => (match c with
      | .int .i64 n' => n' = n ∧ 0 ≤ n ∧ n ≤ lim ∧ K (.rsl σ.length 0 0 n.toNat) (σ ++ [.arr false 0 (C.T e).size (List.replicate n.toNat (zeroOf (C.T e)))])
      | _ => False)
    | _ => False)
  | _ => False
theorem vmake_eq (t : TypeId) (l c : V) (K : V → St → Prop) : vmake C σ t l c K = ((C.T t).known = true ∧ vmk C σ l c K (C.T t).d) := by
  unfold vmake vmk
  congr 1
def vent (σ : St) (off : Nat) (K : V → Prop) : Option VO → Prop
  | some (.iter mid n _ cur) => (match σ[mid]? with
      | some (.map l) => off = 0 ∧ l.length = n ∧ ∃ i kv, cur = some i ∧ l[i]? = some kv ∧ K (.tup [kv.1, kv.2])
      | _ => False)
  | _ => False
theorem ventry_ptr (id off : Nat) (K : V → Prop) : ventry σ (.ptr id off) K = vent σ off K σ[id]? := by
  unfold ventry vent
  rfl
end

attribute [go_sem] kRow_app e_build' e_share' vrow vshare isU8
attribute [go_sem] kN_app e_range' e_next' e_make' x_entry vnxm vnx vnext_ptr vrg vrange_eq vmk vmake_eq vent ventry_ptr
theorem o_range (t : TypeId) (x : Operand) : (Op.range t x).operands.toList = [x] := rfl
theorem o_next (x : Operand) (s : Bool) : (Op.next x s).operands.toList = [x] := rfl
theorem o_entry (x : Operand) : (Op.entry x).operands.toList = [x] := rfl
attribute [go_sem] o_range o_next o_entry

/-! What may come on either side of a change, again. -/
section
variable {C : Cfg} (fr : Fr) (σ : St) (K : V → Prop) (d : Nat) (want : Bool)
theorem vqg_move (x : Operand) : vqg C fr σ none (.move x) K = vq C fr σ (.move x) K := vqp_q fr σ (.move x) K rfl
theorem vqh_move (x : Operand) : vqg C fr σ (some (d, want)) (.move x) K = vgd (lk fr d) want (vq C fr σ (.move x) K) (K (.tup [])) := by
  show vgd _ _ (vqp C fr σ _ K) _ = _
  rw [vqp_q fr σ (.move x) K rfl]
theorem vqg_assign (x : Operand) : vqg C fr σ none (.assign x) K = vq C fr σ (.assign x) K := vqp_q fr σ (.assign x) K rfl
theorem vqh_assign (x : Operand) : vqg C fr σ (some (d, want)) (.assign x) K = vgd (lk fr d) want (vq C fr σ (.assign x) K) (K (.tup [])) := by
  show vgd _ _ (vqp C fr σ _ K) _ = _
  rw [vqp_q fr σ (.assign x) K rfl]
theorem vqg_load (t : TypeId) (x : Operand) : vqg C fr σ none (.load t x) K = vq C fr σ (.load t x) K := vqp_q fr σ (.load t x) K rfl
theorem vqh_load (t : TypeId) (x : Operand) : vqg C fr σ (some (d, want)) (.load t x) K = vgd (lk fr d) want (vq C fr σ (.load t x) K) (K (.tup [])) := by
  show vgd _ _ (vqp C fr σ _ K) _ = _
  rw [vqp_q fr σ (.load t x) K rfl]
theorem vqg_fieldAddr (t : TypeId) (x : Operand) (i : Nat) : vqg C fr σ none (.fieldAddr t x i) K = vq C fr σ (.fieldAddr t x i) K := vqp_q fr σ (.fieldAddr t x i) K rfl
theorem vqh_fieldAddr (t : TypeId) (x : Operand) (i : Nat) : vqg C fr σ (some (d, want)) (.fieldAddr t x i) K = vgd (lk fr d) want (vq C fr σ (.fieldAddr t x i) K) (K (.tup [])) := by
  show vgd _ _ (vqp C fr σ _ K) _ = _
  rw [vqp_q fr σ (.fieldAddr t x i) K rfl]
theorem vqg_field (t : TypeId) (x : Operand) (i : Nat) : vqg C fr σ none (.field t x i) K = vq C fr σ (.field t x i) K := vqp_q fr σ (.field t x i) K rfl
theorem vqh_field (t : TypeId) (x : Operand) (i : Nat) : vqg C fr σ (some (d, want)) (.field t x i) K = vgd (lk fr d) want (vq C fr σ (.field t x i) K) (K (.tup [])) := by
  show vgd _ _ (vqp C fr σ _ K) _ = _
  rw [vqp_q fr σ (.field t x i) K rfl]
theorem vqg_indexAddr (t : TypeId) (x i : Operand) : vqg C fr σ none (.indexAddr t x i) K = vq C fr σ (.indexAddr t x i) K := vqp_q fr σ (.indexAddr t x i) K rfl
theorem vqh_indexAddr (t : TypeId) (x i : Operand) : vqg C fr σ (some (d, want)) (.indexAddr t x i) K = vgd (lk fr d) want (vq C fr σ (.indexAddr t x i) K) (K (.tup [])) := by
  show vgd _ _ (vqp C fr σ _ K) _ = _
  rw [vqp_q fr σ (.indexAddr t x i) K rfl]
theorem vqg_index (t : TypeId) (x i : Operand) : vqg C fr σ none (.index t x i) K = vq C fr σ (.index t x i) K := vqp_q fr σ (.index t x i) K rfl
theorem vqh_index (t : TypeId) (x i : Operand) : vqg C fr σ (some (d, want)) (.index t x i) K = vgd (lk fr d) want (vq C fr σ (.index t x i) K) (K (.tup [])) := by
  show vgd _ _ (vqp C fr σ _ K) _ = _
  rw [vqp_q fr σ (.index t x i) K rfl]
theorem vqg_nilCheck (x : Operand) : vqg C fr σ none (.nilCheck x) K = vq C fr σ (.nilCheck x) K := vqp_q fr σ (.nilCheck x) K rfl
theorem vqh_nilCheck (x : Operand) : vqg C fr σ (some (d, want)) (.nilCheck x) K = vgd (lk fr d) want (vq C fr σ (.nilCheck x) K) (K (.tup [])) := by
  show vgd _ _ (vqp C fr σ _ K) _ = _
  rw [vqp_q fr σ (.nilCheck x) K rfl]
theorem vqg_extract (x : Operand) (i : Nat) : vqg C fr σ none (.extract x i) K = vq C fr σ (.extract x i) K := vqp_q fr σ (.extract x i) K rfl
theorem vqh_extract (x : Operand) (i : Nat) : vqg C fr σ (some (d, want)) (.extract x i) K = vgd (lk fr d) want (vq C fr σ (.extract x i) K) (K (.tup [])) := by
  show vgd _ _ (vqp C fr σ _ K) _ = _
  rw [vqp_q fr σ (.extract x i) K rfl]
theorem vqg_pick (a b c : Operand) : vqg C fr σ none (.pick a b c) K = vq C fr σ (.pick a b c) K := vqp_q fr σ (.pick a b c) K rfl
theorem vqh_pick (a b c : Operand) : vqg C fr σ (some (d, want)) (.pick a b c) K = vgd (lk fr d) want (vq C fr σ (.pick a b c) K) (K (.tup [])) := by
  show vgd _ _ (vqp C fr σ _ K) _ = _
  rw [vqp_q fr σ (.pick a b c) K rfl]
theorem vqg_binOp (u : BinOp) (t t2 : TypeId) (x y : Operand) : vqg C fr σ none (.binOp u t x y t2) K = vq C fr σ (.binOp u t x y t2) K := vqp_q fr σ (.binOp u t x y t2) K rfl
theorem vqh_binOp (u : BinOp) (t t2 : TypeId) (x y : Operand) : vqg C fr σ (some (d, want)) (.binOp u t x y t2) K = vgd (lk fr d) want (vq C fr σ (.binOp u t x y t2) K) (K (.tup [])) := by
  show vgd _ _ (vqp C fr σ _ K) _ = _
  rw [vqp_q fr σ (.binOp u t x y t2) K rfl]
theorem vqg_unOp (u : UnOp) (t : TypeId) (x : Operand) : vqg C fr σ none (.unOp u t x) K = vq C fr σ (.unOp u t x) K := vqp_q fr σ (.unOp u t x) K rfl
theorem vqh_unOp (u : UnOp) (t : TypeId) (x : Operand) : vqg C fr σ (some (d, want)) (.unOp u t x) K = vgd (lk fr d) want (vq C fr σ (.unOp u t x) K) (K (.tup [])) := by
  show vgd _ _ (vqp C fr σ _ K) _ = _
  rw [vqp_q fr σ (.unOp u t x) K rfl]
theorem vqg_convert (t t2 : TypeId) (x : Operand) : vqg C fr σ none (.convert t t2 x) K = vq C fr σ (.convert t t2 x) K := vqp_q fr σ (.convert t t2 x) K rfl
theorem vqh_convert (t t2 : TypeId) (x : Operand) : vqg C fr σ (some (d, want)) (.convert t t2 x) K = vgd (lk fr d) want (vq C fr σ (.convert t t2 x) K) (K (.tup [])) := by
  show vgd _ _ (vqp C fr σ _ K) _ = _
  rw [vqp_q fr σ (.convert t t2 x) K rfl]
theorem vqg_slice (t : TypeId) (x : Operand) (l h m : Option Operand) : vqg C fr σ none (.slice t x l h m) K = vq C fr σ (.slice t x l h m) K := vqp_q fr σ (.slice t x l h m) K rfl
theorem vqh_slice (t : TypeId) (x : Operand) (l h m : Option Operand) : vqg C fr σ (some (d, want)) (.slice t x l h m) K = vgd (lk fr d) want (vq C fr σ (.slice t x l h m) K) (K (.tup [])) := by
  show vgd _ _ (vqp C fr σ _ K) _ = _
  rw [vqp_q fr σ (.slice t x l h m) K rfl]
theorem vqg_build (t : TypeId) (ps : Array (Nat × Operand)) : vqg C fr σ none (.build t ps) K = vq C fr σ (.build t ps) K := vqp_q fr σ (.build t ps) K rfl
theorem vqh_build (t : TypeId) (ps : Array (Nat × Operand)) : vqg C fr σ (some (d, want)) (.build t ps) K = vgd (lk fr d) want (vq C fr σ (.build t ps) K) (K (.tup [])) := by
  show vgd _ _ (vqp C fr σ _ K) _ = _
  rw [vqp_q fr σ (.build t ps) K rfl]
theorem vqg_buildSlice (t : TypeId) (n : Nat) (ps : Array (Nat × Operand)) : vqg C fr σ none (.buildSlice t n ps) K = vq C fr σ (.buildSlice t n ps) K := vqp_q fr σ (.buildSlice t n ps) K rfl
theorem vqh_buildSlice (t : TypeId) (n : Nat) (ps : Array (Nat × Operand)) : vqg C fr σ (some (d, want)) (.buildSlice t n ps) K = vgd (lk fr d) want (vq C fr σ (.buildSlice t n ps) K) (K (.tup [])) := by
  show vgd _ _ (vqp C fr σ _ K) _ = _
  rw [vqp_q fr σ (.buildSlice t n ps) K rfl]
theorem vqg_makeFunc (f : Fn) (xs ys : Array Operand) : vqg C fr σ none (.makeFunc f xs ys) K = vq C fr σ (.makeFunc f xs ys) K := vqp_q fr σ (.makeFunc f xs ys) K rfl
theorem vqh_makeFunc (f : Fn) (xs ys : Array Operand) : vqg C fr σ (some (d, want)) (.makeFunc f xs ys) K = vgd (lk fr d) want (vq C fr σ (.makeFunc f xs ys) K) (K (.tup [])) := by
  show vgd _ _ (vqp C fr σ _ K) _ = _
  rw [vqp_q fr σ (.makeFunc f xs ys) K rfl]
theorem vqg_lookup (t : TypeId) (x k : Operand) (ok : Bool) : vqg C fr σ none (.lookup t x k ok) K = vq C fr σ (.lookup t x k ok) K := vqp_q fr σ (.lookup t x k ok) K rfl
theorem vqh_lookup (t : TypeId) (x k : Operand) (ok : Bool) : vqg C fr σ (some (d, want)) (.lookup t x k ok) K = vgd (lk fr d) want (vq C fr σ (.lookup t x k ok) K) (K (.tup [])) := by
  show vgd _ _ (vqp C fr σ _ K) _ = _
  rw [vqp_q fr σ (.lookup t x k ok) K rfl]
theorem vqg_len (xs : Array Operand) (ts : Array TypeId) : vqg C fr σ none (.call { callee := .builtin .len, args := xs, argTypes := ts }) K = vq C fr σ (.call { callee := .builtin .len, args := xs, argTypes := ts }) K := vqp_q fr σ (.call { callee := .builtin .len, args := xs, argTypes := ts }) K rfl
theorem vqh_len (xs : Array Operand) (ts : Array TypeId) : vqg C fr σ (some (d, want)) (.call { callee := .builtin .len, args := xs, argTypes := ts }) K = vgd (lk fr d) want (vq C fr σ (.call { callee := .builtin .len, args := xs, argTypes := ts }) K) (K (.tup [])) := by
  show vgd _ _ (vqp C fr σ _ K) _ = _
  rw [vqp_q fr σ (.call { callee := .builtin .len, args := xs, argTypes := ts }) K rfl]
theorem vqg_cap (xs : Array Operand) (ts : Array TypeId) : vqg C fr σ none (.call { callee := .builtin .cap, args := xs, argTypes := ts }) K = vq C fr σ (.call { callee := .builtin .cap, args := xs, argTypes := ts }) K := vqp_q fr σ (.call { callee := .builtin .cap, args := xs, argTypes := ts }) K rfl
theorem vqh_cap (xs : Array Operand) (ts : Array TypeId) : vqg C fr σ (some (d, want)) (.call { callee := .builtin .cap, args := xs, argTypes := ts }) K = vgd (lk fr d) want (vq C fr σ (.call { callee := .builtin .cap, args := xs, argTypes := ts }) K) (K (.tup [])) := by
  show vgd _ _ (vqp C fr σ _ K) _ = _
  rw [vqp_q fr σ (.call { callee := .builtin .cap, args := xs, argTypes := ts }) K rfl]
theorem vqg_min (xs : Array Operand) (ts : Array TypeId) : vqg C fr σ none (.call { callee := .builtin .min, args := xs, argTypes := ts }) K = vq C fr σ (.call { callee := .builtin .min, args := xs, argTypes := ts }) K := vqp_q fr σ (.call { callee := .builtin .min, args := xs, argTypes := ts }) K rfl
theorem vqh_min (xs : Array Operand) (ts : Array TypeId) : vqg C fr σ (some (d, want)) (.call { callee := .builtin .min, args := xs, argTypes := ts }) K = vgd (lk fr d) want (vq C fr σ (.call { callee := .builtin .min, args := xs, argTypes := ts }) K) (K (.tup [])) := by
  show vgd _ _ (vqp C fr σ _ K) _ = _
  rw [vqp_q fr σ (.call { callee := .builtin .min, args := xs, argTypes := ts }) K rfl]
theorem vqg_max (xs : Array Operand) (ts : Array TypeId) : vqg C fr σ none (.call { callee := .builtin .max, args := xs, argTypes := ts }) K = vq C fr σ (.call { callee := .builtin .max, args := xs, argTypes := ts }) K := vqp_q fr σ (.call { callee := .builtin .max, args := xs, argTypes := ts }) K rfl
theorem vqh_max (xs : Array Operand) (ts : Array TypeId) : vqg C fr σ (some (d, want)) (.call { callee := .builtin .max, args := xs, argTypes := ts }) K = vgd (lk fr d) want (vq C fr σ (.call { callee := .builtin .max, args := xs, argTypes := ts }) K) (K (.tup [])) := by
  show vgd _ _ (vqp C fr σ _ K) _ = _
  rw [vqp_q fr σ (.call { callee := .builtin .max, args := xs, argTypes := ts }) K rfl]
end
attribute [go_sem] vqg_move vqh_move vqg_assign vqh_assign vqg_load vqh_load vqg_fieldAddr vqh_fieldAddr vqg_field vqh_field vqg_indexAddr vqh_indexAddr vqg_index vqh_index vqg_nilCheck vqh_nilCheck vqg_extract vqh_extract vqg_pick vqh_pick vqg_binOp vqh_binOp vqg_unOp vqh_unOp vqg_convert vqh_convert vqg_slice vqh_slice vqg_build vqh_build vqg_buildSlice vqh_buildSlice vqg_makeFunc vqh_makeFunc vqg_lookup vqh_lookup vqg_len vqh_len vqg_cap vqh_cap vqg_min vqh_min vqg_max vqh_max vqg_app
end Go.VL

/- Functions whose new objects stay objects, known otherwise behind. Conditions: the table of types tells the program's own rows (TabOK). -/
namespace Go.VL

def vendG (C : Cfg) (σ : St) (rs : List ResultVar) (K : V → St → Prop) : Exit → Fr → St → Prop
  | .normal, fr', σ' => ∃ fr1 σ1, Ghost σ fr' σ' fr1 σ1 ∧ vresL C fr1 σ1 rs fun vs => K (packV vs) σ1
  | .ret, fr', σ' => ∃ fr1 σ1, Ghost σ fr' σ' fr1 σ1 ∧ vresL C fr1 σ1 rs fun vs => K (packV vs) σ1
  | _, _, _ => False

/-- A function whose new objects stay objects, with steps between. -/
theorem vcalls_keepG {C : Cfg} (tok : TabOK C) {f : FuncId} {fn : Func} {c : Code} {args : List V} {σ : St} {K : V → St → Prop} (hf : C.P.funcs[f]? = some fn) (hb : fn.body = some c) (hname : (fn.name == "runtime.NumGoroutine") = false) (hok : okCode fn.ntmps c = true)
    (hlen : Nat.ble args.length fn.ntmps = true) {rs : List ResultVar} (hrs : fn.results.toList = rs) (h : vwp C σ c (fr0 0 args) σ (vendG C σ rs K)) : VCalls C.P f args σ K := by
  subst hrs
  refine ⟨⟨fn, hf, by rw [hb]; rfl, hname⟩, fun A m w us hR hv => callsIn_wide.1 (callsIn_of_wp_marks (n := 0) hf hb trivial ?_)⟩
  have hlen' : args.length ≤ fn.ntmps := Nat.le_of_ble_eq_true hlen
  have hus : us.length = args.length := hv.1
  have F : Frm A m σ w fn.ntmps (fr0 0 args) σ { tmps := us.toArray ++ Array.replicate (fn.ntmps - us.toArray.size) Go.undef, defers := [] } w m (fun _ => none) := by
    refine ⟨by simp; omega, DefOK.nil, by rw [pA_none]; exact hR, fun t ht => ?_, fun t ht => ?_, fun s t b h => (by cases h), fun t b h => (by cases h), Ext.refl m σ w⟩
    · rw [lk_fr0, pA_none]
      simp only [Nat.zero_le, if_true, Nat.sub_zero]
      cases hq : args[t]? with
      | none => exact .imm _ _ (.undef _)
      | some v =>
        have hlt := lt_of_some hq
        have hu : us[t]? = some us[t] := List.getElem?_eq_getElem (by omega)
        have hr := hv.2 t v _ hq hu
        simp only [Option.getD_some]
        rw [SlotR_val hr.isVal]
        have : (us.toArray ++ Array.replicate (fn.ntmps - us.toArray.size) Go.undef).getD t Go.undef = us[t] := by
          rw [Array.getD_eq_getD_getElem?, Array.getElem?_append_left (by simp; omega)]
          simp [hu]
        rw [this]
        exact hr
    · rw [lk_fr0]
      simp only [Nat.zero_le, if_true, Nat.sub_zero]
      rw [List.getElem?_eq_none (by omega)]
      rfl
  have key : ∀ (fr' : Fr) (σ' : St) (a' : Act) (w' : World), FRel A m σ w fn.ntmps fr' σ' a' w' → (∃ fr1 σ1, Ghost σ fr' σ' fr1 σ1 ∧ vresL C fr1 σ1 fn.results.toList fun vs => K (packV vs) σ1) →
      LeavesInM Fence.wide 0 C.P fn a'.tmps (fun e w' => ∃ r u m' σ', e = .returned u ∧ VR A m' σ' w' r u ∧ Rel A m' σ' w' ∧ Ext m σ w m' σ' w' ∧ K r σ') a'.defers .returning w' := by
    rintro fr' σ' a' w' hF ⟨fr1, σ1, hg, hres⟩
    obtain ⟨m', pb, F'⟩ := ghost_sound hR hg hF
    refine Frm.leaves a'.defers w' F' fun w' F' => ?_
    obtain ⟨v, u, hk, hr, hrun⟩ := results_run tok F' (K := fun r => K r σ1) hres
    have hm : m'.take σ1.length = m' := by rw [← F'.rel.len, List.take_length]
    have hsg : σ1.take σ1.length = σ1 := List.take_length
    have h1 := hr.take (A' := A) (n := σ1.length) (fun b hb => .inl (.inl hb)) hr.sc
    have h2 := F'.rel.drop (A' := A) (n := σ1.length) (fun b hb => .inl hb) fun i o hi ho => by
      have hlt : i < m'.length := by rw [F'.rel.len]; exact hi
      exact (F'.rel.objs i o _ ho (List.getElem?_eq_getElem hlt)).sc
    rw [hm, hsg] at h1 h2
    exact ⟨u, hrun, v, u, m', σ1, rfl, h1, h2, F'.ext, hk⟩
  refine vwp_sound tok c none A m σ w fn.ntmps hR (.inl rfl) _ _ _ _ _ _ hok ⟨m, _, F⟩ h fun e fr' σ' a' w' F' h' => ?_
  cases e with
  | normal => exact key fr' σ' a' w' F' h'
  | ret => exact key fr' σ' a' w' F' h'
  | _ => exact h'.elim

/-- A loop, where what is asked behind a round is but a name. -/
theorem w_loopL {C : Cfg} {σ0 : St} {fr : Fr} {σ : St} {Q : Exit → Fr → St → Prop} {α : Type} {c : Code} (P : α → Prop) (F : α → Fr) (S : α → St) (μ : α → Nat) (x0 : α) (h0 : P x0) (k0 : Keeps (F x0) fr) (s0 : σ = S x0)
    (round : ∀ x, P x → ∀ L : Exit → Fr → St → Prop, (∀ y fr' S', P y → μ y < μ x → Keeps (F y) fr' → S' = S y → L .normal fr' S') → (∀ e fr' S', e ≠ .normal → Q e fr' S' → L e fr' S') → vwp C σ0 c (F x) (S x) L) : vwp C σ0 (.loop c) fr σ Q :=
  w_loop P F S μ x0 h0 k0 s0 fun x hx => round x hx _ (fun y _ _ hy hm hk hs => l_next y hy hm hk hs) fun e fr' S' he hq => by
    cases e with
    | normal => exact absurd rfl he
    | _ => exact ⟨_, _, .refl _ _, hq⟩

end Go.VL

/- '==' of structs whose fields are plain, or arrays of plain elements; a table that knows it of one type. Conditions: none (plain theorems over any program). -/
namespace Go.VL

/-- A field's cells, by kind. -/
def fieldKs (P : Program) (t : TypeId) : Option (List PK) :=
  match P.underlying t with
  | some (.array n e) => (match (P.underlying e).bind pkOf, P.info? e, P.info? t with
    | some k, some i, some j => bif Nat.beq i.size 1 && Nat.beq j.size n then some (List.replicate n k) else none
    | _, _, _ => none)
  | some d => (pkOf d).map fun k => [k]
  | none => none
def flatFs2 (P : Program) : Nat → List Field → Option (List PK)
  | _, [] => some []
  | i, f :: r => bif f.name == "_" || !Nat.beq f.offset i then none else
    match fieldKs P f.type with
    | some ks => (flatFs2 P (i + ks.length) r).map (ks ++ ·)
    | none => none
def eqs2 (P : Program) (t : TypeId) : Option (List PK) :=
  bif P.eqGuardType P.depth t then none else
  match P.underlying t with
  | some (.struct fs) => bif P.stoodInHeld t then none else flatFs2 P 0 fs.toList
  | _ => none

theorem mk_split : ∀ (ks ks' : List PK) (xs : List V), mk (ks ++ ks') xs = true → ∃ a b, xs = a ++ b ∧ mk ks a = true ∧ mk ks' b = true ∧ a.length = ks.length
  | [], ks', xs, h => ⟨[], xs, rfl, rfl, h, rfl⟩
  | k :: ks, ks', xs, h => by
    rw [List.cons_append] at h
    cases xs with
    | nil => cases k <;> simp [mk] at h
    | cons x xs =>
      have key : mk (k :: ks) [] = false := by cases k <;> rfl
      have hr : mk (ks ++ ks') xs = true ∧ ∀ zs, mk ks zs = true → mk (k :: ks) (x :: zs) = true := by
        cases k <;> cases x <;> simp only [mk, Bool.and_eq_true, Bool.false_eq_true] at h ⊢
        · exact ⟨h.2, fun zs hz => ⟨h.1, hz⟩⟩
        · exact ⟨h, fun zs hz => hz⟩
        · exact ⟨h, fun zs hz => hz⟩
      obtain ⟨a, b, e, h1, h2, h3⟩ := mk_split ks ks' xs hr.1
      exact ⟨x :: a, b, by rw [e]; rfl, hr.2 a h1, h2, by simp [h3]⟩
theorem cellsEq_app : ∀ (a c b d : List V), a.length = c.length → cellsEq (a ++ b) (c ++ d) = (cellsEq a c && cellsEq b d)
  | [], [], b, d, _ => by simp [cellsEq]
  | x :: a, y :: c, b, d, h => by
    rw [List.cons_append, List.cons_append]
    simp only [cellsEq]
    rw [cellsEq_app a c b d (by simpa using h), Bool.and_assoc]
  | [], _ :: _, _, _, h => by simp at h
  | _ :: _, [], _, _, h => by simp at h

variable {P : Program}
theorem field_eq (d : Nat) (w : World) {t : TypeId} {ks : List PK} (hk : fieldKs P t = some ks) (us ts : Array Value) (off : Nat) (xs ys : List V) (hx : mk ks xs = true) (hy : mk ks ys = true) (lx : xs.length = ks.length) (ly : ys.length = ks.length)
    (h1 : ∀ j x, xs[j]? = some x → us[off + j]? = some (plainVal x)) (h2 : ∀ j x, ys[j]? = some x → ts[off + j]? = some (plainVal x)) :
    ∃ a b, (part t us off).run P w = .ok a w ∧ (part t ts off).run P w = .ok b w ∧ (Op.equalIn (d + 2) t a b).run P w = .ok (cellsEq xs ys) w := by
  unfold fieldKs at hk
  cases hu : P.underlying t with
  | none => rw [hu] at hk; cases hk
  | some td =>
    rw [hu] at hk
    have plain : (pkOf td).map (fun k => [k]) = some ks → ∃ a b, (part t us off).run P w = .ok a w ∧ (part t ts off).run P w = .ok b w ∧ (Op.equalIn (d + 2) t a b).run P w = .ok (cellsEq xs ys) w := fun hk => by
      cases hp : pkOf td with
      | none => rw [hp] at hk; cases hk
      | some k =>
        rw [hp] at hk
        simp only [Option.map_some, Option.some.injEq] at hk
        subst hk
        have hb : (P.underlying t).bind pkOf = some k := by rw [hu]; exact hp
        cases xs with
        | nil => simp at lx
        | cons x xs =>
          cases ys with
          | nil => simp at ly
          | cons y ys =>
            have ex : xs = [] := by simpa using lx
            have ey : ys = [] := by simpa using ly
            subst ex ey
            obtain ⟨q1, _, _⟩ := pk_eq hb hx hy (d + 1) w
            refine ⟨plainVal x, plainVal y, run_part_plain w (pk_plain hb) (by simpa using h1 0 x rfl), run_part_plain w (pk_plain hb) (by simpa using h2 0 y rfl), ?_⟩
            rw [q1]
            simp [cellsEq]
    cases td <;> try exact plain hk
    case array n e =>
      simp only at hk
      cases hb : (P.underlying e).bind pkOf with
      | none => rw [hb] at hk; simp at hk
      | some k =>
        rw [hb] at hk
        cases hi : P.info? e with
        | none => rw [hi] at hk; simp at hk
        | some i =>
          rw [hi] at hk
          cases hj : P.info? t with
          | none => rw [hj] at hk; simp at hk
          | some j =>
            rw [hj] at hk
            simp only at hk
            cases hc : Nat.beq i.size 1 && Nat.beq j.size n with
            | false => rw [hc] at hk; cases hk
            | true =>
              rw [hc] at hk
              simp only [cond_true, Option.some.injEq] at hk
              simp only [Bool.and_eq_true] at hc
              subst hk
              rw [List.length_replicate] at lx ly
              have hsz : P.cellsOf e = 1 := by simp [Program.cellsOf, hi, Nat.eq_of_beq_eq_true hc.1]
              have hpart : ∀ zs : Array Value, (part t zs off).run P w = .ok (.agg (zs.extract off (off + n))) w := fun zs => by
                simp [part, isAgg, run_underlying hu, Go.sizeOf, typeInfo, hj, Nat.eq_of_beq_eq_true hc.2]
              have hget : ∀ (zs : Array Value) (vs : List V), vs.length = n → (∀ j x, vs[j]? = some x → zs[off + j]? = some (plainVal x)) → ∀ j x, vs[j]? = some x → (zs.extract off (off + n))[0 + j]? = some (plainVal x) := fun zs vs hl hv j x hj => by
                have hlt := lt_of_some hj
                have hz := hv j x hj
                have hzl : off + j < zs.size := by
                  rcases Nat.lt_or_ge (off + j) zs.size with h | h
                  · exact h
                  · rw [Array.getElem?_eq_none h] at hz; cases hz
                rw [Nat.zero_add, Array.getElem?_extract, ← hz]
                rw [if_pos (by omega)]
              refine ⟨_, _, hpart us, hpart ts, ?_⟩
              rw [run_equalIn_array w (d + 1) _ _ hu hi, hsz, List.range_eq_range']
              exact eqItems_flat d w hb _ _ n 0 xs ys hx hy (hget us xs lx h1) (hget ts ys ly h2)

theorem eqFields_flat2 (d : Nat) (w : World) (us ts : Array Value) : ∀ (fs : List Field) (i : Nat) (ks : List PK) (xs ys : List V), flatFs2 P i fs = some ks → mk ks xs = true → mk ks ys = true →
    (∀ j x, xs[j]? = some x → us[i + j]? = some (plainVal x)) → (∀ j x, ys[j]? = some x → ts[i + j]? = some (plainVal x)) → (Op.eqFields (d + 2) us ts fs).run P w = .ok (cellsEq xs ys) w
  | [], i, ks, xs, ys, h, hx, hy, _, _ => by
    simp only [flatFs2, Option.some.injEq] at h
    subst h
    cases xs <;> simp [mk] at hx
    cases ys <;> simp [mk] at hy
    simp [Op.eqFields, cellsEq]
  | f :: fs, i, ks, xs, ys, h, hx, hy, h1, h2 => by
    simp only [flatFs2] at h
    cases hc : (f.name == "_" || !Nat.beq f.offset i) with
    | true => rw [hc] at h; cases h
    | false =>
      rw [hc] at h
      simp only [Bool.or_eq_false_iff, Bool.not_eq_false'] at hc
      have ho : f.offset = i := Nat.eq_of_beq_eq_true hc.2
      have hn : f.name ≠ "_" := by simpa using hc.1
      simp only [cond_false] at h
      cases hk : fieldKs P f.type with
      | none => rw [hk] at h; cases h
      | some k1 =>
        rw [hk] at h
        simp only at h
        cases hr : flatFs2 P (i + k1.length) fs with
        | none => rw [hr] at h; cases h
        | some k2 =>
          rw [hr] at h
          simp only [Option.map_some, Option.some.injEq] at h
          subst h
          obtain ⟨a, b, rfl, m1, m2, m3⟩ := mk_split k1 k2 xs hx
          obtain ⟨a', b', rfl, n1, n2, n3⟩ := mk_split k1 k2 ys hy
          have g1 : ∀ j x, a[j]? = some x → us[f.offset + j]? = some (plainVal x) := fun j x hj => by
            rw [ho]
            exact h1 j x (by rw [List.getElem?_append_left (lt_of_some hj)]; exact hj)
          have g2 : ∀ j x, a'[j]? = some x → ts[f.offset + j]? = some (plainVal x) := fun j x hj => by
            rw [ho]
            exact h2 j x (by rw [List.getElem?_append_left (lt_of_some hj)]; exact hj)
          obtain ⟨pa, pb, p1, p2, q1⟩ := field_eq d w hk us ts f.offset a a' m1 n1 m3 n3 g1 g2
          have ih := eqFields_flat2 d w us ts fs (i + k1.length) k2 b b' hr m2 n2
            (fun j x hj => by have := h1 (a.length + j) x (by rw [List.getElem?_append_right (Nat.le_add_right _ _), Nat.add_sub_cancel_left]; exact hj); rw [m3] at this; rw [Nat.add_assoc]; exact this)
            (fun j x hj => by have := h2 (a'.length + j) x (by rw [List.getElem?_append_right (Nat.le_add_right _ _), Nat.add_sub_cancel_left]; exact hj); rw [n3] at this; rw [Nat.add_assoc]; exact this)
          simp only [Op.eqFields, hn, ne_eq, not_false_eq_true, if_true, Sem.run_bind, p1, p2, q1, Result.andThen_ok, cellsEq_app a a' b b' (m3.trans n3.symm)]
          cases cellsEq a a'
          · simp
          · simp [ih]

theorem eqs2_ok {t : TypeId} {ks : List PK} (h : eqs2 P t = some ks) : EqOK P t ks := by
  intro op x y us ts xs ys w hx hy h1 h2
  unfold eqs2 at h
  cases hg : P.eqGuardType P.depth t with
  | true => rw [hg] at h; cases h
  | false =>
    rw [hg] at h
    simp only [cond_false] at h
    have g : (eqGuard op t x y (.agg us) (.agg ts)).run P w = .ok () w := by
      unfold eqGuard
      cases op <;> simp [Sem.run_bind, run_program, hg]
    refine ⟨g, ?_⟩
    cases hu : P.underlying t with
    | none => rw [hu] at h; cases h
    | some td =>
      rw [hu] at h
      cases td <;> simp only [reduceCtorEq] at h
      case struct fs =>
        cases hs : P.stoodInHeld t with
        | true => rw [hs] at h; cases h
        | false =>
          rw [hs] at h
          simp only [cond_false] at h
          have hfs : P.fieldsOf t = fs := by simp [Program.fieldsOf, hu]
          show (Op.equalIn (9999 + 1) t (.agg us) (.agg ts)).run P w = _
          rw [run_equalIn_struct w 9999 t us ts (by rw [hfs]; exact hu) hs, hfs]
          exact eqFields_flat2 9997 w us ts fs.toList 0 ks xs ys h hx hy (at_map h1) (at_map h2)

/-- A function's own table, where one more type can be compared. -/
def tyE (P : Program) (a : TypeId) (ks : List PK) (t : TypeId) : Ty := bif Nat.beq t a then { tyOf P t with eqs := true, eqk := ks } else tyOf P t
theorem tyE_if (P : Program) (a : TypeId) (ks : List PK) (t : TypeId) : tyE P a ks t = if t = a then { tyOf P t with eqs := true, eqk := ks } else tyOf P t := by
  unfold tyE
  by_cases h : t = a
  · rw [if_pos h, h, Nat.beq_refl]; rfl
  · rw [if_neg h]
    cases hb : Nat.beq t a
    · rfl
    · exact absurd (Nat.eq_of_beq_eq_true hb) h
def cfgE (P : Program) (a : TypeId) (ks : List PK) (esc wrt frz : List Tmp) : Cfg := { P := P, T := tyE P a ks, esc := esc, wrt := wrt, frz := frz }
theorem cfgE_T (P : Program) (a : TypeId) (ks : List PK) (esc wrt frz : List Tmp) (t : TypeId) : (cfgE P a ks esc wrt frz).T t = tyE P a ks t := rfl
theorem cfgE_P (P : Program) (a : TypeId) (ks : List PK) (esc wrt frz : List Tmp) : (cfgE P a ks esc wrt frz).P = P := rfl
theorem cfgE_esc (P : Program) (a : TypeId) (ks : List PK) (esc wrt frz : List Tmp) : (cfgE P a ks esc wrt frz).esc = esc := rfl
theorem cfgE_wrt (P : Program) (a : TypeId) (ks : List PK) (esc wrt frz : List Tmp) : (cfgE P a ks esc wrt frz).wrt = wrt := rfl
theorem cfgE_frz (P : Program) (a : TypeId) (ks : List PK) (esc wrt frz : List Tmp) : (cfgE P a ks esc wrt frz).frz = frz := rfl
theorem cfgE_ok {a : TypeId} {ks : List PK} {esc wrt frz : List Tmp} (hm : P.follows .mixedOrders = true) (he : eqs2 P a = some ks) (hd : ∀ n e, (tyOf P a).d ≠ .array n e) : TabOK (cfgE P a ks esc wrt frz) := by
  have h0 := cfg_ok (P := P) (esc := esc) (wrt := wrt) (frz := frz) hm
  refine ⟨fun t h => ?_, fun t hk h => ?_, fun t n e hk h hd' => ?_, hm⟩
  · rw [cfgE_T] at h ⊢
    unfold tyE at h ⊢
    cases hb : Nat.beq t a
    · rw [hb] at h
      exact tyOf_ok h
    · rw [hb] at h
      exact tyOf_ok (P := P) (t := t) h
  · rw [cfgE_T] at hk h ⊢
    unfold tyE at hk h ⊢
    cases hb : Nat.beq t a
    · rw [hb] at hk h
      exact h0.eq t hk h
    · have := Nat.eq_of_beq_eq_true hb
      subst this
      exact eqs2_ok he
  · rw [cfgE_T] at hk h hd' ⊢
    unfold tyE at hk h hd' ⊢
    cases hb : Nat.beq t a
    · rw [hb] at hk h hd'
      exact h0.ck t n e hk h hd'
    · have := Nat.eq_of_beq_eq_true hb
      subst this
      rw [hb] at hd'
      exact absurd hd' (hd n e)

end Go.VL
