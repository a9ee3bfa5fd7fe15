/- The value-level words and their soundness, joined texts. Conditions: none. -/
import Derived.Calls
import Derived.Orders
import Derived.Below
import Derived.Laws.Sem
import Derived.RangeFuncSeq
import Derived.WalkKit
import Derived.Laws.BytesArg
import Derived.RangeFuncLeaves
import Derived.OrdersIn
set_option linter.unusedVariables false
set_option linter.unusedSimpArgs false
/- The value-level words: abstract values, objects, frames, and what relates them to the machine's memory; how that relation is kept when memory goes on. Conditions: none (plain theorems over any program). -/
namespace Go.VL

/-- Values without memory: a slice that nobody writes any more is the list of its elements. -/
inductive V where
  | undef
  | int (k : IntKind) (n : Int)
  | bool (b : Bool)
  | str (s : ByteArray)
  | nilp
  | nilf
  | nili
  | nilm
  | sl (nl clip : Bool) (sz : Nat) (es : List V)
  | ip (cs : List V)
  | agg (cs : List V)
  | tup (cs : List V)
  | fn (f : Fn) (first captured : List V)
  | ifc (t : TypeId) (v : V)
  | ptr (id off : Nat)
  | eptr (id g i off : Nat)
  | rsl (id g lo hi : Nat)
  | mp (id : Nat)
  | cell (cs : List V)
  | lref (slot off : Nat)
  | im (l : List (V × V))
  deriving Inhabited

/-- Objects that are written: a variable's cells, a row, a map. -/
inductive VO where
  | dead
  | box (cs : List V)
  | arr (nl : Bool) (g sz : Nat) (es : List V)
  | map (l : List (V × V))
  | iter (mid n : Nat) (left : List Nat) (cur : Option Nat)
  | siter (s : ByteArray) (pos : Nat)
  | blk (l : Nat) (o : Obj) (kp : List (Nat × V))

instance : Inhabited VO := ⟨.dead⟩

abbrev St := List VO
/-- Where an object lies: its block, and how many elements its block holds. -/
abbrev Mp := List (Option (Nat × Nat))
abbrev Fr := List (Nat × V)

def VO.isIt : VO → Bool
  | .iter _ _ _ _ => true
  | .siter _ _ => true
  | _ => false

/-- What the packages' variables hold that are looked at. -/
def globs (g : Nat) : Option (List V) := match g with | 0 => some ((List.range 256).map fun i => V.int .u8 (bif (Nat.ble 9 i && Nat.ble i 13) || Nat.beq i 32 then 1 else 0)) | _ => none

def V.cells : V → List V
  | .agg cs => cs
  | v => [v]

def V.isVal : V → Bool
  | .cell _ => false
  | .lref _ _ => false
  | _ => true

def lk : Fr → Nat → V
  | [], _ => .undef
  | (j, v) :: r, i => bif Nat.beq j i then v else lk r i

def Bad (A : Nat → Prop) (m : Mp) (b : Nat) : Prop := A b ∨ ∃ i c : Nat, m[i]? = some (some (b, c))

/-- A value that hangs on nothing that is written: B: the blocks that are. -/
inductive VI (w : World) (B : Nat → Prop) : V → Value → Prop where
  | undef (u : Value) : VI w B .undef u
  | int (k : IntKind) (n : Int) : VI w B (.int k n) (.int k n)
  | bool (b : Bool) : VI w B (.bool b) (.bool b)
  | str (s : ByteArray) : VI w B (.str s) (.string s)
  | nilp : VI w B .nilp (.pointer none)
  | nilf : VI w B .nilf .nilFunc
  | nili : VI w B .nili .nilIface
  | nilm : VI w B .nilm (.map none)
  | sl0 (c : Bool) (sz : Nat) : VI w B (.sl true c sz []) (.slice none 0 0)
  | sl (c : Bool) (sz : Nat) (es : List V) (a : Addr) (cap : Nat) (cell : Nat → Value) (hB : 0 < es.length * sz → ¬ B a.block) (hblk : 0 < es.length * sz → a.block < w.heap.size) (hcap : es.length ≤ cap)
      (hclip : c = true → cap = es.length) (hsz : ∀ e ∈ es, e.cells.length = sz)
      (hcell : ∀ j, j < es.length * sz → w.cell? (a.add j) = some (cell j)) (hone : ∀ j, j < es.length * sz → (cell j).oneCell' = true)
      (hv : ∀ (i : Nat) e, es[i]? = some e → ∀ (r : Nat) v, e.cells[r]? = some v → VI w B v (cell (i * sz + r))) : VI w B (.sl false c sz es) (.slice (some a) es.length cap)
  | ip (cs : List V) (a : Addr) (cell : Nat → Value) (hB : 0 < cs.length → ¬ B a.block) (hblk : 0 < cs.length → a.block < w.heap.size) (hcell : ∀ j, j < cs.length → w.cell? (a.add j) = some (cell j))
      (hv : ∀ (r : Nat) v, cs[r]? = some v → VI w B v (cell r)) : VI w B (.ip cs) (.pointer (some a))
  | agg (cs : List V) (us : Array Value) (hl : us.size = cs.length) (hv : ∀ (i : Nat) v u, cs[i]? = some v → us[i]? = some u → VI w B v u) : VI w B (.agg cs) (.agg us)
  | tup (cs : List V) (us : Array Value) (hl : us.size = cs.length) (hv : ∀ (i : Nat) v u, cs[i]? = some v → us[i]? = some u → VI w B v u) : VI w B (.tup cs) (.tuple us)
  | fn (f : Fn) (xs ys : List V) (us ts : Array Value) (hl : us.size = xs.length) (hl' : ts.size = ys.length) (hv : ∀ (i : Nat) v u, xs[i]? = some v → us[i]? = some u → VI w B v u)
      (hv' : ∀ (i : Nat) v u, ys[i]? = some v → ts[i]? = some u → VI w B v u) : VI w B (.fn f xs ys) (.func f us ts)
  | ifc (t : TypeId) (v : V) (u : Value) (h : VI w B v u) : VI w B (.ifc t v) (.iface t u)
  | im (l : List (V × V)) (b : Nat) (ents : Array MapEntry) (hB : ¬ B b) (hblk : b < w.heap.size) (hm : w.heap[b]? = some (.map ents ents.size)) (hl : ents.size = l.length)
      (hk : ∀ (i : Nat) kv e, l[i]? = some kv → ents[i]? = some e → VI w B kv.1 e.key) (hv : ∀ (i : Nat) kv e, l[i]? = some kv → ents[i]? = some e → VI w B kv.2 e.val)
      (hb : ∀ (i : Nat) kv e, l[i]? = some kv → ents[i]? = some e → e.born = i) : VI w B (.im l) (.map (some b))

/-- What a slice's value over a row's object is. -/
def HdrOk (bm : Option (Nat × Nat)) (nl : Bool) (sz n lo hi : Nat) (u : Value) : Prop :=
  lo ≤ hi ∧ hi ≤ n ∧ ((bm = none ∧ nl = true ∧ u = .slice none 0 0) ∨ (bm = none ∧ nl = false ∧ ∃ a, u = .slice (some a) 0 0) ∨
    (nl = false ∧ ∃ b cap a, bm = some (b, cap) ∧ u = .slice (some a) (hi - lo) (cap - lo) ∧ n ≤ cap ∧ a.block = b ∧ (lo < cap → a = ⟨b, lo * sz, none⟩)))

inductive VR (A : Nat → Prop) (m : Mp) (σ : St) (w : World) : V → Value → Prop where
  | imm (v : V) (u : Value) (h : VI w (Bad A m) v u) : VR A m σ w v u
  | ptr (id off : Nat) (u : Value) (ho : u.oneCell' = true) (h : σ[id]? = some .dead ∨ ∃ cs b c, σ[id]? = some (.box cs) ∧ m[id]? = some (some (b, c)) ∧ u = .pointer (some ⟨b, off, none⟩)) : VR A m σ w (.ptr id off) u
  | eptr (id g i off : Nat) (u : Value) (ho : u.oneCell' = true) (h : σ[id]? = some .dead ∨ ∃ nl g0 sz es, σ[id]? = some (.arr nl g0 sz es) ∧ g ≤ g0 ∧
      (g = g0 → i < es.length ∧ ∃ b c, m[id]? = some (some (b, c)) ∧ u = .pointer (some ⟨b, i * sz + off, none⟩))) : VR A m σ w (.eptr id g i off) u
  | rsl (id g lo hi : Nat) (u : Value) (ho : u.oneCell' = true) (h : σ[id]? = some .dead ∨ ∃ nl g0 sz es bm, σ[id]? = some (.arr nl g0 sz es) ∧ m[id]? = some bm ∧ g ≤ g0 ∧
      (g = g0 → HdrOk bm nl sz es.length lo hi u)) : VR A m σ w (.rsl id g lo hi) u
  | mp (id : Nat) (u : Value) (ho : u.oneCell' = true) (h : σ[id]? = some .dead ∨ ∃ l b c, σ[id]? = some (.map l) ∧ m[id]? = some (some (b, c)) ∧ u = .map (some b)) : VR A m σ w (.mp id) u
  | iter (id : Nat) (u : Value) (ho : u.oneCell' = true) (h : σ[id]? = some .dead ∨ ∃ it b c, σ[id]? = some it ∧ it.isIt = true ∧ m[id]? = some (some (b, c)) ∧ u = .pointer (some ⟨b, 0, none⟩)) : VR A m σ w (.ptr id 0) u
  | agg (cs : List V) (us : Array Value) (hl : us.size = cs.length) (hv : ∀ (i : Nat) v u, cs[i]? = some v → us[i]? = some u → VR A m σ w v u) : VR A m σ w (.agg cs) (.agg us)
  | tup (cs : List V) (us : Array Value) (hl : us.size = cs.length) (hv : ∀ (i : Nat) v u, cs[i]? = some v → us[i]? = some u → VR A m σ w v u) : VR A m σ w (.tup cs) (.tuple us)
  | fn (f : Fn) (xs ys : List V) (us ts : Array Value) (hl : us.size = xs.length) (hl' : ts.size = ys.length) (hv : ∀ (i : Nat) v u, xs[i]? = some v → us[i]? = some u → VR A m σ w v u)
      (hv' : ∀ (i : Nat) v u, ys[i]? = some v → ts[i]? = some u → VR A m σ w v u) : VR A m σ w (.fn f xs ys) (.func f us ts)
  | ifc (t : TypeId) (v : V) (u : Value) (h : VR A m σ w v u) : VR A m σ w (.ifc t v) (.iface t u)

/-- Lists of values, one by one. -/
def VRs (A : Nat → Prop) (m : Mp) (σ : St) (w : World) (vs : List V) (us : List Value) : Prop :=
  us.length = vs.length ∧ ∀ (i : Nat) v u, vs[i]? = some v → us[i]? = some u → VR A m σ w v u

/-- What a loop's record holds of the frame's values. -/
def tmpsOf : Obj → Array Value
  | .loop r => r.tmps
  | _ => #[]

def FrR (A : Nat → Prop) (m : Mp) (σ : St) (w : World) (kp : Fr) (us : Array Value) : Prop :=
  (∀ (t : Nat) u, us[t]? = some u → VR A m σ w (lk kp t) u) ∧ ∀ t, us.size ≤ t → lk kp t = .undef

/-- An object, in its block. -/
def ObjR (A : Nat → Prop) (m : Mp) (σ : St) (w : World) : VO → Option (Nat × Nat) → Prop
  | .dead, bm => bm = none
  | .box cs, bm => ∃ b c us T, bm = some (b, c) ∧ w.heap[b]? = some (.cells us T (0, 0)) ∧ VRs A m σ w cs us.toList
  | .arr nl _ sz es, bm => (es = [] ∧ bm = none) ∨
      (nl = false ∧ ∃ b cap us T, bm = some (b, cap) ∧ w.heap[b]? = some (.cells us T (0, 0)) ∧ us.size = cap * sz ∧ es.length ≤ cap ∧ 0 < sz ∧ (∀ e ∈ es, e.cells.length = sz) ∧
        ∀ (i : Nat) e, es[i]? = some e → ∀ (r : Nat) v, e.cells[r]? = some v → ∃ u, us[i * sz + r]? = some u ∧ u.oneCell' = true ∧ VI w (Bad A m) v u)
  | .map l, bm => ∃ b c ents, bm = some (b, c) ∧ w.heap[b]? = some (.map ents ents.size) ∧ ents.size = l.length ∧
      ∀ (i : Nat) kv e, l[i]? = some kv → ents[i]? = some e → VR A m σ w kv.1 e.key ∧ VR A m σ w kv.2 e.val ∧ e.born = i
  | .siter s pos, bm => ∃ b c, bm = some (b, c) ∧ w.heap[b]? = some (.stringIter s pos)
  | .iter mid n left cur, bm => ∃ b c seen, bm = some (b, c) ∧ left.Nodup ∧ (∀ i : Nat, i ∈ left ↔ i < n ∧ i ∉ seen.toList) ∧ (∀ i, cur = some i → seen.back? = some i) ∧
      (σ[mid]? = some .dead ∨ ∃ l mb mc, σ[mid]? = some (.map l) ∧ m[mid]? = some (some (mb, mc)) ∧ w.heap[b]? = some (.mapIter (some mb) n seen n))
  | .blk l o kp, bm => bm = some (l, 0) ∧ w.heap[l]? = some o ∧ FrR A m σ w kp (tmpsOf o)

def GLO (B : Nat → Prop) (w : World) : Prop := ∀ g cs, globs g = some cs → VI w B (.ip cs) (.pointer (some ⟨g, 0, none⟩))

structure Rel (A : Nat → Prop) (m : Mp) (σ : St) (w : World) : Prop where
  len : m.length = σ.length
  inj : ∀ (i j b c d : Nat), m[i]? = some (some (b, c)) → m[j]? = some (some (b, d)) → i = j
  lt : ∀ (i b c : Nat), m[i]? = some (some (b, c)) → b < w.heap.size ∧ ¬ A b
  alt : ∀ b, A b → b < w.heap.size
  objs : ∀ (i : Nat) o bm, σ[i]? = some o → m[i]? = some bm → ObjR A m σ w o bm
  glo : GLO (Bad A m) w

/-- What an object may become: its place stays, unless it dies or is laid anew. -/
def OLe : VO → Option (Nat × Nat) → VO → Option (Nat × Nat) → Prop
  | _, _, .dead, _ => True
  | .box cs, bm, .box cs', bm' => bm' = bm ∧ cs'.length = cs.length
  | .arr nl g sz es, bm, .arr nl' g' sz' es', bm' => g ≤ g' ∧ (g = g' → bm' = bm ∧ nl' = nl ∧ sz' = sz ∧ es'.length = es.length)
  | .map _, bm, .map _, bm' => bm' = bm
  | .iter _ _ _ _, bm, .iter _ _ _ _, bm' => bm' = bm
  | .siter _ _, bm, .siter _ _, bm' => bm' = bm
  | .blk _ _ _, bm, .blk _ _ _, bm' => bm' = bm
  | _, _, _, _ => False

def ObjsLe (m : Mp) (σ : St) (m' : Mp) (σ' : St) : Prop :=
  ∀ (i : Nat) o bm, σ[i]? = some o → m[i]? = some bm → ∃ o' bm', σ'[i]? = some o' ∧ m'[i]? = some bm' ∧ OLe o bm o' bm'

/-- Memory goes on: what hangs on nothing that is written stays. -/
structure Mov (A : Nat → Prop) (m : Mp) (w : World) (A' : Nat → Prop) (m' : Mp) (w' : World) : Prop where
  sz : w.heap.size ≤ w'.heap.size
  imm : ∀ b, b < w.heap.size → ¬ Bad A m b → w'.heap[b]? = w.heap[b]? ∧ ¬ Bad A' m' b

theorem cell?_of_block {w w' : World} {a : Addr} (h : w'.heap[a.block]? = w.heap[a.block]?) : w'.cell? a = w.cell? a := by
  simp [World.cell?, h]

theorem add_block (a : Addr) (n : Nat) : (a.add n).block = a.block := by unfold Addr.add; split <;> rfl

theorem VI.mov {A m w A' m' w'} (M : Mov A m w A' m' w') {v : V} {u : Value} (h : VI w (Bad A m) v u) : VI w' (Bad A' m') v u := by
  induction h with
  | undef u => exact .undef u
  | int k n => exact .int k n
  | bool b => exact .bool b
  | str s => exact .str s
  | nilp => exact .nilp
  | nilf => exact .nilf
  | nili => exact .nili
  | nilm => exact .nilm
  | sl0 c sz => exact .sl0 c sz
  | sl c sz es a cap cell hB hblk hcap hclip hsz hcell hone hv ih =>
    exact .sl c sz es a cap cell (fun h0 => (M.imm a.block (hblk h0) (hB h0)).2) (fun h0 => Nat.lt_of_lt_of_le (hblk h0) M.sz) hcap hclip hsz
      (fun j hj => by rw [cell?_of_block (w := w) (by rw [add_block]; exact (M.imm a.block (hblk (by omega)) (hB (by omega))).1)]; exact hcell j hj) hone ih
  | ip cs a cell hB hblk hcell hv ih =>
    exact .ip cs a cell (fun h0 => (M.imm a.block (hblk h0) (hB h0)).2) (fun h0 => Nat.lt_of_lt_of_le (hblk h0) M.sz)
      (fun j hj => by rw [cell?_of_block (w := w) (by rw [add_block]; exact (M.imm a.block (hblk (by omega)) (hB (by omega))).1)]; exact hcell j hj) ih
  | agg cs us hl hv ih => exact .agg cs us hl ih
  | tup cs us hl hv ih => exact .tup cs us hl ih
  | fn f xs ys us ts hl hl' hv hv' ih ih' => exact .fn f xs ys us ts hl hl' ih ih'
  | ifc t v u h ih => exact .ifc t v u ih
  | im l b ents hB hblk hm hl hk hv hb ihk ihv => exact .im l b ents (M.imm b hblk hB).2 (Nat.lt_of_lt_of_le hblk M.sz) (by rw [(M.imm b hblk hB).1]; exact hm) hl ihk ihv hb

theorem GLO.mov {A m w A' m' w'} (M : Mov A m w A' m' w') (h : GLO (Bad A m) w) : GLO (Bad A' m') w' := fun g cs hg => (h g cs hg).mov M

theorem OLe.dead_left {bm o' bm'} (h : OLe .dead bm o' bm') : o' = .dead := by
  cases o' <;> simp_all [OLe]

theorem VR.mov {A m σ w A' m' σ' w'} (M : Mov A m w A' m' w') (O : ObjsLe m σ m' σ') (hlen : m.length = σ.length) {v : V} {u : Value} (h : VR A m σ w v u) : VR A' m' σ' w' v u := by
  have dd : ∀ i : Nat, σ[i]? = some .dead → σ'[i]? = some .dead := by
    intro i hi
    have hlt : i < m.length := by rw [hlen]; exact (List.getElem?_eq_some_iff.1 hi).1
    obtain ⟨o', bm', h1, h2, h3⟩ := O i _ _ hi (List.getElem?_eq_getElem hlt)
    rw [h1, h3.dead_left]
  induction h with
  | imm v u h => exact .imm v u (h.mov M)
  | ptr id off u ho h =>
    refine .ptr id off u ho ?_
    rcases h with h | ⟨cs, b, c, h1, h2, h3⟩
    · exact .inl (dd _ h)
    · obtain ⟨o', bm', k1, k2, k3⟩ := O id _ _ h1 h2
      cases o' <;> simp only [OLe] at k3
      · exact .inl k1
      · rename_i cs'
        exact .inr ⟨cs', b, c, k1, by rw [k2, k3.1], h3⟩
  | eptr id g i off u ho h =>
    refine .eptr id g i off u ho ?_
    rcases h with h | ⟨nl, g0, sz, es, h1, h2, h3⟩
    · exact .inl (dd _ h)
    · have hlt : id < m.length := by rw [hlen]; exact (List.getElem?_eq_some_iff.1 h1).1
      obtain ⟨o', bm', k1, k2, k3⟩ := O id _ _ h1 (List.getElem?_eq_getElem hlt)
      cases o' <;> simp only [OLe] at k3
      · exact .inl k1
      · rename_i nl' g' sz' es'
        refine .inr ⟨nl', g', sz', es', k1, Nat.le_trans h2 k3.1, fun e => ?_⟩
        have e0 : g0 = g' := by omega
        obtain ⟨e1, e2, e3, e4⟩ := k3.2 e0
        obtain ⟨hi, b, c, hb, hu⟩ := h3 (by omega)
        refine ⟨by omega, b, c, ?_, by rw [e3]; exact hu⟩
        rw [k2, e1, ← List.getElem?_eq_getElem hlt, hb]
  | rsl id g lo hi u ho h =>
    refine .rsl id g lo hi u ho ?_
    rcases h with h | ⟨nl, g0, sz, es, bm, h1, hbm, h2, h3⟩
    · exact .inl (dd _ h)
    · obtain ⟨o', bm', k1, k2, k3⟩ := O id _ _ h1 hbm
      cases o' <;> simp only [OLe] at k3
      · exact .inl k1
      · rename_i nl' g' sz' es'
        refine .inr ⟨nl', g', sz', es', bm', k1, k2, Nat.le_trans h2 k3.1, fun e => ?_⟩
        have e0 : g0 = g' := by omega
        obtain ⟨e1, e2, e3, e4⟩ := k3.2 e0
        rw [e1, e2, e3, e4]
        exact h3 (by omega)
  | mp id u ho h =>
    refine .mp id u ho ?_
    rcases h with h | ⟨l, b, c, h1, h2, h3⟩
    · exact .inl (dd _ h)
    · obtain ⟨o', bm', k1, k2, k3⟩ := O id _ _ h1 h2
      cases o' <;> simp only [OLe] at k3
      · exact .inl k1
      · rename_i l'
        exact .inr ⟨l', b, c, k1, by rw [k2, k3], h3⟩
  | iter id u ho h =>
    refine .iter id u ho ?_
    rcases h with h | ⟨it, b, c, h1, hit, h2, h3⟩
    · exact .inl (dd _ h)
    · obtain ⟨o', bm', k1, k2, k3⟩ := O id _ _ h1 h2
      cases it <;> simp only [VO.isIt, Bool.false_eq_true] at hit
      · cases o' <;> simp only [OLe] at k3
        · exact .inl k1
        · exact .inr ⟨_, b, c, k1, rfl, by rw [k2, k3], h3⟩
      · cases o' <;> simp only [OLe] at k3
        · exact .inl k1
        · exact .inr ⟨_, b, c, k1, rfl, by rw [k2, k3], h3⟩
  | agg cs us hl hv ih => exact .agg cs us hl ih
  | tup cs us hl hv ih => exact .tup cs us hl ih
  | fn f xs ys us ts hl hl' hv hv' ih ih' => exact .fn f xs ys us ts hl hl' ih ih'
  | ifc t v u h ih => exact .ifc t v u ih

end Go.VL

/- The value-level logic: what each operation of a function does to abstract values, as a predicate on what follows. Conditions: none (definitions, and small lemmas). -/
namespace Go.VL

inductive TD where
  | other
  | int
  | str
  | bool
  | slice (e : TypeId)
  | struct (fs : List (Nat × TypeId))
  | array (n : Nat) (e : TypeId)
  | map (k e : TypeId)
  | ptr
  | func
  | iface
  deriving Inhabited

/-- A plain cell's kind. -/
inductive PK where
  | int (k : IntKind)
  | bool
  | str
  deriving Inhabited

/-- What is needed of a type's row. -/
structure Ty where
  known : Bool := false
  agg : Bool := false
  size : Nat := 1
  bytes : Nat := 8
  zero : List Value := []
  d : TD := .other
  eqs : Bool := false
  eqk : List PK := []
  deriving Inhabited

structure Cfg where
  P : Program
  T : TypeId → Ty
  esc : List Tmp := []
  wrt : List Tmp := []
  frz : List Tmp := []

def ofVal0 : Value → V
  | .bool b => .bool b
  | .int k n => .int k n
  | .string s => .str s
  | .pointer a => bif a.isNone then .nilp else .undef
  | .slice a n c => bif a.isNone && Nat.beq n 0 && Nat.beq c 0 then .sl true false 0 [] else .undef
  | .map r => bif r.isNone then .nilm else .undef
  | .nilFunc => .nilf
  | .nilIface => .nili
  | .func f xs ys => bif xs.isEmpty && ys.isEmpty then .fn f [] [] else .undef
  | _ => .undef

def ofVal : Value → V
  | .agg cs => .agg (cs.toList.map ofVal0)
  | v => ofVal0 v

def opv (fr : Fr) : Operand → V
  | .tmp t => lk fr t
  | .const v => ofVal v
  | .func f => .fn (.func f) [] []
  | .global g => (match globs g with | some cs => .ip cs | none => .undef)

/-- No object is meant, however deep. -/
def imm0 : V → Bool
  | .undef | .int _ _ | .bool _ | .str _ | .nilp | .nilf | .nili | .nilm | .sl _ _ _ _ | .ip _ | .im _ => true
  | _ => false
def imm1 : V → Bool
  | .fn _ xs ys => xs.all imm0 && ys.all imm0
  | v => imm0 v
def immV : V → Bool
  | .agg cs => cs.all imm1
  | .tup cs => cs.all imm1
  | .ifc _ v => imm1 v
  | v => imm1 v

/-- One cell's value, that may be stored. -/
def cell1 : V → Bool
  | .undef | .agg _ | .tup _ | .cell _ | .lref _ _ => false
  | _ => true
def okv : V → Bool
  | .agg cs => cs.all cell1
  | v => cell1 v

def zeroC (ty : Ty) : List V := ty.zero.map ofVal0
def zeroOf (ty : Ty) : V := bif ty.agg then .agg (zeroC ty) else (zeroC ty).headD .undef

def setCells (cs : List V) : Nat → List V → List V
  | _, [] => cs
  | off, v :: vs => setCells (cs.set off v) (off + 1) vs

def bytesV (s : ByteArray) : List V := s.data.toList.map fun b => .int .u8 b.toNat

def ibits (op : BinOp) (k : IntKind) (x y : Int) : Int :=
  let a := BitVec.ofInt k.bits x
  let b := BitVec.ofInt k.bits y
  match op with
  | .and => k.wrap (a &&& b).toNat
  | .or => k.wrap (a ||| b).toNat
  | .xor => k.wrap (a ^^^ b).toNat
  | _ => k.wrap (a &&& ~~~b).toNat

def strEq (a b : ByteArray) : Bool := a.toList == b.toList
def strLt (a b : ByteArray) : Bool := Op.bytesLess a.toList b.toList

/-- Cells of numbers, bools, texts: the same? -/
def cellEq : V → V → Bool
  | .int k a, .int k' b => k == k' && a == b
  | .bool a, .bool b => a == b
  | .str a, .str b => strEq a b
  | _, _ => false
def cellsEq : List V → List V → Bool
  | [], [] => true
  | a :: x, b :: y => cellEq a b && cellsEq x y
  | _, _ => false
def plainCell : V → Bool
  | .int _ _ | .bool _ | .str _ => true
  | _ => false

/-- Cells of these kinds. -/
def mk : List PK → List V → Bool
  | [], [] => true
  | .int k :: r, .int k' _ :: vs => k' == k && mk r vs
  | .bool :: r, .bool _ :: vs => mk r vs
  | .str :: r, .str _ :: vs => mk r vs
  | _, _ => false

def vint (op : BinOp) (k : IntKind) (a b : Int) (K : V → Prop) : Prop :=
  match op with
  | .add => K (.int k (k.wrap (a + b)))
  | .sub => K (.int k (k.wrap (a - b)))
  | .mul => K (.int k (k.wrap (a * b)))
  | .quo => b ≠ 0 ∧ K (.int k (k.wrap (a.tdiv b)))
  | .rem => b ≠ 0 ∧ K (.int k (a.tmod b))
  | .and => K (.int k (ibits .and k a b))
  | .or => K (.int k (ibits .or k a b))
  | .xor => K (.int k (ibits .xor k a b))
  | .andNot => K (.int k (ibits .andNot k a b))
  | .eql => K (.bool (a == b))
  | .neq => K (.bool (a != b))
  | .lss => K (.bool (decide (a < b)))
  | .leq => K (.bool (decide (a ≤ b)))
  | .gtr => K (.bool (decide (b < a)))
  | .geq => K (.bool (decide (b ≤ a)))
  | .shl | .shr => False

def vshift (op : BinOp) (k : IntKind) (a b : Int) (K : V → Prop) : Prop :=
  match op with
  | .shl => 0 ≤ b ∧ K (.int k (k.wrap (a * 2 ^ (min b.toNat k.bits))))
  | .shr => 0 ≤ b ∧ K (.int k (a.fdiv (2 ^ (min b.toNat k.bits))))
  | _ => False

def isShift : BinOp → Bool
  | .shl | .shr => true
  | _ => false

def vstr (op : BinOp) (a b : ByteArray) (K : V → Prop) : Prop :=
  match op with
  | .eql => K (.bool (strEq a b))
  | .neq => K (.bool (!strEq a b))
  | .lss => K (.bool (strLt a b))
  | .leq => K (.bool (strLt a b || strEq a b))
  | .gtr => K (.bool (!(strLt a b || strEq a b)))
  | .geq => K (.bool (!strLt a b))
  | _ => False

/-- Is a value that may be nil nil? -/
def nilB (σ : St) : V → Option Bool
  | .sl nl _ _ _ => some nl
  | .rsl id g _ _ => match σ[id]? with
    | some (.arr nl g0 _ _) => bif Nat.beq g g0 then some nl else none
    | _ => none
  | .nilp => some true
  | .ptr id _ => match σ[id]? with
    | some (.box _) => some false
    | _ => none
  | .ip _ => some false
  | .nilf => some true
  | .fn _ _ _ => some false
  | .nili => some true
  | .ifc _ _ => some false
  | .nilm => some true
  | .mp id => match σ[id]? with
    | some (.map _) => some false
    | _ => none
  | .im _ => some false
  | _ => none
def isNilV : V → Bool
  | .sl nl _ _ _ => nl
  | .nilp | .nilf | .nili | .nilm => true
  | _ => false

def kindOk : TD → V → Bool
  | .slice _, .sl _ _ _ _ | .slice _, .rsl _ _ _ _ => true
  | .ptr, .nilp | .ptr, .ptr _ _ | .ptr, .ip _ => true
  | .func, .nilf | .func, .fn _ _ _ => true
  | .map _ _, .nilm | .map _ _, .mp _ | .map _ _, .im _ => true
  | _, _ => false

def eqK (op : BinOp) (b : Bool) (K : V → Prop) : Prop :=
  match op with
  | .eql => K (.bool b)
  | .neq => K (.bool (!b))
  | _ => False

def vbin (C : Cfg) (σ : St) (op : BinOp) (t : TypeId) (x y : V) (K : V → Prop) : Prop :=
  match x with
  | .int k a => match y with
    | .int k' b => bif isShift op then vshift op k a b K else (k = k' ∧ vint op k a b K)
    | _ => False
  | .bool a => match y with
    | .bool b => (C.T t).d matches .bool ∧ (C.T t).known = true ∧ eqK op (a == b) K
    | _ => False
  | .str a => match y with
    | .str b => vstr op a b K
    | _ => False
  | .agg xs => match y with
    | .agg ys => (C.T t).eqs = true ∧ (C.T t).known = true ∧ mk (C.T t).eqk xs = true ∧ mk (C.T t).eqk ys = true ∧ eqK op (cellsEq xs ys) K
    | _ => False
  | x => (C.T t).known = true ∧ (kindOk (C.T t).d x && kindOk (C.T t).d y) = true ∧ (bif isNilV y then ((∃ b, nilB σ x = some b ∧ eqK op b K)) else (isNilV x = true ∧ ∃ b, nilB σ y = some b ∧ eqK op b K))

def vun (op : UnOp) (x : V) (K : V → Prop) : Prop :=
  match op with
  | .not => match x with
    | .bool b => K (.bool (!b))
    | _ => False
  | .neg => match x with
    | .int k n => K (.int k (k.wrap (0 - n)))
    | _ => False
  | .xor => match x with
    | .int k n => K (.int k (ibits .xor k (bif k.signed then -1 else k.max) n))
    | _ => False
  | .plus => False

/-- The cells from a pointer on. -/
def vcells (fr : Fr) (σ : St) (v : V) (K : List V → Prop) : Prop :=
  match v with
  | .ip cs => K cs
  | .cell cs => K cs
  | .lref s off => match lk fr s with
    | .cell cs => K (cs.drop off)
    | _ => False
  | .ptr id off => match σ[id]? with
    | some (.box cs) => K (cs.drop off)
    | _ => False
  | .eptr id g i off => match σ[id]? with
    | some (.arr _ g0 _ es) => g = g0 ∧ K ((es.getD i .undef).cells.drop off)
    | _ => False
  | _ => False

def vload (C : Cfg) (t : TypeId) (cs : List V) (K : V → Prop) : Prop :=
  (C.T t).known = true ∧ bif (C.T t).agg then (C.T t).size ≤ cs.length ∧ K (.agg (cs.take (C.T t).size)) else (match cs with | c :: _ => K c | [] => False)

/-- A pointer, moved on by some cells. -/
def vshiftP (fr : Fr) (σ : St) (x : Operand) (v : V) (off : Nat) (K : V → Prop) : Prop :=
  match v with
  | .ip cs => K (.ip (cs.drop off))
  | .cell _ => match x with
    | .tmp s => K (.lref s off)
    | _ => False
  | .lref s o => match lk fr s with
    | .cell _ => K (.lref s (o + off))
    | _ => False
  | .ptr id o => match σ[id]? with
    | some (.box _) => K (.ptr id (o + off))
    | _ => False
  | .eptr id g i o => match σ[id]? with
    | some (.arr _ g0 _ _) => g = g0 ∧ K (.eptr id g i (o + off))
    | _ => False
  | _ => False

def vpart (C : Cfg) (t : TypeId) (cs : List V) (off : Nat) (K : V → Prop) : Prop :=
  (C.T t).known = true ∧ bif (C.T t).agg then K (.agg ((cs.drop off).take (C.T t).size)) else (off < cs.length ∧ K (cs.getD off .undef))

def vlen (C : Cfg) (σ : St) (t : TypeId) (v : V) (K : V → Prop) : Prop :=
  (C.T t).known = true ∧
  match (C.T t).d with
  | .slice _ => (match v with
    | .sl _ _ _ es => K (.int .i64 es.length)
    | .rsl id g lo hi => (match σ[id]? with
      | some (.arr _ g0 _ _) => g = g0 ∧ K (.int .i64 ((hi - lo : Nat) : Int))
      | _ => False)
    | _ => False)
  | .str => (match v with
    | .str s => K (.int .i64 s.size)
    | _ => False)
  | .map _ _ => (match v with
    | .nilm => K (.int .i64 0)
    | .mp id => (match σ[id]? with
      | some (.map l) => K (.int .i64 l.length)
      | _ => False)
    | _ => False)
  | .array n _ => K (.int .i64 n)
  | _ => False

/-- The room of a row that is nil. -/
def vcap (C : Cfg) (t : TypeId) (v : V) (K : V → Prop) : Prop :=
  (C.T t).known = true ∧
  match (C.T t).d with
  | .slice _ => (match v with
    | .sl true _ _ [] => K (.int .i64 0)
    | _ => False)
  | _ => False

/-- A bound of a slice's cut. -/
def bnd (fr : Fr) (d : Nat) : Option Operand → Option Int
  | none => some d
  | some x => match opv fr x with
    | .int _ n => some n
    | _ => none

def vslice (C : Cfg) (fr : Fr) (σ : St) (t : TypeId) (x : Operand) (lo hi mx : Option Operand) (K : V → Prop) : Prop :=
  match opv fr x with
  | .sl nl clip sz es => match (C.T t).d, bnd fr 0 lo, bnd fr es.length hi with
    | .slice e, some l, some h => (C.T t).known = true ∧ (C.T e).known = true ∧ sz = (C.T e).size ∧ (0 ≤ l ∧ l ≤ h ∧ h ≤ es.length) ∧
        (match mx with
         | none => K (.sl nl (clip && h.toNat == es.length) sz ((es.take h.toNat).drop l.toNat))
         | some m => bnd fr 0 (some m) = some h ∧ hi.isSome = true ∧ K (.sl nl true sz ((es.take h.toNat).drop l.toNat)))
    | _, _, _ => False
  | .rsl id g lo0 hi0 => match (C.T t).d, bnd fr 0 lo, bnd fr (hi0 - lo0) hi, σ[id]? with
    | .slice e, some l, some h, some (.arr _ g0 sz es) => (C.T t).known = true ∧ (C.T e).known = true ∧ sz = (C.T e).size ∧ g = g0 ∧ (0 ≤ l ∧ l ≤ h ∧ (h ≤ ((hi0 - lo0 : Nat) : Int) ∨ h ≤ ((es.length - lo0 : Nat) : Int))) ∧
        (match mx with
         | none => K (.rsl id g (lo0 + l.toNat) (lo0 + h.toNat))
         | some m => hi.isSome = true ∧ (∃ mv, bnd fr 0 (some m) = some mv ∧ h ≤ mv ∧ mv ≤ ((hi0 - lo0 : Nat) : Int)) ∧ K .undef)
    | _, _, _, _ => False
  | .str s => match (C.T t).d, bnd fr 0 lo, bnd fr s.size hi, mx with
    | .str, some l, some h, none => (C.T t).known = true ∧ (0 ≤ l ∧ l ≤ h ∧ h ≤ s.size) ∧ K (.str (s.extract l.toNat h.toNat))
    | _, _, _, _ => False
  | .ip cs => match (C.T t).d, lo, hi, mx with
    | .array n e, none, none, none => (C.T t).known = true ∧ (C.T e).known = true ∧ (C.T e).agg = false ∧ (C.T e).size = 1 ∧ n ≤ cs.length ∧ cs.all cell1 = true ∧ K (.sl false true 1 (cs.take n))
    | _, _, _, _ => False
  | _ => False

def fillV (C : Cfg) (places : Nat → Option (Nat × TypeId)) : List V → List (Nat × V) → (List V → Prop) → Prop
  | cs, [], K => K cs
  | cs, (i, v) :: r, K => match places i with
    | some (off, t) => (C.T t).known = true ∧ okv v = true ∧ v.cells.length = (C.T t).size ∧ off + v.cells.length ≤ cs.length ∧ fillV C places (setCells cs off v.cells) r K
    | none => False

def vbuild (C : Cfg) (fr : Fr) (t : TypeId) (parts : List (Nat × Operand)) (K : V → Prop) : Prop :=
  (C.T t).known = true ∧
  match (C.T t).d with
  | .struct fs => (fs.all fun f => (C.T f.2).known) = true ∧ fillV C (fun i => fs[i]?) (zeroC (C.T t)) (parts.map fun p => (p.1, opv fr p.2)) (fun cs => K (.agg cs))
  | .array _ e => (C.T e).known = true ∧ fillV C (fun i => some (i * (C.T e).size, e)) (zeroC (C.T t)) (parts.map fun p => (p.1, opv fr p.2)) (fun cs => K (.agg cs))
  | _ => False

def inOrder : Nat → List (Nat × Operand) → Bool
  | _, [] => true
  | i, p :: r => Nat.beq p.1 i && inOrder (i + 1) r

def vbuildSlice (C : Cfg) (fr : Fr) (t : TypeId) (n : Nat) (parts : List (Nat × Operand)) (K : V → Prop) : Prop :=
  (C.T t).known = true ∧
  match (C.T t).d with
  | .slice e => (C.T e).known = true ∧ n = parts.length ∧ n * (C.T e).size ≤ 16777216 ∧ inOrder 0 parts = true ∧ (parts.map fun p => opv fr p.2).all (fun v => okv v && immV v && Nat.beq v.cells.length (C.T e).size) = true ∧
      K (.sl false true (C.T e).size (parts.map fun p => opv fr p.2))
  | _ => False

def keq : V → V → Bool
  | .int _ a, .int _ b => a == b
  | .str a, .str b => a == b
  | .bool a, .bool b => a == b
  | .agg xs, .agg ys => cellsEq xs ys
  | _, _ => false
/-- Rows of plain cells, kind by kind. -/
def kindsEq : List V → List V → Bool
  | [], [] => true
  | .int k _ :: xs, .int k' _ :: ys => k == k' && kindsEq xs ys
  | .str _ :: xs, .str _ :: ys => kindsEq xs ys
  | .bool _ :: xs, .bool _ :: ys => kindsEq xs ys
  | _, _ => false
/-- Keys of one plain kind. -/
def sameKind : V → V → Bool
  | .int k _, .int k' _ => k == k'
  | .str _, .str _ => true
  | .bool _, .bool _ => true
  | .agg xs, .agg ys => kindsEq xs ys
  | _, _ => false
def keyD : TD → V → Bool
  | .int, .int _ _ => true
  | .str, .str _ => true
  | .bool, .bool _ => true
  | _, _ => false
def vget (l : List (V × V)) (k : V) : Option V := (l.find? fun kv => keq k kv.1).map (·.2)
def vput (l : List (V × V)) (k v : V) : List (V × V) :=
  match l with
  | [] => [(k, v)]
  | kv :: r => bif keq k kv.1 then (k, v) :: r else kv :: vput r k v

/-- A key: plain, or an array of plain cells. -/
def keyA (ty : Ty) : V → Bool
  | .agg cs => (match ty.d with | .array _ _ => ty.eqs && mk ty.eqk cs | _ => false)
  | _ => false
def keyB (ty : Ty) (k : V) : Bool := keyD ty.d k || keyA ty k
/-- An array is a key that is laid but once. -/
def updB (l : List (V × V)) (k : V) : Bool := match k with
  | .agg _ => (vget l k).isNone
  | _ => true

def vlookup (C : Cfg) (σ : St) (t : TypeId) (x k : V) (ok : Bool) (K : V → Prop) : Prop :=
  (C.T t).known = true ∧
  match (C.T t).d with
  | .map kt e => (C.T kt).known = true ∧ (C.T e).known = true ∧ keyB (C.T kt) k = true ∧
    (match x with
    | .nilm => K (bif ok then .tup [zeroOf (C.T e), .bool false] else zeroOf (C.T e))
    | .mp id => (match σ[id]? with
      | some (.map l) => (l.all fun kv => sameKind k kv.1) = true ∧
          (match vget l k with
          | some v => K (bif ok then .tup [v, .bool true] else v)
          | none => K (bif ok then .tup [zeroOf (C.T e), .bool false] else zeroOf (C.T e)))
      | _ => False)
    | .im l => (l.all fun kv => sameKind k kv.1) = true ∧
          (match vget l k with
          | some v => K (bif ok then .tup [v, .bool true] else v)
          | none => K (bif ok then .tup [zeroOf (C.T e), .bool false] else zeroOf (C.T e)))
    | _ => False)
  | _ => False

def vconv (C : Cfg) (σ : St) (s d : TypeId) (x : V) (K : V → Prop) : Prop :=
  (C.T s).known = true ∧ (C.T d).known = true ∧
  match x with
  | .int _ n => (match (C.T d).d, (C.T d).zero with
    | .int, .int k _ :: _ => K (.int k (k.wrap n))
    | _, _ => False)
  | .str t => (match (C.T d).d with
    | .str => K (.str t)
    | _ => False)
  | .sl _ _ sz es => (match (C.T s).d, (C.T d).d with
    | .slice e, .str => (C.T e).known = true ∧ (match (C.T e).d, (C.T e).zero with | .int, .int .u8 _ :: _ => True | _, _ => False) ∧ sz = 1 ∧
        ∃ bs : List UInt8, es = bs.map (fun b => V.int .u8 b.toNat) ∧ K (.str ⟨bs.toArray⟩)
    | _, _ => False)
  | _ => False

def intsOf : List V → Option (List (IntKind × Int))
  | [] => some []
  | .int k n :: r => (intsOf r).map ((k, n) :: ·)
  | _ => none

/-- The entry of a map that a range has come to. -/
def ventry (σ : St) (x : V) (K : V → Prop) : Prop :=
  match x with
  | .ptr id off => (match σ[id]? with
    | some (.iter mid n _ cur) => (match σ[mid]? with
      | some (.map l) => off = 0 ∧ l.length = n ∧ ∃ i kv, cur = some i ∧ l[i]? = some kv ∧ K (.tup [kv.1, kv.2])
      | _ => False)
    | _ => False)
  | _ => False

/-- Operations that change nothing that there is. -/
def vq (C : Cfg) (fr : Fr) (σ : St) (op : Op) (K : V → Prop) : Prop :=
  match op with
  | .move x | .assign x => (opv fr x).isVal = true ∧ K (opv fr x)
  | .pick c a b => match opv fr c with
    | .bool t => (bif t then opv fr a else opv fr b).isVal = true ∧ K (bif t then opv fr a else opv fr b)
    | _ => False
  | .binOp op t x y _ => vbin C σ op t (opv fr x) (opv fr y) K
  | .unOp op _ x => vun op (opv fr x) K
  | .convert s d x => vconv C σ s d (opv fr x) K
  | .load t a => vcells fr σ (opv fr a) fun cs => vload C t cs K
  | .fieldAddr t x i => (C.T t).known = true ∧ (match (C.T t).d with
    | .struct fs => (match fs[i]? with
      | some (off, ft) => (C.T ft).known = true ∧ 0 < (C.T ft).size ∧ vshiftP fr σ x (opv fr x) off K
      | none => False)
    | _ => False)
  | .field t x i => (C.T t).known = true ∧ (match (C.T t).d, opv fr x with
    | .struct fs, .agg cs => (match fs[i]? with
      | some (off, ft) => vpart C ft cs off K
      | none => False)
    | _, _ => False)
  | .indexAddr t x i => (C.T t).known = true ∧ (match opv fr i with
    | .int _ n => (match (C.T t).d with
      | .slice e => (C.T e).known = true ∧ (match opv fr x with
        | .sl _ _ sz es => sz = (C.T e).size ∧ (0 ≤ n ∧ n < es.length) ∧ K (.ip (es.getD n.toNat .undef).cells)
        | .rsl id g lo hi => (match σ[id]? with
          | some (.arr _ g0 sz _) => g = g0 ∧ sz = (C.T e).size ∧ (0 ≤ n ∧ n < ((hi - lo : Nat) : Int)) ∧ K (.eptr id g (lo + n.toNat) 0)
          | _ => False)
        | _ => False)
      | .array len e => (C.T e).known = true ∧ (0 ≤ n ∧ n < len) ∧ vshiftP fr σ x (opv fr x) (n.toNat * (C.T e).size) K
      | _ => False)
    | _ => False)
  | .index t x i => (C.T t).known = true ∧ (match opv fr i with
    | .int _ n => (match (C.T t).d, opv fr x with
      | .array len e, .agg cs => (C.T e).known = true ∧ (0 ≤ n ∧ n < len) ∧ vpart C e cs (n.toNat * (C.T e).size) K
      | .str, .str s => (0 ≤ n ∧ n < s.size) ∧ K (.int .u8 (s.data.toList.getD n.toNat 0).toNat)
      | _, _ => False)
    | _ => False)
  | .slice t x lo hi mx => vslice C fr σ t x lo hi mx K
  | .build t parts => vbuild C fr t parts.toList K
  | .buildSlice t n parts => vbuildSlice C fr t n parts.toList K
  | .makeFunc f xs ys => ((xs.toList.map (opv fr)).all V.isVal && (ys.toList.map (opv fr)).all V.isVal) = true ∧ K (.fn f (xs.toList.map (opv fr)) (ys.toList.map (opv fr)))
  | .extract t i => match opv fr t with
    | .tup cs => i < cs.length ∧ (cs.getD i .undef).isVal = true ∧ K (cs.getD i .undef)
    | _ => False
  | .lookup t x k ok => vlookup C σ t (opv fr x) (opv fr k) ok K
  | .entry x => ventry σ (opv fr x) K
  | .nilCheck x => match opv fr x with
    | .ptr id off => (match σ[id]? with
      | some (.box _) => K (.ptr id off)
      | _ => False)
    | .ip cs => K (.ip cs)
    | .fn (.func f) xs ys => K (.fn (.func f) xs ys)
    | _ => False
  | .call { callee := .builtin b, args, argTypes } => (match b, args.toList, argTypes.toList with
    | .len, [x], [t] => vlen C σ t (opv fr x) K
    | .cap, [x], [t] => vcap C t (opv fr x) K
    | .min, x :: xs, _ => (match intsOf ((x :: xs).map (opv fr)) with
      | some ((k, n) :: r) => K (.int k (r.foldl (fun m y => if y.2 < m then y.2 else m) n))
      | _ => False)
    | .max, x :: xs, _ => (match intsOf ((x :: xs).map (opv fr)) with
      | some ((k, n) :: r) => K (.int k (r.foldl (fun m y => if y.2 > m then y.2 else m) n))
      | _ => False)
    | _, _, _ => False)
  | _ => False

end Go.VL

/- The value-level logic, second part: operations that write, calls, regions, code. Conditions: none (definitions). -/
namespace Go.VL

/-- Memory, as a caller sees it behind a call: m0, σ0, w0 ahead of it. -/
structure Ext (m0 : Mp) (σ0 : St) (w0 : World) (m : Mp) (σ : St) (w : World) : Prop where
  sz : w0.heap.size ≤ w.heap.size
  os : w.os = w0.os
  tape : w.tape = w0.tape
  output : w.output = w0.output
  blk : ∀ b, b < w0.heap.size → (∀ (i c : Nat), m0[i]? ≠ some (some (b, c))) → w.heap[b]? = w0.heap[b]?
  new : ∀ (i b c : Nat), m[i]? = some (some (b, c)) → (∃ j d : Nat, m0[j]? = some (some (b, d))) ∨ w0.heap.size ≤ b
  objs : ObjsLe m0 σ0 m σ

/-- A function that is entered with these values comes back, with what K tells. -/
def VCalls (P : Program) (f : FuncId) (args : List V) (σ : St) (K : V → St → Prop) : Prop :=
  (∃ fn, P.funcs[f]? = some fn ∧ fn.body.isSome = true ∧ (fn.name == "runtime.NumGoroutine") = false) ∧
  ∀ (A : Nat → Prop) (m : Mp) (w : World) (us : List Value), Rel A m σ w → VRs A m σ w args us →
    Calls P f us.toArray w (fun e w' => ∃ r u m' σ', e = .returned u ∧ VR A m' σ' w' r u ∧ Rel A m' σ' w' ∧ Ext m σ w m' σ' w' ∧ K r σ')

theorem VCalls.mono {P : Program} {f : FuncId} {args : List V} {σ : St} {K K' : V → St → Prop} (h : VCalls P f args σ K) (hk : ∀ r σ', K r σ' → K' r σ') : VCalls P f args σ K' :=
  ⟨h.1, fun A m w us hr hv => (h.2 A m w us hr hv).mono fun _ _ ⟨r, u, m', σ', h1, h2, h3, h4, h5⟩ => ⟨r, u, m', σ', h1, h2, h3, h4, hk _ _ h5⟩⟩

/-- A round of a range over a function that is entered with these values ends, with what K tells. -/
def VYield (P : Program) (l : Nat) (args : List V) (σ : St) (K : V → St → Prop) : Prop :=
  ∀ (A : Nat → Prop) (m : Mp) (w : World) (us : List Value), Rel A m σ w → VRs A m σ w args us →
    YieldAt Fence.wide 0 P l us.toArray w (fun e w' => ∃ r u m' σ', e = .returned u ∧ VR A m' σ' w' r u ∧ Rel A m' σ' w' ∧ Ext m σ w m' σ' w' ∧ K r σ')

theorem VYield.mono {P : Program} {l : Nat} {args : List V} {σ : St} {K K' : V → St → Prop} (h : VYield P l args σ K) (hk : ∀ r σ', K r σ' → K' r σ') : VYield P l args σ K' :=
  fun A m w us hr hv => let ⟨fn, tmps, as, body, h1, h2⟩ := h A m w us hr hv; ⟨fn, tmps, as, body, h1, h2.mono fun _ _ ⟨r, u, m', σ', h1, h2, h3, h4, h5⟩ => ⟨r, u, m', σ', h1, h2, h3, h4, hk _ _ h5⟩⟩

def memB : List Nat → Nat → Bool
  | [], _ => false
  | a :: l, i => Nat.beq a i || memB l i

def putd (fr : Fr) (o : Oper) (v : V) : Fr := match o.dst with
  | some d => (d, v) :: fr
  | none => fr

def isLref (d : Nat) : V → Bool
  | .lref s _ => Nat.beq s d
  | _ => false
def noLref (d : Nat) (fr : Fr) : Bool := fr.all fun p => !isLref d p.2

def reEl (old : V) (cs : List V) : V := match old with
  | .agg _ => .agg cs
  | _ => cs.headD .undef

def vstore (fr : Fr) (σ : St) (a : Operand) (vs : List V) (K : Fr → St → Prop) : Prop :=
  match opv fr a with
  | .cell cs => (match a with
    | .tmp s => vs.length ≤ cs.length ∧ K ((s, .cell (setCells cs 0 vs)) :: fr) σ
    | _ => False)
  | .lref s off => (match lk fr s with
    | .cell cs => off + vs.length ≤ cs.length ∧ K ((s, .cell (setCells cs off vs)) :: fr) σ
    | _ => False)
  | .ptr id off => (match σ[id]? with
    | some (.box cs) => off + vs.length ≤ cs.length ∧ K fr (σ.set id (.box (setCells cs off vs)))
    | _ => False)
  | .eptr id g i off => (match σ[id]? with
    | some (.arr nl g0 sz es) => g = g0 ∧ vs.all imm1 = true ∧ off + vs.length ≤ sz ∧
        K fr (σ.set id (.arr nl g0 sz (es.set i (reEl (es.getD i .undef) (setCells (es.getD i .undef).cells off vs)))))
    | _ => False)
  | _ => False

def lim : Nat := 4294967296

/-- What is appended. -/
def vsrc (C : Cfg) (σ : St) (e xt : TypeId) (x : V) (K : List V → Prop) : Prop :=
  match x with
  | .sl _ _ sz es => (match (C.T xt).d with | .slice _ => True | _ => False) ∧ (es = [] ∨ sz = (C.T e).size) ∧ K es
  | .rsl id g lo hi => (match (C.T xt).d with | .slice _ => True | _ => False) ∧ (match σ[id]? with
    | some (.arr _ g0 sz es) => g = g0 ∧ sz = (C.T e).size ∧ K ((es.take hi).drop lo)
    | _ => False)
  | .str s => (match (C.T xt).d with | .str => True | _ => False) ∧ (C.T e).size = 1 ∧ K (bytesV s)
  | .int .i64 n => (match (C.T xt).d with | .int => True | _ => False) ∧ 0 ≤ n ∧ n ≤ lim ∧ (zeroC (C.T e)).all cell1 = true ∧ K (List.replicate n.toNat (zeroOf (C.T e)))
  | _ => False

def isFrz (C : Cfg) (o : Oper) : Bool := match o.dst with
  | some d => memB C.frz d
  | none => false

/-- Appends that lay over what lies behind a cut's end, in its place. -/
def isInp (C : Cfg) (o : Oper) : Bool := match o.dst with
  | some d => memB C.esc d
  | none => false

def vappend (C : Cfg) (fr : Fr) (σ : St) (o : Oper) (s x : V) (st xt : TypeId) (K : Fr → St → Prop) : Prop :=
  (C.T st).known = true ∧ (C.T xt).known = true ∧
  match (C.T st).d with
  | .slice e => (C.T e).known = true ∧ 0 < (C.T e).size ∧ (C.T e).bytes ≤ 4096 ∧ vsrc C σ e xt x fun src =>
      (match s with
      | .sl nl clip sz es => (nl || clip) = true ∧ (es = [] ∨ sz = (C.T e).size) ∧ es.length + src.length ≤ lim ∧
          bif isFrz C o then K (putd fr o (.sl (nl && src.isEmpty) false (C.T e).size (es ++ src))) σ
          else ((es = [] ∨ src ≠ []) ∧ K (putd fr o (.rsl σ.length 0 0 (es.length + src.length))) (σ ++ [.arr (nl && src.isEmpty) 0 (C.T e).size (es ++ src)]))
      | .rsl id g lo hi => (match σ[id]? with
        | some (.arr nl g0 sz es) => bif isInp C o then (g = g0 ∧ sz = (C.T e).size ∧ lo = 0 ∧ 0 < es.length ∧ hi + src.length ≤ es.length ∧ K (putd fr o (.rsl id g 0 (hi + src.length))) (σ.set id (.arr nl g0 sz (es.take hi ++ src ++ es.drop (hi + src.length)))))
          else g = g0 ∧ sz = (C.T e).size ∧ lo = 0 ∧ hi = es.length ∧ es.length + src.length ≤ lim ∧
            bif isFrz C o then K (putd fr o (.sl (nl && src.isEmpty) false sz (es ++ src))) (σ.set id .dead)
            else K (putd fr o (.rsl id (g0 + 1) 0 (es.length + src.length))) (σ.set id (.arr (nl && src.isEmpty) (g0 + 1) sz (es ++ src)))
        | _ => False)
      | _ => False)
  | _ => False

/-- A range over a map, or a text, begins. -/
def vrange (C : Cfg) (σ : St) (t : TypeId) (x : V) (K : V → St → Prop) : Prop :=
  (C.T t).known = true ∧ match (C.T t).d with
  | .map _ _ => (match x with
    | .mp id => (match σ[id]? with
      | some (.map l) => K (.ptr σ.length 0) (σ ++ [.iter id l.length (List.range l.length) none])
      | _ => False)
    | _ => False)
  | .str => (match x with
    | .str s => K (.ptr σ.length 0) (σ ++ [.siter s 0])
    | _ => False)
  | _ => False
/-- A range's step: a map's entries come in any order; a text's bytes, where they are ASCII. -/
def vnext (σ : St) (isS : Bool) (x : V) (K : V → St → Prop) : Prop :=
  match x with
  | .ptr id off => off = 0 ∧ (match σ[id]? with
    | some (.iter mid n left _) => isS = false ∧ (match σ[mid]? with
      | some (.map l) => l.length = n ∧ (left = [] → K (.tup [.bool false]) σ) ∧ ∀ i kv, i ∈ left → l[i]? = some kv → K (.tup [.bool true, kv.1, kv.2]) (σ.set id (.iter mid n (left.erase i) (some i)))
      | _ => False)
    | some (.siter s pos) => isS = true ∧ bif Nat.blt pos s.size then ((s.data.toList.getD pos 0).toNat < 128 ∧ K (.tup [.bool true, .int .i64 pos, .int .i32 (s.data.toList.getD pos 0).toNat]) (σ.set id (.siter s (pos + 1)))) else K (.tup [.bool false]) σ
    | _ => False)
  | _ => False
/-- A row of noughts is made. -/
def vmake (C : Cfg) (σ : St) (t : TypeId) (l c : V) (K : V → St → Prop) : Prop :=
  (C.T t).known = true ∧ match (C.T t).d with
  | .slice e => (C.T e).known = true ∧ 0 < (C.T e).size ∧ (C.T e).bytes ≤ 4096 ∧ (zeroC (C.T e)).all cell1 = true ∧ (match l with
    | .int .i64 n => (match c with
      | .int .i64 n' => n' = n ∧ 0 ≤ n ∧ n ≤ lim ∧ K (.rsl σ.length 0 0 n.toNat) (σ ++ [.arr false 0 (C.T e).size (List.replicate n.toNat (zeroOf (C.T e)))])
      | _ => False)
    | _ => False)
  | _ => False

/-- A row of bytes that is built as an object. -/
def isU8 : V → Bool
  | .int .u8 _ => true
  | _ => false
def vrow (σ : St) (v : V) (K : V → St → Prop) : Prop :=
  match v with
  | .sl _ _ sz es => sz = 1 ∧ 0 < es.length ∧ es.all isU8 = true ∧ K (.rsl σ.length 0 0 es.length) (σ ++ [.arr false 0 sz es])
  | _ => False
/-- A row of bytes is seen as bytes that a text shares: its object dies. -/
def vshare (C : Cfg) (σ : St) (s d : TypeId) (x : V) (K : V → St → Prop) : Prop :=
  Nat.beq s d = true ∧ (C.T s).known = true ∧ match (C.T s).d with
  | .slice e => (C.T e).known = true ∧ (match (C.T e).d, (C.T e).zero with | .int, .int .u8 _ :: _ => True | _, _ => False) ∧ (match x with
    | .rsl id g lo hi => (match σ[id]? with
      | some (.arr nl g0 sz es) => nl = false ∧ g = g0 ∧ sz = 1 ∧ lo = 0 ∧ hi = es.length ∧ es.all isU8 = true ∧ 0 < es.length ∧ K (.sl false false 1 es) (σ.set id .dead)
      | _ => False)
    | _ => False)
  | _ => False
theorem vbuildSlice_mono {C : Cfg} {fr : Fr} {t : TypeId} {n : Nat} {parts : List (Nat × Operand)} {K K' : V → Prop} (hk : ∀ v, K v → K' v) (h : vbuildSlice C fr t n parts K) : vbuildSlice C fr t n parts K' := by
  unfold vbuildSlice at h ⊢
  refine ⟨h.1, ?_⟩
  replace h := h.2
  cases hd : (C.T t).d <;> rw [hd] at h <;> (try simp only at h ⊢) <;> try exact h.elim
  exact ⟨h.1, h.2.1, h.2.2.1, h.2.2.2.1, h.2.2.2.2.1, hk _ h.2.2.2.2.2⟩
theorem vbuildSlice_congr {C : Cfg} {fr M : Fr} {t : TypeId} {n : Nat} {parts : List (Nat × Operand)} {K : V → Prop} (he : (parts.map fun p => opv M p.2) = parts.map fun p => opv fr p.2) : vbuildSlice C M t n parts K = vbuildSlice C fr t n parts K := by
  unfold vbuildSlice
  rw [he]
theorem vrow_mono {σ : St} {v : V} {K K' : V → St → Prop} (hk : ∀ v σ', K v σ' → K' v σ') (h : vrow σ v K) : vrow σ v K' := by
  unfold vrow at h ⊢
  cases v <;> (try simp only at h ⊢) <;> try exact h.elim
  exact ⟨h.1, h.2.1, h.2.2.1, hk _ _ h.2.2.2⟩
theorem vshare_mono {C : Cfg} {σ : St} {s d : TypeId} {x : V} {K K' : V → St → Prop} (hk : ∀ v σ', K v σ' → K' v σ') (h : vshare C σ s d x K) : vshare C σ s d x K' := by
  unfold vshare at h ⊢
  refine ⟨h.1, h.2.1, ?_⟩
  replace h := h.2.2
  cases hd : (C.T s).d <;> rw [hd] at h <;> (try simp only at h ⊢) <;> try exact h.elim
  refine ⟨h.1, h.2.1, ?_⟩
  replace h := h.2.2
  cases x <;> (try simp only at h ⊢) <;> try exact h.elim
  rename_i id g lo hi
  generalize σ[id]? = ob at h ⊢
  cases ob with
  | none => exact h.elim
  | some ob =>
    cases ob <;> (try simp only at h ⊢) <;> try exact h.elim
    exact ⟨h.1, h.2.1, h.2.2.1, h.2.2.2.1, h.2.2.2.2.1, h.2.2.2.2.2.1, h.2.2.2.2.2.2.1, hk _ _ h.2.2.2.2.2.2.2⟩

theorem vrange_mono {C : Cfg} {σ : St} {t : TypeId} {x : V} {K K' : V → St → Prop} (hk : ∀ v σ', K v σ' → K' v σ') (h : vrange C σ t x K) : vrange C σ t x K' := by
  unfold vrange at h ⊢
  refine ⟨h.1, ?_⟩
  replace h := h.2
  cases hd : (C.T t).d <;> rw [hd] at h <;> (try simp only at h ⊢) <;> try exact h.elim
  · cases x <;> (try simp only at h ⊢) <;> try exact h.elim
    exact hk _ _ h
  · cases x <;> (try simp only at h ⊢) <;> try exact h.elim
    rename_i id
    generalize σ[id]? = ob at h ⊢
    cases ob with
    | none => exact h.elim
    | some ob =>
      cases ob <;> (try simp only at h ⊢) <;> try exact h.elim
      exact hk _ _ h
theorem vnext_mono {σ : St} {isS : Bool} {x : V} {K K' : V → St → Prop} (hk : ∀ v σ', K v σ' → K' v σ') (h : vnext σ isS x K) : vnext σ isS x K' := by
  unfold vnext at h ⊢
  cases x <;> (try simp only at h ⊢) <;> try exact h.elim
  rename_i id off
  refine ⟨h.1, ?_⟩
  replace h := h.2
  generalize σ[id]? = ob at h ⊢
  cases ob with
  | none => exact h.elim
  | some ob =>
    cases ob <;> (try simp only at h ⊢) <;> try exact h.elim
    · rename_i mid n left cur
      refine ⟨h.1, ?_⟩
      replace h := h.2
      generalize σ[mid]? = ob at h ⊢
      cases ob with
      | none => exact h.elim
      | some ob =>
        cases ob <;> (try simp only at h ⊢) <;> try exact h.elim
        exact ⟨h.1, fun e => hk _ _ (h.2.1 e), fun i kv h1 h2 => hk _ _ (h.2.2 i kv h1 h2)⟩
    · rename_i s pos
      refine ⟨h.1, ?_⟩
      replace h := h.2
      cases hb : Nat.blt pos s.size <;> rw [hb] at h <;> simp only [cond_true, cond_false] at h ⊢
      · exact hk _ _ h
      · exact ⟨h.1, hk _ _ h.2⟩
theorem vmake_mono {C : Cfg} {σ : St} {t : TypeId} {l c : V} {K K' : V → St → Prop} (hk : ∀ v σ', K v σ' → K' v σ') (h : vmake C σ t l c K) : vmake C σ t l c K' := by
  unfold vmake at h ⊢
  refine ⟨h.1, ?_⟩
  replace h := h.2
  cases hd : (C.T t).d <;> rw [hd] at h <;> (try simp only at h ⊢) <;> try exact h.elim
  refine ⟨h.1, h.2.1, h.2.2.1, h.2.2.2.1, ?_⟩
  replace h := h.2.2.2.2
  cases l <;> (try simp only at h ⊢) <;> try exact h.elim
  rename_i k n
  cases k <;> (try simp only at h ⊢) <;> try exact h.elim
  cases c <;> (try simp only at h ⊢) <;> try exact h.elim
  rename_i k n'
  cases k <;> (try simp only at h ⊢) <;> try exact h.elim
  exact ⟨h.1, h.2.1, h.2.2.1, hk _ _ h.2.2.2⟩

def effect : Op → Bool
  | .range _ _ | .next _ _ | .makeSlice _ _ _ => true
  | .alloc _ | .box _ _ | .store _ _ _ | .insert _ _ _ _ | .mapUpdate _ _ _ _ | .makeMap _ _ => true
  | .call { callee := .builtin .append, .. } => true
  | .call { callee := .builtin .clear, .. } => true
  | .call { callee := .value _, .. } => true
  | _ => false

def ve (C : Cfg) (fr : Fr) (σ : St) (o : Oper) (K : Fr → St → Prop) : Prop :=
  match o.op with
  | .alloc t => (C.T t).known = true ∧ (match o.dst with
    | some d => bif memB C.esc d then K ((d, .ptr σ.length 0) :: fr) (σ ++ [.box (zeroC (C.T t))]) else (noLref d fr = true ∧ K ((d, .cell (zeroC (C.T t))) :: fr) σ)
    | none => False)
  | .box _ x => okv (opv fr x) = true ∧ (match o.dst with
    | some d => bif memB C.esc d then K ((d, .ptr σ.length 0) :: fr) (σ ++ [.box (opv fr x).cells]) else
        (bif memB C.wrt d then (noLref d fr = true ∧ K ((d, .cell (opv fr x).cells) :: fr) σ) else (immV (opv fr x) = true ∧ K ((d, .ip (opv fr x).cells) :: fr) σ))
    | none => False)
  | .store t a x => (C.T t).known = true ∧ okv (opv fr x) = true ∧ (opv fr x).cells.length = (C.T t).size ∧ vstore fr σ a (opv fr x).cells fun fr' σ' => K (putd fr' o (.tup [])) σ'
  | .insert t x k v | .mapUpdate t x k v => (C.T t).known = true ∧ (match (C.T t).d, opv fr x with
    | .map kt et, .mp id => (C.T kt).known = true ∧ keyB (C.T kt) (opv fr k) = true ∧ (opv fr v).isVal = true ∧ (match σ[id]? with
      | some (.map l) => ((l.all fun kv => sameKind (opv fr k) kv.1) && updB l (opv fr k)) = true ∧ K (putd fr o (.tup [])) (σ.set id (.map (vput l (opv fr k) (opv fr v))))
      | _ => False)
    | _, _ => False)
  | .assign x => (opv fr x).isVal = true ∧ K (putd fr o (opv fr x)) σ
  | .buildSlice t n parts => vbuildSlice C fr t n parts.toList fun v => vrow σ v fun v σ' => K (putd fr o v) σ'
  | .convert s d x => vshare C σ s d (opv fr x) fun v σ' => K (putd fr o v) σ'
  | .range t x => vrange C σ t (opv fr x) fun v σ' => K (putd fr o v) σ'
  | .next x s => vnext σ s (opv fr x) fun v σ' => K (putd fr o v) σ'
  | .makeSlice t l c => vmake C σ t (opv fr l) (opv fr c) fun v σ' => K (putd fr o v) σ'
  | .makeMap _ r => r.isNone = true ∧ K (putd fr o (.mp σ.length)) (σ ++ [.map []])
  | .call { callee := .builtin .append, args, argTypes } => (match args.toList, argTypes.toList with
    | [s, x], [st, xt] => vappend C fr σ o (opv fr s) (opv fr x) st xt K
    | _, _ => False)
  | .call { callee := .builtin .clear, args, argTypes } => (match args.toList, argTypes.toList with
    | [x], [t] => (C.T t).known = true ∧ (match (C.T t).d, opv fr x with
      | .slice e, .rsl id g lo hi => (C.T e).known = true ∧ (match σ[id]? with
        | some (.arr nl g0 sz es) => g = g0 ∧ sz = (C.T e).size ∧ 0 < (C.T e).size ∧ (zeroC (C.T e)).all cell1 = true ∧ K (putd fr o (.tup [])) (σ.set id (.arr nl g0 sz (es.take lo ++ List.replicate (hi - lo) (zeroOf (C.T e)) ++ es.drop hi)))
        | _ => False)
      | _, _ => False)
    | _, _ => False)
  | .call { callee := .value f, args, .. } => (match opv fr f with
    | .fn (.func g) first cap => (args.toList.map (opv fr)).all V.isVal = true ∧
        VCalls C.P g (first ++ args.toList.map (opv fr) ++ cap) σ fun r σ' => r.isVal = true ∧ K (putd fr o r) σ'
    | .fn (.yield l) [] [] => (args.toList.map (opv fr)).all V.isVal = true ∧
        VYield C.P l (args.toList.map (opv fr)) σ fun r σ' => r.isVal = true ∧ K (putd fr o r) σ'
    | _ => False)
  | _ => False

def vstep (C : Cfg) (fr : Fr) (σ : St) (o : Oper) (K : Fr → St → Prop) : Prop :=
  bif effect o.op then ve C fr σ o K else vq C fr σ o.op fun v => K (putd fr o v) σ

end Go.VL

/- The frame of a walk at the level of values: how it stands to the machine's frame and memory, and how that is kept. Conditions: none (plain theorems over any program). -/
namespace Go.VL

theorem VR.isVal {A m σ w} {v : V} {u : Value} (h : VR A m σ w v u) : v.isVal = true := by
  cases h with
  | imm v u h => cases h <;> rfl
  | _ => rfl

def pA (A : Nat → Prop) (pb : Nat → Option Nat) (b : Nat) : Prop := A b ∨ ∃ t : Nat, pb t = some b

def SlotR (A : Nat → Prop) (m : Mp) (σ : St) (w : World) (pb : Nat → Option Nat) (fr : Fr) (t : Nat) (u : Value) (v : V) : Prop :=
  match v with
  | .cell cs => ∃ b us T, pb t = some b ∧ u = .pointer (some ⟨b, 0, none⟩) ∧ w.heap[b]? = some (.cells us T (0, 0)) ∧ VRs A m σ w cs us.toList
  | .lref s off => ∀ cs, lk fr s = .cell cs → ∃ b, pb s = some b ∧ u = .pointer (some ⟨b, off, none⟩)
  | v => VR A m σ w v u

theorem SlotR_val {A m σ w pb fr t u v} (h : V.isVal v = true) : SlotR A m σ w pb fr t u v = VR A m σ w v u := by
  cases v <;> first | rfl | (simp [V.isVal] at h)

structure Grow (w w' : World) : Prop where
  sz : w.heap.size ≤ w'.heap.size
  os : w'.os = w.os
  tape : w'.tape = w.tape
  output : w'.output = w.output
  heap : ∀ b, b < w.heap.size → w'.heap[b]? = w.heap[b]?

theorem Grow.refl (w : World) : Grow w w := ⟨Nat.le_refl _, rfl, rfl, rfl, fun _ _ => rfl⟩
theorem Grow.trans {a b c : World} (h : Grow a b) (k : Grow b c) : Grow a c :=
  ⟨Nat.le_trans h.sz k.sz, k.os.trans h.os, k.tape.trans h.tape, k.output.trans h.output, fun i hi => (k.heap i (Nat.lt_of_lt_of_le hi h.sz)).trans (h.heap i hi)⟩
theorem Grow.push (w : World) (o : Obj) : Grow w { w with heap := w.heap.push o } :=
  ⟨by simp, rfl, rfl, rfl, fun b hb => by simp [Array.getElem?_push, Nat.ne_of_lt hb]⟩
theorem Grow.drawn (w : World) (n : Nat) : Grow w { w with drawn := n } := ⟨Nat.le_refl _, rfl, rfl, rfl, fun _ _ => rfl⟩

theorem ObjsLe.refl (m : Mp) (σ : St) : ObjsLe m σ m σ := by
  intro i o bm h h'
  refine ⟨o, bm, h, h', ?_⟩
  cases o <;> simp [OLe]

theorem OLe.trans {o o' o'' bm bm' bm''} (h : OLe o bm o' bm') (k : OLe o' bm' o'' bm'') : OLe o bm o'' bm'' := by
  cases o <;> cases o' <;> simp only [OLe] at h <;> cases o'' <;> simp only [OLe] at k ⊢
  · exact ⟨k.1.trans h.1, k.2.trans h.2⟩
  · refine ⟨Nat.le_trans h.1 k.1, fun e => ?_⟩
    have e1 := h.2 (by have := h.1; have := k.1; omega)
    have e2 := k.2 (by have := h.1; have := k.1; omega)
    exact ⟨e2.1.trans e1.1, e2.2.1.trans e1.2.1, e2.2.2.1.trans e1.2.2.1, e2.2.2.2.trans e1.2.2.2⟩
  · exact k.trans h
  · exact k.trans h
  · exact k.trans h
  · exact k.trans h

theorem ObjsLe.trans {m σ m' σ' m'' σ''} (h : ObjsLe m σ m' σ') (k : ObjsLe m' σ' m'' σ'') : ObjsLe m σ m'' σ'' := by
  intro i o bm h1 h2
  obtain ⟨o', bm', a1, a2, a3⟩ := h i o bm h1 h2
  obtain ⟨o'', bm'', b1, b2, b3⟩ := k i o' bm' a1 a2
  exact ⟨o'', bm'', b1, b2, a3.trans b3⟩

theorem Ext.refl (m : Mp) (σ : St) (w : World) : Ext m σ w m σ w :=
  ⟨Nat.le_refl _, rfl, rfl, rfl, fun _ _ _ => rfl, fun i b c h => .inl ⟨i, c, h⟩, ObjsLe.refl m σ⟩

theorem Ext.trans {m0 σ0 w0 m σ w m' σ' w'} (h : Ext m0 σ0 w0 m σ w) (k : Ext m σ w m' σ' w') : Ext m0 σ0 w0 m' σ' w' := by
  refine ⟨Nat.le_trans h.sz k.sz, k.os.trans h.os, k.tape.trans h.tape, k.output.trans h.output, fun b hb hn => ?_, fun i b c hi => ?_, h.objs.trans k.objs⟩
  · rw [k.blk b (Nat.lt_of_lt_of_le hb h.sz) ?_, h.blk b hb hn]
    intro i c hi
    rcases h.new i b c hi with ⟨j, d, hj⟩ | hlt
    · exact hn j d hj
    · omega
  · rcases k.new i b c hi with ⟨j, d, hj⟩ | hlt
    · exact h.new j b d hj
    · exact .inr (Nat.le_trans h.sz hlt)

theorem Ext.mov {A m0 σ0 w0 m σ w} (h : Ext m0 σ0 w0 m σ w) : Mov A m0 w0 A m w :=
  ⟨h.sz, fun b hb hn => ⟨h.blk b hb fun i c hi => hn (.inr ⟨i, c, hi⟩), fun hbad => by
    rcases hbad with hA | ⟨i, c, hi⟩
    · exact hn (.inl hA)
    · rcases h.new i b c hi with ⟨j, d, hj⟩ | hlt
      · exact hn (.inr ⟨j, d, hj⟩)
      · omega⟩⟩

theorem Grow.mov {A m w w'} (g : Grow w w') : Mov A m w A m w' := ⟨g.sz, fun b hb hn => ⟨g.heap b hb, hn⟩⟩
theorem Grow.ext {m σ w w'} (g : Grow w w') : Ext m σ w m σ w' :=
  ⟨g.sz, g.os, g.tape, g.output, fun b hb _ => g.heap b hb, fun i b c h => .inl ⟨i, c, h⟩, ObjsLe.refl m σ⟩

theorem VRs.mov {A m σ w A' m' σ' w'} (M : Mov A m w A' m' w') (O : ObjsLe m σ m' σ') (hlen : m.length = σ.length) {vs : List V} {us : List Value} (h : VRs A m σ w vs us) : VRs A' m' σ' w' vs us :=
  ⟨h.1, fun i v u hv hu => (h.2 i v u hv hu).mov M O hlen⟩

theorem ObjR.mov {A m σ w A' m' σ' w'} (M : Mov A m w A' m' w') (O : ObjsLe m σ m' σ') (hlen : m.length = σ.length) {o : VO} {bm : Option (Nat × Nat)}
    (hb : ∀ b c, bm = some (b, c) → w'.heap[b]? = w.heap[b]?) (h : ObjR A m σ w o bm) : ObjR A' m' σ' w' o bm := by
  cases o with
  | dead => exact h
  | blk l ob vs => exact ⟨h.1, by rw [hb l 0 h.1]; exact h.2.1, ⟨fun t u hu => (h.2.2.1 t u hu).mov M O hlen, h.2.2.2⟩⟩
  | box cs =>
    obtain ⟨b, c, us, T, e, hh, hv⟩ := h
    exact ⟨b, c, us, T, e, by rw [hb b c e]; exact hh, hv.mov M O hlen⟩
  | arr nl g sz es =>
    rcases h with h | ⟨hn, b, cap, us, T, e, hh, h1, h2, h3, h4, h5⟩
    · exact .inl h
    · exact .inr ⟨hn, b, cap, us, T, e, by rw [hb b cap e]; exact hh, h1, h2, h3, h4, fun i e' he r v hv => by
        obtain ⟨u, hu, h1, hi⟩ := h5 i e' he r v hv
        exact ⟨u, hu, h1, hi.mov M⟩⟩
  | map l =>
    obtain ⟨b, c, ents, e, hh, h1, h2⟩ := h
    exact ⟨b, c, ents, e, by rw [hb b c e]; exact hh, h1, fun i kv en hkv he => by
      obtain ⟨a1, a2, a3⟩ := h2 i kv en hkv he
      exact ⟨a1.mov M O hlen, a2.mov M O hlen, a3⟩⟩
  | siter s pos =>
    obtain ⟨b, c, e, hh⟩ := h
    exact ⟨b, c, e, by rw [hb b c e]; exact hh⟩
  | iter mid n left cur =>
    obtain ⟨b, c, seen, e, h1, h2, h2', h3⟩ := h
    refine ⟨b, c, seen, e, h1, h2, h2', ?_⟩
    rcases h3 with h3 | ⟨l, mb, mc, k1, k2, k3⟩
    · have hlt : mid < m.length := by rw [hlen]; exact (List.getElem?_eq_some_iff.1 h3).1
      obtain ⟨o', bm', a1, a2, a3⟩ := O mid _ _ h3 (List.getElem?_eq_getElem hlt)
      rw [a3.dead_left] at a1
      exact .inl a1
    · obtain ⟨o', bm', a1, a2, a3⟩ := O mid _ _ k1 k2
      cases o' <;> simp only [OLe] at a3
      · exact .inl a1
      · rename_i l'
        exact .inr ⟨l', mb, mc, a1, by rw [a2, a3], by rw [hb b c e]; exact k3⟩

theorem Rel.grow {A m σ w w'} (h : Rel A m σ w) (g : Grow w w') : Rel A m σ w' :=
  ⟨h.len, h.inj, fun i b c hi => ⟨Nat.lt_of_lt_of_le (h.lt i b c hi).1 g.sz, (h.lt i b c hi).2⟩, fun b hb => Nat.lt_of_lt_of_le (h.alt b hb) g.sz,
    fun i o bm ho hm => (h.objs i o bm ho hm).mov g.mov (ObjsLe.refl m σ) h.len fun b c e => g.heap b (h.lt i b c (by rw [hm, e])).1, h.glo.mov g.mov⟩

/-- The marks that ranges over functions leave among a frame's deferred calls: each one's block is the frame's own, and holds no call. -/
def DefOK (N : Nat) (pb : Nat → Option Nat) (w : World) (ds : List Deferred) : Prop :=
  (∀ t b, N ≤ t → pb t = some b → t = N + b) ∧ ds.Nodup ∧ ∀ d ∈ ds, ∃ D t, d = { target := .collected D, args := #[] } ∧ N ≤ t ∧ pb t = some D ∧ w.heap[D]? = some (.deferred (some []))

theorem DefOK.nil {N : Nat} {w : World} : DefOK N (fun _ => none) w [] := ⟨fun t b _ h => (by cases h), List.nodup_nil, fun d hd => (by cases hd)⟩

theorem DefOK.keep {N : Nat} {pb pb' : Nat → Option Nat} {w w' : World} {ds : List Deferred} (h : DefOK N pb w ds) (hp : ∀ t, N ≤ t → pb' t = pb t) (hw : ∀ t b, N ≤ t → pb t = some b → w'.heap[b]? = w.heap[b]?) : DefOK N pb' w' ds :=
  ⟨fun t b ht hb => h.1 t b ht ((hp t ht).symm.trans hb), h.2.1, fun d hd => let ⟨D, t, h1, h2, h3, h4⟩ := h.2.2 d hd; ⟨D, t, h1, h2, (hp t h2).trans h3, (hw t D h2 h3).trans h4⟩⟩

/-- A frame at the level of values stands for the machine's. -/
structure Frm (A : Nat → Prop) (m0 : Mp) (σ0 : St) (w0 : World) (N : Nat) (fr : Fr) (σ : St) (a : Act) (w : World) (m : Mp) (pb : Nat → Option Nat) : Prop where
  tm : a.tmps.size = N
  df : DefOK N pb w a.defers
  rel : Rel (pA A pb) m σ w
  slot : ∀ t, t < N → SlotR (pA A pb) m σ w pb fr t (a.tmps.getD t undef) (lk fr t)
  far : ∀ t, N ≤ t → lk fr t = .undef
  pinj : ∀ s t b, pb s = some b → pb t = some b → s = t
  pnew : ∀ t b, pb t = some b → w0.heap.size ≤ b
  ext : Ext m0 σ0 w0 m σ w

def FRel (A : Nat → Prop) (m0 : Mp) (σ0 : St) (w0 : World) (N : Nat) (fr : Fr) (σ : St) (a : Act) (w : World) : Prop :=
  ∃ m pb, Frm A m0 σ0 w0 N fr σ a w m pb

theorem SlotR.mov {A m σ w A' m' σ' w' pb fr t u v} (M : Mov A m w A' m' w') (O : ObjsLe m σ m' σ') (hlen : m.length = σ.length)
    (hb : ∀ b, pb t = some b → w'.heap[b]? = w.heap[b]?) (h : SlotR A m σ w pb fr t u v) : SlotR A' m' σ' w' pb fr t u v := by
  cases v with
  | cell cs =>
    obtain ⟨b, us, T, h1, h2, h3, h4⟩ := h
    exact ⟨b, us, T, h1, h2, by rw [hb b h1]; exact h3, h4.mov M O hlen⟩
  | lref s off => exact h
  | _ => exact VR.mov M O hlen h

theorem Frm.grow {A m0 σ0 w0 N fr σ a w m pb w'} (F : Frm A m0 σ0 w0 N fr σ a w m pb) (g : Grow w w') : Frm A m0 σ0 w0 N fr σ a w' m pb :=
  ⟨F.tm, F.df.keep (fun _ _ => rfl) (fun t b _ hb => g.heap b (F.rel.alt b (.inr ⟨t, hb⟩))), F.rel.grow g, fun t ht => (F.slot t ht).mov g.mov (ObjsLe.refl m σ) F.rel.len fun b hb => g.heap b (F.rel.alt b (.inr ⟨t, hb⟩)), F.far, F.pinj, F.pnew, F.ext.trans g.ext⟩

theorem lk_cons (d : Nat) (v : V) (fr : Fr) (t : Nat) : lk ((d, v) :: fr) t = if d = t then v else lk fr t := by
  simp only [lk]
  by_cases h : d = t
  · subst h; simp
  · have : Nat.beq d t = false := by
      cases hb : Nat.beq d t with
      | false => rfl
      | true => exact absurd (Nat.eq_of_beq_eq_true hb) h
    simp [this, h]

theorem getD_put (a : Act) (d t : Nat) (u : Value) (hd : d < a.tmps.size) : (a.put (some d) u).tmps.getD t undef = if d = t then u else a.tmps.getD t undef := by
  simp only [Act.put, Array.getD_eq_getD_getElem?, Array.getElem?_setIfInBounds]
  by_cases h : d = t
  · subst h; simp [hd]
  · simp [h]

/-- What an operation's result may be: a value, or the address of a part of a variable that is the frame's own. -/
def ResR (A : Nat → Prop) (m : Mp) (σ : St) (w : World) (pb : Nat → Option Nat) (v : V) (u : Value) : Prop :=
  match v with
  | .lref s off => ∃ b, pb s = some b ∧ u = .pointer (some ⟨b, off, none⟩)
  | .cell _ => False
  | v => VR A m σ w v u

theorem ResR.of {A m σ w pb v u} (h : VR A m σ w v u) : ResR A m σ w pb v u := by
  have := h.isVal
  cases v <;> first | exact h | (simp [V.isVal] at this)

theorem ResR.slot {A m σ w pb fr t v u} (h : ResR A m σ w pb v u) : SlotR A m σ w pb fr t u v := by
  cases v <;> first | exact h | exact (h.elim) | exact (fun _ _ => h)

theorem ResR.notCell {A m σ w pb v u} (h : ResR A m σ w pb v u) (cs : List V) : v ≠ .cell cs := by
  cases v <;> first | exact h.elim | (intro e; cases e)

theorem Frm.put {A m0 σ0 w0 N fr σ a w m pb} (F : Frm A m0 σ0 w0 N fr σ a w m pb) {d : Nat} (hd : d < N) {v : V} {u : Value} (h : ResR (pA A pb) m σ w pb v u) :
    Frm A m0 σ0 w0 N ((d, v) :: fr) σ (a.put (some d) u) w m pb := by
  refine ⟨by simp [Act.put, F.tm], F.df, F.rel, fun t ht => ?_, fun t ht => ?_, F.pinj, F.pnew, F.ext⟩
  · rw [getD_put a d t u (by rw [F.tm]; exact hd), lk_cons]
    by_cases e : d = t
    · rw [if_pos e, if_pos e]; exact h.slot
    · rw [if_neg e, if_neg e]
      have hs := F.slot t ht
      generalize lk fr t = v0 at hs
      cases v0 with
      | lref s off =>
        intro cs hcs
        rw [lk_cons] at hcs
        by_cases e' : d = s
        · rw [if_pos e'] at hcs; exact absurd hcs (h.notCell cs)
        · rw [if_neg e'] at hcs; exact hs cs hcs
      | _ => exact hs
  · rw [lk_cons, if_neg (by omega)]; exact F.far t ht

theorem Frm.putd {A m0 σ0 w0 N fr σ a w m pb} (F : Frm A m0 σ0 w0 N fr σ a w m pb) {o : Oper} (hd : ∀ d, o.dst = some d → d < N) {v : V} {u : Value} (h : ResR (pA A pb) m σ w pb v u) :
    Frm A m0 σ0 w0 N (putd fr o v) σ (a.put o.dst u) w m pb := by
  unfold Go.VL.putd
  cases ho : o.dst with
  | none => exact F
  | some d => exact F.put (hd d ho) h

end Go.VL

/- How the frame of a walk is kept when a variable is made, or written, or an object is. Conditions: none (plain theorems over any program). -/
namespace Go.VL

theorem heap_push_new (w : World) (o : Obj) : ({ w with heap := w.heap.push o } : World).heap[w.heap.size]? = some o := by simp

theorem VRs.toList {A m σ w vs} {us : Array Value} (h : VRs A m σ w vs us.toList) : us.size = vs.length := by simpa using h.1

/-- Blocks that are foreign may be told to be more: new ones alone. -/
theorem Mov.wider {A A' : Nat → Prop} {m m' : Mp} {w w' : World} (hs : w.heap.size ≤ w'.heap.size) (hh : ∀ b, b < w.heap.size → ¬ Bad A m b → w'.heap[b]? = w.heap[b]?)
    (hA : ∀ b, b < w.heap.size → A' b → Bad A m b) (hm : ∀ (i b c : Nat), b < w.heap.size → m'[i]? = some (some (b, c)) → Bad A m b) : Mov A m w A' m' w' :=
  ⟨hs, fun b hb hn => ⟨hh b hb hn, fun hbad => by
    rcases hbad with h | ⟨i, c, h⟩
    · exact hn (hA b hb h)
    · exact hn (hm i b c hb h)⟩⟩

theorem noLref_spec {d : Nat} : ∀ {fr : Fr}, noLref d fr = true → ∀ t off, lk fr t ≠ .lref d off
  | [], _, t, off => by simp [lk]
  | (j, v) :: r, h, t, off => by
    simp only [noLref, List.all_cons, Bool.and_eq_true] at h
    rw [lk_cons]
    split
    · intro e
      rw [e] at h
      simp [isLref] at h
    · exact noLref_spec (by simpa [noLref] using h.2) t off

theorem pA_up {A : Nat → Prop} {pb : Nat → Option Nat} {d nb : Nat} {b : Nat} (h : pA A (fun t => if t = d then some nb else pb t) b) : pA A pb b ∨ b = nb := by
  rcases h with h | ⟨t, h⟩
  · exact .inl (.inl h)
  · by_cases e : t = d
    · simp [e] at h; exact .inr h.symm
    · simp [e] at h; exact .inl (.inr ⟨t, h⟩)

/-- A variable of the frame's own is made. -/
theorem Frm.newCell {A m0 σ0 w0 N fr σ a w m pb} (F : Frm A m0 σ0 w0 N fr σ a w m pb) {d : Nat} (hd : d < N) {cs : List V} {us : Array Value} {T : TypeId}
    (hl : noLref d fr = true) (h : VRs (pA A pb) m σ w cs us.toList) :
    ∃ pb', Frm A m0 σ0 w0 N ((d, .cell cs) :: fr) σ (a.put (some d) (.pointer (some ⟨w.heap.size, 0, none⟩))) { w with heap := w.heap.push (.cells us T (0, 0)) } m pb' := by
  let w' : World := { w with heap := w.heap.push (.cells us T (0, 0)) }
  have g : Grow w w' := Grow.push w _
  let pb' : Nat → Option Nat := fun t => if t = d then some w.heap.size else pb t
  have hlt := F.rel.lt
  have M : Mov (pA A pb) m w (pA A pb') m w' := Mov.wider g.sz (fun b hb _ => g.heap b hb)
    (fun b hb hA => by
      rcases pA_up hA with h | h
      · exact .inl h
      · omega) (fun i b c _ hm => .inr ⟨i, c, hm⟩)
  have O := ObjsLe.refl m σ
  refine ⟨pb', by simp [Act.put, F.tm], F.df.keep (fun t ht => by simp [pb', show t ≠ d by omega]) (fun t b _ hb => g.heap b (F.rel.alt b (.inr ⟨t, hb⟩))), ⟨F.rel.len, F.rel.inj, fun i b c hi => ⟨Nat.lt_of_lt_of_le (hlt i b c hi).1 g.sz, fun hA => ?_⟩, fun b hb => ?_, fun i o bm ho hm => ?_, F.rel.glo.mov M⟩, fun t ht => ?_, fun t ht => ?_, fun s t b hs ht => ?_, fun t b ht => ?_, F.ext.trans g.ext⟩
  · rcases pA_up hA with h | h
    · exact (hlt i b c hi).2 h
    · have := (hlt i b c hi).1; omega
  · rcases pA_up hb with h | h
    · exact Nat.lt_of_lt_of_le (F.rel.alt b h) g.sz
    · subst h; simp
  · exact (F.rel.objs i o bm ho hm).mov M O F.rel.len fun b c e => g.heap b (hlt i b c (by rw [hm, e])).1
  · rw [getD_put a d t _ (by rw [F.tm]; exact hd), lk_cons]
    by_cases e : d = t
    · rw [if_pos e, if_pos e]
      subst e
      exact ⟨w.heap.size, us, T, by simp [pb'], rfl, heap_push_new w _, h.mov M O F.rel.len⟩
    · rw [if_neg e, if_neg e]
      have hs := F.slot t ht
      have hlr := noLref_spec hl t
      generalize lk fr t = v0 at hs hlr
      cases v0 with
      | lref s off =>
        intro cs' hcs
        have hne : d ≠ s := fun e' => by subst e'; exact hlr off rfl
        rw [lk_cons, if_neg hne] at hcs
        obtain ⟨b, h1, h2⟩ := hs cs' hcs
        exact ⟨b, by simp [pb', Ne.symm hne, h1], h2⟩
      | cell cs0 =>
        obtain ⟨b, us0, T0, h1, h2, h3, h4⟩ := hs
        exact ⟨b, us0, T0, by simp [pb', Ne.symm e, h1], h2, by rw [g.heap b (F.rel.alt b (.inr ⟨t, h1⟩))]; exact h3, h4.mov M O F.rel.len⟩
      | _ => exact VR.mov M O F.rel.len hs
  · rw [lk_cons, if_neg (by omega)]; exact F.far t ht
  · have hfresh : ∀ t, pb t ≠ some w.heap.size := fun t ht => by have := F.rel.alt _ (.inr ⟨t, ht⟩); omega
    by_cases e1 : s = d <;> by_cases e2 : t = d <;> simp [pb', e1, e2] at hs ht ⊢
    · subst hs; exact absurd ht (hfresh t)
    · subst ht; exact absurd hs (hfresh s)
    · exact F.pinj s t b hs ht
  · by_cases e : t = d
    · simp [pb', e] at ht; subst ht; exact F.ext.sz
    · simp [pb', e] at ht; exact F.pnew t b ht

theorem getElem?_set_eq' {α : Type} (l : List α) (i j : Nat) (x : α) : (l.set i x)[j]? = if i = j then (if j < l.length then some x else none) else l[j]? := by
  rw [List.getElem?_set]
  by_cases h : i = j
  · subst h; rfl
  · simp [h]

theorem VRs.set {A m σ w vs us} (h : VRs A m σ w vs us) {i : Nat} {v : V} {u : Value} (hv : VR A m σ w v u) : VRs A m σ w (vs.set i v) (us.set i u) := by
  refine ⟨by simp [h.1], fun j v' u' h1 h2 => ?_⟩
  rw [getElem?_set_eq'] at h1 h2
  by_cases e : i = j
  · rw [if_pos e] at h1 h2
    split at h1 <;> split at h2 <;> simp_all
  · rw [if_neg e] at h1 h2
    exact h.2 j v' u' h1 h2

/-- What 'storeCells' leaves, as lists. -/
def setVals (us : List Value) : Nat → List Value → List Value
  | _, [] => us
  | off, v :: vs => setVals (us.set off v) (off + 1) vs

theorem VRs.setCells {A m σ w} : ∀ {vs us : List _} {cs : List V} {ts : List Value} (off : Nat), VRs A m σ w vs us → VRs A m σ w cs ts → VRs A m σ w (setCells vs off cs) (setVals us off ts)
  | vs, us, [], ts, off, h, k => by
    have : ts = [] := List.eq_nil_of_length_eq_zero (by simpa using k.1)
    subst this; exact h
  | vs, us, c :: cs, ts, off, h, k => by
    cases ts with
    | nil => have := k.1; simp at this
    | cons t ts =>
      refine VRs.setCells (off + 1) (h.set (k.2 0 c t rfl rfl)) ⟨by have := k.1; simpa using this, fun i v u h1 h2 => k.2 (i + 1) v u (by simpa using h1) (by simpa using h2)⟩

theorem setCells_length : ∀ (cs : List V) (off : Nat) (vs : List V), (setCells cs off vs).length = cs.length
  | cs, off, [] => rfl
  | cs, off, v :: vs => by rw [setCells, setCells_length]; simp

theorem setVals_length : ∀ (cs : List Value) (off : Nat) (vs : List Value), (setVals cs off vs).length = cs.length
  | cs, off, [] => rfl
  | cs, off, v :: vs => by rw [setVals, setVals_length]; simp

/-- One block's content is other; all else stays. -/
theorem setBlock_heap (w : World) (b b' : Nat) (o : Obj) (h : b' ≠ b) : ({ w with heap := w.heap.setIfInBounds b o } : World).heap[b']? = w.heap[b']? := by
  simp [Array.getElem?_setIfInBounds, Ne.symm h]

/-- A variable of the frame's own is written. -/
theorem Frm.setCell {A m0 σ0 w0 N fr σ a w m pb} (F : Frm A m0 σ0 w0 N fr σ a w m pb) {s : Nat} (hs : s < N) {cs cs' : List V} {b : Nat} {us us' : Array Value} {T : TypeId} (hlk : lk fr s = .cell cs) (hp : pb s = some b)
    (hh : w.heap[b]? = some (.cells us T (0, 0))) (hsz : cs'.length = cs.length) (h : VRs (pA A pb) m σ w cs' us'.toList) :
    Frm A m0 σ0 w0 N ((s, .cell cs') :: fr) σ a { w with heap := w.heap.setIfInBounds b (.cells us' T (0, 0)) } m pb := by
  let w' : World := { w with heap := w.heap.setIfInBounds b (.cells us' T (0, 0)) }
  have hbA : pA A pb b := .inr ⟨s, hp⟩
  have hbm : ∀ (i b' c : Nat), m[i]? = some (some (b', c)) → b' ≠ b := fun i b' c hi e => (F.rel.lt i b' c hi).2 (e ▸ hbA)
  have hlt : b < w.heap.size := F.rel.alt b hbA
  have M : Mov (pA A pb) m w (pA A pb) m w' := Mov.wider (by simp [w']) (fun b' hb' hn => setBlock_heap w b b' _ fun e => hn (.inl (e ▸ hbA)))
    (fun b' _ hA => .inl hA) (fun i b' c _ hm => .inr ⟨i, c, hm⟩)
  have O := ObjsLe.refl m σ
  have hnew : w'.heap[b]? = some (.cells us' T (0, 0)) := by simp [w', hlt]
  have hE : Ext m0 σ0 w0 m σ w' := by
    refine ⟨by simpa [w'] using F.ext.sz, F.ext.os, F.ext.tape, F.ext.output, fun b' hb' hn => ?_, F.ext.new, F.ext.objs⟩
    have : b' ≠ b := fun e => by have := F.pnew s b hp; omega
    exact (setBlock_heap w b b' _ this).trans (F.ext.blk b' hb' hn)
  refine ⟨F.tm, F.df.keep (fun _ _ => rfl) (fun t b' ht hb => setBlock_heap w b b' _ fun e => by have := F.pinj s t b hp (e ▸ hb); omega), ⟨F.rel.len, F.rel.inj, fun i b' c hi => ⟨by simpa [w'] using (F.rel.lt i b' c hi).1, (F.rel.lt i b' c hi).2⟩, fun b' hb' => by simpa [w'] using F.rel.alt b' hb', fun i o bm ho hm => ?_, F.rel.glo.mov M⟩, fun t ht => ?_, fun t ht => ?_, F.pinj, F.pnew, hE⟩
  · exact (F.rel.objs i o bm ho hm).mov M O F.rel.len fun b' c e => setBlock_heap w b b' _ (hbm i b' c (by rw [hm, e]))
  · rw [lk_cons]
    have hsl := F.slot t ht
    by_cases e : s = t
    · rw [if_pos e]
      subst e
      rw [hlk] at hsl
      obtain ⟨b0, us0, T0, h1, h2, h3, h4⟩ := hsl
      rw [hp] at h1
      cases h1
      exact ⟨b, us', T, hp, h2, hnew, h.mov M O F.rel.len⟩
    · rw [if_neg e]
      generalize lk fr t = v0 at hsl
      cases v0 with
      | lref s' off =>
        intro cs0 hcs
        rw [lk_cons] at hcs
        by_cases e' : s = s'
        · subst e'
          exact hsl cs hlk
        · rw [if_neg e'] at hcs; exact hsl cs0 hcs
      | cell cs0 =>
        obtain ⟨b0, us0, T0, h1, h2, h3, h4⟩ := hsl
        have : b0 ≠ b := fun e0 => e (F.pinj s t b hp (e0 ▸ h1))
        exact ⟨b0, us0, T0, h1, h2, (setBlock_heap w b b0 _ this).trans h3, h4.mov M O F.rel.len⟩
      | _ => exact VR.mov M O F.rel.len hsl
  · rw [lk_cons, if_neg (by omega)]; exact F.far t ht

/-- Objects' state goes on, the frame's own variables stay: the frame is kept. -/
theorem Frm.step {A m0 σ0 w0 N fr σ a w m pb} (F : Frm A m0 σ0 w0 N fr σ a w m pb) {m' : Mp} {σ' : St} {w' : World} (E : Ext m σ w m' σ' w') (R : Rel (pA A pb) m' σ' w') :
    Frm A m0 σ0 w0 N fr σ' a w' m' pb := by
  have M : Mov (pA A pb) m w (pA A pb) m' w' := E.mov
  refine ⟨F.tm, F.df.keep (fun _ _ => rfl) (fun t b _ hb => E.blk b (F.rel.alt b (.inr ⟨t, hb⟩)) fun i c hi => (F.rel.lt i b c hi).2 (.inr ⟨t, hb⟩)), R, fun t ht => (F.slot t ht).mov M E.objs F.rel.len fun b hb => ?_, F.far, F.pinj, F.pnew, F.ext.trans E⟩
  exact E.blk b (F.rel.alt b (.inr ⟨t, hb⟩)) fun i c hi => (F.rel.lt i b c hi).2 (.inr ⟨t, hb⟩)

/-- A new object. -/
theorem Rel.newObj {A m σ w} (R : Rel A m σ w) (o : VO) (c : Nat) (ob : Obj)
    (ho : ∀ w' : World, w' = { w with heap := w.heap.push ob } → Mov A m w A (m ++ [some (w.heap.size, c)]) w' → ObjsLe m σ (m ++ [some (w.heap.size, c)]) (σ ++ [o]) → w'.heap[w.heap.size]? = some ob →
      ObjR A (m ++ [some (w.heap.size, c)]) (σ ++ [o]) w' o (some (w.heap.size, c))) :
    Rel A (m ++ [some (w.heap.size, c)]) (σ ++ [o]) { w with heap := w.heap.push ob } ∧ Ext m σ w (m ++ [some (w.heap.size, c)]) (σ ++ [o]) { w with heap := w.heap.push ob } := by
  have g := Grow.push w ob
  have O : ObjsLe m σ (m ++ [some (w.heap.size, c)]) (σ ++ [o]) := by
    intro i o' bm h1 h2
    obtain ⟨_, _, _, _, h3⟩ := ObjsLe.refl m σ i o' bm h1 h2
    refine ⟨o', bm, by rw [List.getElem?_append_left (List.getElem?_eq_some_iff.1 h1).1]; exact h1, by rw [List.getElem?_append_left (List.getElem?_eq_some_iff.1 h2).1]; exact h2, ?_⟩
    cases o' <;> simp [OLe]
  have hnew : ∀ (i b d : Nat), (m ++ [some (w.heap.size, c)])[i]? = some (some (b, d)) → m[i]? = some (some (b, d)) ∨ (i = m.length ∧ b = w.heap.size) := by
    intro i b d hi
    rcases Nat.lt_or_ge i m.length with h | h
    · rw [List.getElem?_append_left h] at hi; exact .inl hi
    · rw [List.getElem?_append_right h] at hi
      have hz : i - m.length = 0 := by
        rcases Nat.eq_zero_or_pos (i - m.length) with h0 | h0
        · exact h0
        · rw [List.getElem?_eq_none (by simp; omega)] at hi; cases hi
      rw [hz] at hi
      simp at hi
      exact .inr ⟨by omega, hi.1.symm⟩
  have M : Mov A m w A (m ++ [some (w.heap.size, c)]) { w with heap := w.heap.push ob } := Mov.wider g.sz (fun b hb _ => g.heap b hb) (fun b _ hA => .inl hA) fun i b d hb hi => by
    rcases hnew i b d hi with h | h
    · exact .inr ⟨i, d, h⟩
    · omega
  refine ⟨⟨by simp [R.len], fun i j b d e hi hj => ?_, fun i b d hi => ?_, fun b hb => Nat.lt_of_lt_of_le (R.alt b hb) g.sz, fun i o' bm h1 h2 => ?_, R.glo.mov M⟩, g.sz, rfl, rfl, rfl, fun b hb _ => g.heap b hb, fun i b d hi => ?_, O⟩
  · rcases hnew i b d hi with h | h <;> rcases hnew j b e hj with k | k
    · exact R.inj i j b d e h k
    · have := (R.lt i b d h).1; omega
    · have := (R.lt j b e k).1; omega
    · omega
  · rcases hnew i b d hi with h | h
    · exact ⟨Nat.lt_of_lt_of_le (R.lt i b d h).1 g.sz, (R.lt i b d h).2⟩
    · rw [h.2]
      exact ⟨by simp, fun hA => by have := R.alt _ hA; omega⟩
  · rcases Nat.lt_or_ge i σ.length with h | h
    · rw [List.getElem?_append_left h] at h1
      rw [List.getElem?_append_left (by rw [R.len]; exact h)] at h2
      exact (R.objs i o' bm h1 h2).mov M O R.len fun b d e => g.heap b (R.lt i b d (by rw [h2, e])).1
    · rw [List.getElem?_append_right h] at h1
      rw [List.getElem?_append_right (by rw [R.len]; exact h)] at h2
      have hz : i - σ.length = 0 := by
        rcases Nat.eq_zero_or_pos (i - σ.length) with h0 | h0
        · exact h0
        · rw [List.getElem?_eq_none (by simp; omega)] at h1; cases h1
      rw [hz] at h1
      rw [show i - m.length = 0 by rw [R.len]; exact hz] at h2
      simp at h1 h2
      subst h1 h2
      exact ho _ rfl M O (heap_push_new w ob)
  · rcases hnew i b d hi with h | h
    · exact .inl ⟨i, d, h⟩
    · exact .inr (by omega)

/-- An object's content is other, in its place. -/
theorem Rel.setObj {A m σ w} (R : Rel A m σ w) {id b c : Nat} {o o' : VO} {ob : Obj} (ho : σ[id]? = some o) (hm : m[id]? = some (some (b, c))) (hle : OLe o (some (b, c)) o' (some (b, c)))
    (hnew : ∀ w' : World, w' = { w with heap := w.heap.setIfInBounds b ob } → Mov A m w A m w' → ObjsLe m σ m (σ.set id o') → w'.heap[b]? = some ob → ObjR A m (σ.set id o') w' o' (some (b, c))) :
    Rel A m (σ.set id o') { w with heap := w.heap.setIfInBounds b ob } ∧ Ext m σ w m (σ.set id o') { w with heap := w.heap.setIfInBounds b ob } := by
  have hid : id < σ.length := (List.getElem?_eq_some_iff.1 ho).1
  have hlt := (R.lt id b c hm).1
  have O : ObjsLe m σ m (σ.set id o') := by
    intro i o1 bm h1 h2
    by_cases e : id = i
    · subst e
      rw [ho] at h1; rw [hm] at h2
      cases h1; cases h2
      exact ⟨o', some (b, c), by simp [hid], hm, hle⟩
    · refine ⟨o1, bm, by rw [List.getElem?_set, if_neg e]; exact h1, h2, ?_⟩
      cases o1 <;> simp [OLe]
  have hh : ∀ b', b' ≠ b → ({ w with heap := w.heap.setIfInBounds b ob } : World).heap[b']? = w.heap[b']? := fun b' hb' => setBlock_heap w b b' ob hb'
  have M : Mov A m w A m { w with heap := w.heap.setIfInBounds b ob } := Mov.wider (by simp) (fun b' _ hn => hh b' fun e => hn (.inr ⟨id, c, e ▸ hm⟩)) (fun b' _ hA => .inl hA) (fun i b' d _ hi => .inr ⟨i, d, hi⟩)
  refine ⟨⟨by simp [R.len], R.inj, fun i b' d hi => ⟨by simpa using (R.lt i b' d hi).1, (R.lt i b' d hi).2⟩, fun b' hb' => by simpa using R.alt b' hb', fun i o1 bm h1 h2 => ?_, R.glo.mov M⟩, by simp, rfl, rfl, rfl, fun b' hb' hn => hh b' fun e => hn id c (e ▸ hm), fun i b' d hi => .inl ⟨i, d, hi⟩, O⟩
  by_cases e : id = i
  · subst e
    rw [hm] at h2
    have h1' : o' = o1 := by simpa [hid] using h1
    cases h2
    subst h1'
    exact hnew _ rfl M O (by simp [hlt])
  · rw [List.getElem?_set, if_neg e] at h1
    exact (R.objs i o1 bm h1 h2).mov M O R.len fun b' d e' => hh b' fun e'' => e (by subst e''; exact R.inj id i b' c d hm (by rw [h2, e']))

/-- An object is laid anew, in another block (or its first one). -/
theorem Rel.moveObj {A m σ w} (R : Rel A m σ w) {id c : Nat} {o o' : VO} {bm0 : Option (Nat × Nat)} {ob : Obj} (ho : σ[id]? = some o) (hm : m[id]? = some bm0) (hle : OLe o bm0 o' (some (w.heap.size, c)))
    (hnew : ∀ w' : World, w' = { w with heap := w.heap.push ob } → Mov A m w A (m.set id (some (w.heap.size, c))) w' → ObjsLe m σ (m.set id (some (w.heap.size, c))) (σ.set id o') → w'.heap[w.heap.size]? = some ob →
      ObjR A (m.set id (some (w.heap.size, c))) (σ.set id o') w' o' (some (w.heap.size, c))) :
    Rel A (m.set id (some (w.heap.size, c))) (σ.set id o') { w with heap := w.heap.push ob } ∧ Ext m σ w (m.set id (some (w.heap.size, c))) (σ.set id o') { w with heap := w.heap.push ob } := by
  have g := Grow.push w ob
  have hid : id < σ.length := (List.getElem?_eq_some_iff.1 ho).1
  have hidm : id < m.length := by rw [R.len]; exact hid
  have hget : ∀ (i b d : Nat), (m.set id (some (w.heap.size, c)))[i]? = some (some (b, d)) → (i ≠ id ∧ m[i]? = some (some (b, d))) ∨ (i = id ∧ b = w.heap.size) := by
    intro i b d hi
    rw [List.getElem?_set] at hi
    by_cases e : id = i
    · subst e
      simp [hidm] at hi
      exact .inr ⟨rfl, hi.1.symm⟩
    · rw [if_neg e] at hi; exact .inl ⟨fun e' => e e'.symm, hi⟩
  have O : ObjsLe m σ (m.set id (some (w.heap.size, c))) (σ.set id o') := by
    intro i o1 bm h1 h2
    by_cases e : id = i
    · subst e
      rw [ho] at h1; rw [hm] at h2
      cases h1; cases h2
      exact ⟨o', some (w.heap.size, c), by simp [hid], by simp [hidm], hle⟩
    · refine ⟨o1, bm, by rw [List.getElem?_set, if_neg e]; exact h1, by rw [List.getElem?_set, if_neg e]; exact h2, ?_⟩
      cases o1 <;> simp [OLe]
  have M : Mov A m w A (m.set id (some (w.heap.size, c))) { w with heap := w.heap.push ob } := Mov.wider g.sz (fun b hb _ => g.heap b hb) (fun b _ hA => .inl hA) fun i b d hb hi => by
    rcases hget i b d hi with h | h
    · exact .inr ⟨i, d, h.2⟩
    · omega
  refine ⟨⟨by simp [R.len], fun i j b d e hi hj => ?_, fun i b d hi => ?_, fun b hb => Nat.lt_of_lt_of_le (R.alt b hb) g.sz, fun i o1 bm h1 h2 => ?_, R.glo.mov M⟩, g.sz, rfl, rfl, rfl, fun b hb _ => g.heap b hb, fun i b d hi => ?_, O⟩
  · rcases hget i b d hi with h | h <;> rcases hget j b e hj with k | k
    · exact R.inj i j b d e h.2 k.2
    · have := (R.lt i b d h.2).1; omega
    · have := (R.lt j b e k.2).1; omega
    · omega
  · rcases hget i b d hi with h | h
    · exact ⟨Nat.lt_of_lt_of_le (R.lt i b d h.2).1 g.sz, (R.lt i b d h.2).2⟩
    · rw [h.2]
      exact ⟨by simp, fun hA => by have := R.alt _ hA; omega⟩
  · by_cases e : id = i
    · subst e
      have h1' : o' = o1 := by simpa [hid] using h1
      have h2' : some (w.heap.size, c) = bm := by simpa [hidm] using h2
      subst h1' h2'
      exact hnew _ rfl M O (heap_push_new w ob)
    · rw [List.getElem?_set, if_neg e] at h1 h2
      exact (R.objs i o1 bm h1 h2).mov M O R.len fun b d e' => g.heap b (R.lt i b d (by rw [h2, e'])).1
  · rcases hget i b d hi with h | h
    · exact .inl ⟨i, d, h.2⟩
    · exact .inr (by omega)

/-- An object without a block changes (or dies): memory stays. -/
theorem Rel.dieObj {A m σ w} (R : Rel A m σ w) {id : Nat} {o : VO} (ho : σ[id]? = some o) :
    Rel A (m.set id none) (σ.set id .dead) w ∧ Ext m σ w (m.set id none) (σ.set id .dead) w := by
  have hid : id < σ.length := (List.getElem?_eq_some_iff.1 ho).1
  have hidm : id < m.length := by rw [R.len]; exact hid
  have hget : ∀ (i b d : Nat), (m.set id none)[i]? = some (some (b, d)) → i ≠ id ∧ m[i]? = some (some (b, d)) := by
    intro i b d hi
    rw [List.getElem?_set] at hi
    by_cases e : id = i
    · subst e; simp [hidm] at hi
    · rw [if_neg e] at hi; exact ⟨fun e' => e e'.symm, hi⟩
  have O : ObjsLe m σ (m.set id none) (σ.set id .dead) := by
    intro i o1 bm h1 h2
    by_cases e : id = i
    · subst e
      exact ⟨.dead, none, by simp [hid], by simp [hidm], by cases o1 <;> simp [OLe]⟩
    · refine ⟨o1, bm, by rw [List.getElem?_set, if_neg e]; exact h1, by rw [List.getElem?_set, if_neg e]; exact h2, ?_⟩
      cases o1 <;> simp [OLe]
  have M : Mov A m w A (m.set id none) w := Mov.wider (Nat.le_refl _) (fun _ _ _ => rfl) (fun b _ hA => .inl hA) fun i b d _ hi => .inr ⟨i, d, (hget i b d hi).2⟩
  refine ⟨⟨by simp [R.len], fun i j b d e hi hj => R.inj i j b d e (hget i b d hi).2 (hget j b e hj).2, fun i b d hi => R.lt i b d (hget i b d hi).2, R.alt, fun i o1 bm h1 h2 => ?_, R.glo.mov M⟩, Nat.le_refl _, rfl, rfl, rfl, fun _ _ _ => rfl, fun i b d hi => .inl ⟨i, d, (hget i b d hi).2⟩, O⟩
  by_cases e : id = i
  · subst e
    have h1' : VO.dead = o1 := by simpa [hid] using h1
    have h2' : none = bm := by simpa [hidm] using h2
    subst h1' h2'
    rfl
  · rw [List.getElem?_set, if_neg e] at h1 h2
    exact (R.objs i o1 bm h1 h2).mov M O R.len fun _ _ _ => rfl

end Go.VL

/- Operations that change nothing that there is: what the machine does is what the value-level words tell. Conditions: the table of types tells the program's own rows (TabOK). -/
namespace Go.VL

def aggD : TypeDesc → Bool
  | .struct _ => true
  | .array _ _ => true
  | _ => false

def TDOK (d : TypeDesc) (ty : Ty) : Prop :=
  match ty.d with
  | .other => True
  | .int => ∃ k, d = .int k ∧ ty.zero = [.int k 0]
  | .str => d = .string
  | .bool => d = .bool
  | .slice e => d = .slice e
  | .struct fs => ∃ fields, d = .struct fields ∧ fields.size = fs.length ∧ ∀ (i off ft : Nat), fs[i]? = some (off, ft) → ∃ f, fields[i]? = some f ∧ f.offset = off ∧ f.type = ft
  | .array n e => d = .array n e
  | .map k e => d = .map k e
  | .ptr => ∃ e, d = .pointer e
  | .func => ∃ a b c, d = .func a b c
  | .iface => ∃ ms, d = .interface ms

def TyOK (P : Program) (t : TypeId) (ty : Ty) : Prop :=
  ∃ (i : TypeInfo) (d : TypeDesc) (z : Value), P.info? t = some i ∧ i.size = ty.size ∧ i.bytes = ty.bytes ∧ i.zero = some z ∧ z.cells.toList = ty.zero ∧ (ty.agg = false → z.cells = #[z]) ∧ (ty.agg = true → z = .agg z.cells) ∧
    ty.zero.length = ty.size ∧ P.underlying t = some d ∧ aggD d = ty.agg ∧ TDOK d ty

def plainVal : V → Value
  | .int k n => .int k n
  | .bool b => .bool b
  | .str s => .string s
  | _ => undef

/-- '==' of two structs of plain cells. -/
def EqOK (P : Program) (t : TypeId) (ks : List PK) : Prop :=
  ∀ (op : BinOp) (x y : Operand) (us ts : Array Value) (xs ys : List V) (w : World), mk ks xs = true → mk ks ys = true →
    us.toList = xs.map plainVal →
    ts.toList = ys.map plainVal →
    (eqGuard op t x y (.agg us) (.agg ts)).run P w = .ok () w ∧ (Op.equal t (.agg us) (.agg ts)).run P w = .ok (cellsEq xs ys) w

structure TabOK (C : Cfg) : Prop where
  ty : ∀ t, (C.T t).known = true → TyOK C.P t (C.T t)
  eq : ∀ t, (C.T t).known = true → (C.T t).eqs = true → EqOK C.P t (C.T t).eqk
  ck : ∀ t n e, (C.T t).known = true → (C.T t).eqs = true → (C.T t).d = .array n e → ∀ (b : Bool) (us : Array Value) (xs : List V) (w : World), mk (C.T t).eqk xs = true → us.toList = xs.map plainVal → (Instr.checkKey b 10000 t (.agg us)).run C.P w = .ok () w
  mix : C.P.follows .mixedOrders = true

section types
variable {P : Program} {t : TypeId} {ty : Ty}
theorem TyOK.isAgg (h : TyOK P t ty) (w : World) : (isAgg t).run P w = .ok ty.agg w := by
  obtain ⟨i, d, z, h1, h2, h3, h4, h5, h6, h7, h8, h9, h10, h11⟩ := h
  simp only [Go.isAgg, Sem.run_bind, run_underlying h9, Result.andThen]
  cases d <;> simp_all [aggD]
theorem TyOK.sizeOf (h : TyOK P t ty) (w : World) : (sizeOf t).run P w = .ok ty.size w := by
  obtain ⟨i, d, z, h1, h2, h3, h4, h5, h6, h7, h8, h9, h10, h11⟩ := h
  simp [Go.sizeOf, typeInfo, h1, h2]
theorem TyOK.info (h : TyOK P t ty) : ∃ i, P.info? t = some i ∧ i.size = ty.size ∧ i.bytes = ty.bytes := by
  obtain ⟨i, d, z, h1, h2, h3, h4, h5, h6, h7, h8, h9, h10, h11⟩ := h
  exact ⟨i, h1, h2, h3⟩
theorem TyOK.und (h : TyOK P t ty) : ∃ d, P.underlying t = some d ∧ aggD d = ty.agg ∧ TDOK d ty := by
  obtain ⟨i, d, z, h1, h2, h3, h4, h5, h6, h7, h8, h9, h10, h11⟩ := h
  exact ⟨d, h9, h10, h11⟩
theorem TyOK.zero (h : TyOK P t ty) : ∃ z, (∀ w, (zeroValue t).run P w = .ok z w) ∧ z.cells.toList = ty.zero ∧ (ty.agg = false → z.cells = #[z]) ∧ (ty.agg = true → z = .agg z.cells) ∧ ty.zero.length = ty.size := by
  obtain ⟨i, d, z, h1, h2, h3, h4, h5, h6, h7, h8, h9, h10, h11⟩ := h
  exact ⟨z, fun w => by simp [zeroValue, typeInfo, h1, h4], h5, h6, h7, h8⟩
end types

theorem VI_ofVal0 (w : World) (B : Nat → Prop) (v : Value) : VI w B (ofVal0 v) v := by
  cases v with
  | bool b => exact .bool b
  | int k n => exact .int k n
  | string s => exact .str s
  | pointer a => cases a <;> first | exact .nilp | exact .undef _
  | slice a n c =>
    simp only [ofVal0]
    cases hb : (a.isNone && Nat.beq n 0 && Nat.beq c 0) with
    | false => exact .undef _
    | true =>
      simp only [Bool.and_eq_true] at hb
      obtain ⟨⟨h1, h2⟩, h3⟩ := hb
      have e2 := Nat.eq_of_beq_eq_true h2
      have e3 := Nat.eq_of_beq_eq_true h3
      cases a with
      | none => subst e2 e3; exact .sl0 _ _
      | some _ => cases h1
  | map r => cases r <;> first | exact .nilm | exact .undef _
  | nilFunc => exact .nilf
  | nilIface => exact .nili
  | func f xs ys =>
    simp only [ofVal0]
    cases hb : (xs.isEmpty && ys.isEmpty) with
    | false => exact .undef _
    | true =>
      simp only [Bool.and_eq_true, Array.isEmpty_iff] at hb
      obtain ⟨rfl, rfl⟩ := hb
      exact .fn f [] [] #[] #[] rfl rfl (fun i v u h => by simp at h) (fun i v u h => by simp at h)
  | _ => exact .undef _

theorem VI_ofVal (w : World) (B : Nat → Prop) (v : Value) : VI w B (ofVal v) v := by
  cases v with
  | agg cs =>
    refine .agg _ cs (by simp) fun i v u h1 h2 => ?_
    simp only [List.getElem?_map, Array.getElem?_toList, h2, Option.map_some, Option.some.injEq] at h1
    subst h1
    exact VI_ofVal0 w B u
  | _ => simp only [ofVal]; exact VI_ofVal0 w B _

section frame
variable {A : Nat → Prop} {m0 : Mp} {σ0 : St} {w0 : World} {N : Nat} {fr : Fr} {σ : St} {a : Act} {w : World} {m : Mp} {pb : Nat → Option Nat}

theorem Frm.opnd (F : Frm A m0 σ0 w0 N fr σ a w m pb) (x : Operand) (hv : (opv fr x).isVal = true) : VR (pA A pb) m σ w (opv fr x) (a.eval x) := by
  cases x with
  | tmp t =>
    simp only [opv] at hv ⊢
    rcases Nat.lt_or_ge t N with h | h
    · have := F.slot t h
      rwa [SlotR_val hv] at this
    · rw [F.far t h]; exact .imm _ _ (.undef _)
  | const v => exact .imm _ _ (VI_ofVal w _ v)
  | func f => exact .imm _ _ (.fn _ [] [] #[] #[] rfl rfl (fun i v u h => by simp at h) (fun i v u h => by simp at h))
  | global g =>
    simp only [opv]
    cases hg : globs g with
    | none => exact .imm _ _ (.undef _)
    | some cs => exact .imm _ _ (F.rel.glo g cs hg)

theorem Frm.opndCell (F : Frm A m0 σ0 w0 N fr σ a w m pb) {x : Operand} {cs : List V} (hv : opv fr x = .cell cs) :
    ∃ s b us T, x = .tmp s ∧ s < N ∧ lk fr s = .cell cs ∧ pb s = some b ∧ a.eval x = .pointer (some ⟨b, 0, none⟩) ∧ w.heap[b]? = some (.cells us T (0, 0)) ∧ VRs (pA A pb) m σ w cs us.toList := by
  cases x with
  | tmp t =>
    simp only [opv] at hv
    rcases Nat.lt_or_ge t N with h | h
    · have := F.slot t h
      rw [hv] at this
      obtain ⟨b, us, T, h1, h2, h3, h4⟩ := this
      exact ⟨t, b, us, T, rfl, h, hv, h1, h2, h3, h4⟩
    · rw [F.far t h] at hv; cases hv
  | const v =>
    have := (VR.imm (A := fun _ => False) (m := []) (σ := []) (w := w) _ _ (VI_ofVal w _ v)).isVal
    simp only [opv] at hv; rw [hv] at this; cases this
  | func f => cases hv
  | global g =>
    simp only [opv] at hv
    cases hg : globs g <;> rw [hg] at hv <;> cases hv

theorem Frm.opndLref (F : Frm A m0 σ0 w0 N fr σ a w m pb) {x : Operand} {s off : Nat} {cs : List V} (hv : opv fr x = .lref s off) (hc : lk fr s = .cell cs) :
    ∃ b us T, s < N ∧ pb s = some b ∧ a.eval x = .pointer (some ⟨b, off, none⟩) ∧ w.heap[b]? = some (.cells us T (0, 0)) ∧ VRs (pA A pb) m σ w cs us.toList := by
  cases x with
  | tmp t =>
    simp only [opv] at hv
    rcases Nat.lt_or_ge t N with h | h
    · have h1 := F.slot t h
      rw [hv] at h1
      obtain ⟨b, hb, hu⟩ := h1 cs hc
      rcases Nat.lt_or_ge s N with h' | h'
      · have h2 := F.slot s h'
        rw [hc] at h2
        obtain ⟨b', us, T, k1, k2, k3, k4⟩ := h2
        rw [hb] at k1; cases k1
        exact ⟨b, us, T, h', hb, hu, k3, k4⟩
      · rw [F.far s h'] at hc; cases hc
    · rw [F.far t h] at hv; cases hv
  | const v =>
    have := (VR.imm (A := fun _ => False) (m := []) (σ := []) (w := w) _ _ (VI_ofVal w _ v)).isVal
    simp only [opv] at hv; rw [hv] at this; cases this
  | func f => cases hv
  | global g =>
    simp only [opv] at hv
    cases hg : globs g <;> rw [hg] at hv <;> cases hv

theorem VRs.drop {A m σ w vs us} (h : VRs A m σ w vs us) (n : Nat) : VRs A m σ w (vs.drop n) (us.drop n) :=
  ⟨by simp [h.1], fun i v u h1 h2 => h.2 (n + i) v u (by simpa [List.getElem?_drop] using h1) (by simpa [List.getElem?_drop] using h2)⟩
theorem VRs.take {A m σ w vs us} (h : VRs A m σ w vs us) (n : Nat) : VRs A m σ w (vs.take n) (us.take n) := by
  refine ⟨by simp [h.1], fun i v u h1 h2 => ?_⟩
  rw [List.getElem?_take] at h1 h2
  split at h1 <;> simp_all
  exact h.2 i v u h1 h2

theorem addr_add (b o n : Nat) : (⟨b, o, none⟩ : Addr).add n = ⟨b, o + n, none⟩ := by unfold Addr.add; split <;> simp_all
theorem add_add (x : Addr) (i j : Nat) : (x.add i).add j = x.add (i + j) := by
  unfold Addr.add
  by_cases h1 : i = 0 <;> by_cases h2 : j = 0 <;> simp [h1, h2, Nat.add_assoc]

theorem cells_at {w : World} {b T : Nat} {us : Array Value} {fz : Nat × Nat} (h : w.heap[b]? = some (.cells us T fz)) (off j : Nat) (u : Value) (hu : (us.toList.drop off)[j]? = some u) :
    w.cell? ((⟨b, off, none⟩ : Addr).add j) = some u := by
  rw [addr_add]
  simp only [World.cell?, h]
  simpa [List.getElem?_drop] using hu

/-- The cells from a pointer on, in memory. -/
theorem vcells_sound (F : Frm A m0 σ0 w0 N fr σ a w m pb) {x : Operand} {K : List V → Prop} (h : vcells fr σ (opv fr x) K) :
    ∃ cs, K cs ∧ ∃ ad us, a.eval x = .pointer (some ad) ∧ (∀ (j : Nat) u, us[j]? = some u → w.cell? (ad.add j) = some u) ∧ VRs (pA A pb) m σ w cs us := by
  generalize hx : opv fr x = v at h
  cases v <;> simp only [vcells] at h
  case ip cs =>
    have hr := F.opnd x (by rw [hx]; rfl)
    rw [hx] at hr
    generalize a.eval x = u at hr
    cases hr with
    | imm v u hi =>
      cases hi with
      | ip cs ad cell hB hblk hcell hv =>
        refine ⟨cs, h, ad, (List.range cs.length).map cell, rfl, fun j u hu => ?_, by simp, fun i v u h1 h2 => ?_⟩
        · have hj : j < cs.length := by have := (List.getElem?_eq_some_iff.1 hu).1; simpa using this
          simp [hj] at hu
          subst hu
          exact hcell j hj
        · have hi : i < cs.length := (List.getElem?_eq_some_iff.1 h1).1
          simp [hi] at h2
          subst h2
          exact .imm _ _ (hv i v h1)
  case cell cs =>
    obtain ⟨s, b, us, T, rfl, hs, hlk, hp, hu, hh, hv⟩ := F.opndCell hx
    exact ⟨cs, h, _, us.toList, hu, fun j u hj => by have := cells_at hh 0 j u (by simpa using hj); exact this, hv⟩
  case lref s off =>
    generalize hs : lk fr s = v' at h
    cases v' <;> simp only at h
    case cell cs =>
      obtain ⟨b, us, T, _, hp, hu, hh, hv⟩ := F.opndLref hx hs
      exact ⟨_, h, _, us.toList.drop off, hu, fun j u hj => cells_at hh off j u hj, hv.drop off⟩
    all_goals exact h.elim
  case ptr id off =>
    have hr := F.opnd x (by rw [hx]; rfl)
    rw [hx] at hr
    generalize hσ : σ[id]? = ob at h
    cases ob with
    | none => exact h.elim
    | some ob =>
      cases ob <;> simp only at h
      case box cs =>
        generalize a.eval x = u at hr
        cases hr with
        | imm v u hi => cases hi
        | ptr id off u ho hp =>
          rcases hp with hp | ⟨cs', b, c, k1, k2, k3⟩
          · rw [hσ] at hp; cases hp
          · rw [hσ] at k1; cases k1
            obtain ⟨b', c', us, T, e, hh, hv⟩ := F.rel.objs id _ _ hσ k2
            cases e
            exact ⟨_, h, _, us.toList.drop off, k3, fun j u hj => cells_at hh off j u hj, hv.drop off⟩
        | iter id u ho hp =>
          rcases hp with hp | ⟨it, b, c, k1, hit, k2, k3⟩
          · rw [hσ] at hp; cases hp
          · rw [hσ] at k1; cases k1; cases hit
      all_goals exact h.elim
  case eptr id g i off =>
    have hr := F.opnd x (by rw [hx]; rfl)
    rw [hx] at hr
    generalize hσ : σ[id]? = ob at h
    cases ob with
    | none => exact h.elim
    | some ob =>
      cases ob <;> simp only at h
      case arr nl g0 sz es =>
        obtain ⟨hg, hk⟩ := h
        generalize a.eval x = u at hr
        cases hr with
        | imm v u hi => cases hi
        | eptr id g i off u ho hp =>
          rcases hp with hp | ⟨nl', g1, sz', es', k1, k2, k3⟩
          · rw [hσ] at hp; cases hp
          · rw [hσ] at k1; cases k1
            obtain ⟨hi, b, c, hb, hu⟩ := k3 hg
            rcases F.rel.objs id _ _ hσ hb with ⟨hes, _⟩ | ⟨hn, b', cap, us, T, e, hh, q1, q2, q3, q4, q5⟩
            · subst hes; simp at hi
            · cases e
              have he : es[i]? = some (es.getD i .undef) := by simp [List.getElem?_eq_getElem hi]
              have hlen := q4 _ (List.mem_of_getElem? he)
              refine ⟨_, hk, _, ((us.toList.drop (i * sz)).take sz).drop off, hu, fun j u hj => ?_, VRs.drop ⟨?_, fun r v u h1 h2 => ?_⟩ off⟩
              · have : (us.toList.drop (i * sz + off))[j]? = some u := by
                  simp only [List.getElem?_drop, List.getElem?_take] at hj ⊢
                  split at hj
                  · rw [← hj]; congr 1; omega
                  · cases hj
                exact cells_at hh _ j u this
              · have : (i + 1) * sz ≤ us.size := by rw [q1]; exact Nat.mul_le_mul_right _ (by omega)
                rw [Nat.add_mul, Nat.one_mul] at this
                rw [hlen]
                simp
                omega
              · obtain ⟨u', hu', _, hv'⟩ := q5 i _ he r v h1
                have hr' : r < sz := by rw [← hlen]; exact (List.getElem?_eq_some_iff.1 h1).1
                simp only [List.getElem?_take, if_pos hr', List.getElem?_drop] at h2
                have : us.toList[i * sz + r]? = some u' := by simpa using hu'
                rw [this] at h2
                cases h2
                exact .imm _ _ hv'
      all_goals exact h.elim

end frame
end Go.VL

/- Operations that change nothing that there is, one by one. Conditions: the table of types tells the program's own rows (TabOK). -/
namespace Go.VL

/-- What is shown of such an operation. -/
def QRes (C : Cfg) (A : Nat → Prop) (m : Mp) (σ : St) (pb : Nat → Option Nat) (w : World) (ρ : Operand → Value) (o : Oper) (K : V → Prop) : Prop :=
  ∃ v u w', K v ∧ ResR A m σ w' pb v u ∧ Grow w w' ∧ (execOp ρ o).run C.P w = .ok (.value u) w'

theorem QRes.same {C A m σ pb w ρ o} {K : V → Prop} (v : V) (u : Value) (hk : K v) (hr : VR A m σ w v u) (h : (execOp ρ o).run C.P w = .ok (.value u) w) : QRes C A m σ pb w ρ o K :=
  ⟨v, u, w, hk, ResR.of hr, Grow.refl w, h⟩

section inv
variable {A : Nat → Prop} {m : Mp} {σ : St} {w : World} {u : Value}
theorem VR.int_inv {k n} (h : VR A m σ w (.int k n) u) : u = .int k n := by cases h with | imm _ _ h => cases h; rfl
theorem VR.bool_inv {b} (h : VR A m σ w (.bool b) u) : u = .bool b := by cases h with | imm _ _ h => cases h; rfl
theorem VR.str_inv {s} (h : VR A m σ w (.str s) u) : u = .string s := by cases h with | imm _ _ h => cases h; rfl
theorem VR.nilp_inv (h : VR A m σ w .nilp u) : u = .pointer none := by cases h with | imm _ _ h => cases h; rfl
theorem VR.nilf_inv (h : VR A m σ w .nilf u) : u = .nilFunc := by cases h with | imm _ _ h => cases h; rfl
theorem VR.nilm_inv (h : VR A m σ w .nilm u) : u = .map none := by cases h with | imm _ _ h => cases h; rfl
theorem VR.im_inv {l} (h : VR A m σ w (.im l) u) : ∃ b ents, u = .map (some b) ∧ w.heap[b]? = some (.map ents ents.size) ∧ ents.size = l.length ∧ ∀ (i : Nat) kv e, l[i]? = some kv → ents[i]? = some e → VI w (Bad A m) kv.1 e.key ∧ VI w (Bad A m) kv.2 e.val := by
  cases h with
  | imm _ _ h => cases h with
    | im _ b ents hB hblk hm hl hk hv hb => exact ⟨b, ents, rfl, hm, hl, fun i kv e h1 h2 => ⟨hk i kv e h1 h2, hv i kv e h1 h2⟩⟩
theorem VR.agg_inv {cs} (h : VR A m σ w (.agg cs) u) : ∃ us, u = .agg us ∧ VRs A m σ w cs us.toList := by
  cases h with
  | imm _ _ h => cases h with | agg _ us hl hv => exact ⟨us, rfl, by simpa using hl, fun i v u h1 h2 => .imm _ _ (hv i v u h1 (by simpa using h2))⟩
  | agg _ us hl hv => exact ⟨us, rfl, by simpa using hl, fun i v u h1 h2 => hv i v u h1 (by simpa using h2)⟩
theorem VR.tup_inv {cs} (h : VR A m σ w (.tup cs) u) : ∃ us, u = .tuple us ∧ VRs A m σ w cs us.toList := by
  cases h with
  | imm _ _ h => cases h with | tup _ us hl hv => exact ⟨us, rfl, by simpa using hl, fun i v u h1 h2 => .imm _ _ (hv i v u h1 (by simpa using h2))⟩
  | tup _ us hl hv => exact ⟨us, rfl, by simpa using hl, fun i v u h1 h2 => hv i v u h1 (by simpa using h2)⟩
theorem VR.fn_inv {f xs ys} (h : VR A m σ w (.fn f xs ys) u) : ∃ us ts, u = .func f us ts ∧ VRs A m σ w xs us.toList ∧ VRs A m σ w ys ts.toList := by
  cases h with
  | imm _ _ h => cases h with | fn _ _ _ us ts hl hl' hv hv' => exact ⟨us, ts, rfl, ⟨by simpa using hl, fun i v u h1 h2 => .imm _ _ (hv i v u h1 (by simpa using h2))⟩, ⟨by simpa using hl', fun i v u h1 h2 => .imm _ _ (hv' i v u h1 (by simpa using h2))⟩⟩
  | fn _ _ _ us ts hl hl' hv hv' => exact ⟨us, ts, rfl, ⟨by simpa using hl, fun i v u h1 h2 => hv i v u h1 (by simpa using h2)⟩, ⟨by simpa using hl', fun i v u h1 h2 => hv' i v u h1 (by simpa using h2)⟩⟩
theorem VR.sl_inv {nl c sz es} (h : VR A m σ w (.sl nl c sz es) u) :
    (nl = true ∧ es = [] ∧ u = .slice none 0 0) ∨ (nl = false ∧ ∃ ad cap, ∃ cell : Nat → Value, u = .slice (some ad) es.length cap ∧ (0 < es.length * sz → ¬ Bad A m ad.block) ∧ (0 < es.length * sz → ad.block < w.heap.size) ∧ es.length ≤ cap ∧ (c = true → cap = es.length) ∧
      (∀ e ∈ es, e.cells.length = sz) ∧ (∀ j, j < es.length * sz → w.cell? (ad.add j) = some (cell j)) ∧ (∀ j, j < es.length * sz → (cell j).oneCell' = true) ∧ ∀ (i : Nat) e, es[i]? = some e → ∀ (r : Nat) v, e.cells[r]? = some v → VI w (Bad A m) v (cell (i * sz + r))) := by
  cases h with
  | imm _ _ h => cases h with
    | sl0 => exact .inl ⟨rfl, rfl, rfl⟩
    | sl _ _ _ ad cap cell h1 h2 h3 h4 h5 h6 h7 h8 => exact .inr ⟨rfl, ad, cap, cell, rfl, h1, h2, h3, h4, h5, h6, h7, h8⟩
theorem VR.rsl_inv {id g lo hi nl g0 sz es} (h : VR A m σ w (.rsl id g lo hi) u) (hσ : σ[id]? = some (.arr nl g0 sz es)) (hg : g = g0) : ∃ bm, m[id]? = some bm ∧ HdrOk bm nl sz es.length lo hi u := by
  cases h with
  | imm _ _ h => cases h
  | rsl _ _ _ _ _ _ h =>
    rcases h with h | ⟨nl', g', sz', es', bm, h1, h2, h3, h4⟩
    · rw [hσ] at h; cases h
    · rw [hσ] at h1; cases h1
      exact ⟨bm, h2, h4 hg⟩
theorem VR.ptr_inv {id off cs} (h : VR A m σ w (.ptr id off) u) (hσ : σ[id]? = some (.box cs)) : ∃ b c, m[id]? = some (some (b, c)) ∧ u = .pointer (some ⟨b, off, none⟩) := by
  cases h with
  | imm _ _ h => cases h
  | ptr _ _ _ _ h =>
    rcases h with h | ⟨cs', b, c, h1, h2, h3⟩
    · rw [hσ] at h; cases h
    · exact ⟨b, c, h2, h3⟩
  | iter _ _ _ h =>
    rcases h with h | ⟨it, b, c, h1, hit, h2, h3⟩
    · rw [hσ] at h; cases h
    · rw [hσ] at h1; cases h1; cases hit
theorem VR.iter_inv {id it} (h : VR A m σ w (.ptr id 0) u) (hσ : σ[id]? = some it) (hit : it.isIt = true) : ∃ b c, m[id]? = some (some (b, c)) ∧ u = .pointer (some ⟨b, 0, none⟩) := by
  cases h with
  | imm _ _ h => cases h
  | ptr _ _ _ _ h =>
    rcases h with h | ⟨cs', b, c, h1, h2, h3⟩
    · rw [hσ] at h; cases h; cases hit
    · rw [hσ] at h1; cases h1; cases hit
  | iter _ _ _ h =>
    rcases h with h | ⟨it', b, c, h1, hit', h2, h3⟩
    · rw [hσ] at h; cases h; cases hit
    · exact ⟨b, c, h2, h3⟩
theorem VR.eptr_inv {id g i off nl g0 sz es} (h : VR A m σ w (.eptr id g i off) u) (hσ : σ[id]? = some (.arr nl g0 sz es)) (hg : g = g0) :
    i < es.length ∧ ∃ b c, m[id]? = some (some (b, c)) ∧ u = .pointer (some ⟨b, i * sz + off, none⟩) := by
  cases h with
  | imm _ _ h => cases h
  | eptr _ _ _ _ _ _ h =>
    rcases h with h | ⟨nl', g', sz', es', h1, h2, h3⟩
    · rw [hσ] at h; cases h
    · rw [hσ] at h1; cases h1
      exact h3 hg
theorem VR.mp_inv {id l} (h : VR A m σ w (.mp id) u) (hσ : σ[id]? = some (.map l)) : ∃ b c, m[id]? = some (some (b, c)) ∧ u = .map (some b) := by
  cases h with
  | imm _ _ h => cases h
  | mp _ _ _ h =>
    rcases h with h | ⟨l', b, c, h1, h2, h3⟩
    · rw [hσ] at h; cases h
    · exact ⟨b, c, h2, h3⟩
theorem VR.ip_inv {cs} (h : VR A m σ w (.ip cs) u) : ∃ ad, ∃ cell : Nat → Value, u = .pointer (some ad) ∧ (0 < cs.length → ¬ Bad A m ad.block) ∧ (0 < cs.length → ad.block < w.heap.size) ∧ (∀ j, j < cs.length → w.cell? (ad.add j) = some (cell j)) ∧ ∀ (r : Nat) v, cs[r]? = some v → VI w (Bad A m) v (cell r) := by
  cases h with
  | imm _ _ h => cases h with | ip _ ad cell h1 h2 h3 h4 => exact ⟨ad, cell, rfl, h1, h2, h3, h4⟩
end inv

section quiet
variable {C : Cfg} {A : Nat → Prop} {m0 : Mp} {σ0 : St} {w0 : World} {N : Nat} {fr : Fr} {σ : St} {a : Act} {w : World} {m : Mp} {pb : Nat → Option Nat} {K : V → Prop} {o : Oper}

theorem q_move (F : Frm A m0 σ0 w0 N fr σ a w m pb) {x : Operand} (ho : o.op = .move x ∨ o.op = .assign x) (h : (opv fr x).isVal = true ∧ K (opv fr x)) : QRes C (pA A pb) m σ pb w a.eval o K := by
  refine .same _ (a.eval x) h.2 (F.opnd x h.1) ?_
  rcases ho with ho | ho <;> simp [execOp, ho]

theorem q_pick (F : Frm A m0 σ0 w0 N fr σ a w m pb) {c x y : Operand} (ho : o.op = .pick c x y) (h : vq C fr σ o.op K) : QRes C (pA A pb) m σ pb w a.eval o K := by
  rw [ho] at h
  simp only [vq] at h
  generalize hc : opv fr c = v at h
  cases v <;> simp only at h
  case bool t =>
    have hc' := (F.opnd c (by rw [hc]; rfl))
    rw [hc] at hc'
    have e := hc'.bool_inv
    cases t
    · exact .same _ (a.eval y) h.2 (F.opnd y h.1) (by simp [execOp, ho, e, asBool])
    · exact .same _ (a.eval x) h.2 (F.opnd x h.1) (by simp [execOp, ho, e, asBool])
  all_goals exact h.elim

theorem ibits_run (P : Program) (op : BinOp) (k : IntKind) (x y : Int) (w : World) (h : op = .and ∨ op = .or ∨ op = .xor ∨ op = .andNot) : (Op.intBits op k x y).run P w = .ok (.int k (ibits op k x y)) w := by
  rcases h with rfl | rfl | rfl | rfl <;> simp [Op.intBits, ibits]

theorem vint_sound {op : BinOp} {k : IntKind} {x y : Int} {t : TypeId} (h : vint op k x y K) : ∃ v u, K v ∧ VI w (Bad A m) v u ∧ (binOp op t (.int k x) (.int k y)).run C.P w = .ok u w := by
  cases op <;> simp only [vint] at h <;> first
    | exact h.elim
    | (refine ⟨_, _, h, .int _ _, ?_⟩; simp [binOp, Op.intArith]; done)
    | (refine ⟨_, _, h.2, .int _ _, ?_⟩; simp [binOp, Op.intDiv, h.1]; done)
    | (refine ⟨_, _, h, .int _ _, ?_⟩; simp [binOp, ibits_run]; done)
    | (refine ⟨_, _, h, .bool _, ?_⟩; simp [binOp, Op.intCmp]; done)

theorem vshift_sound {op : BinOp} {k k' : IntKind} {x y : Int} {t : TypeId} (h : vshift op k x y K) : ∃ v u, K v ∧ VI w (Bad A m) v u ∧ (binOp op t (.int k x) (.int k' y)).run C.P w = .ok u w := by
  cases op <;> simp only [vshift] at h <;> first
    | exact h.elim
    | exact ⟨_, _, h.2, .int _ _, by simp [binOp, Op.shift, Int.not_lt.2 h.1]⟩

theorem vstr_sound {op : BinOp} {x y : ByteArray} {t : TypeId} (h : vstr op x y K) : ∃ v u, K v ∧ VI w (Bad A m) v u ∧ (binOp op t (.string x) (.string y)).run C.P w = .ok u w := by
  cases op <;> simp only [vstr] at h <;> first
    | exact h.elim
    | exact ⟨_, _, h, .bool _, by simp [binOp, Op.stringOp, strEq, strLt]⟩

theorem eqK_sound {op : BinOp} {b : Bool} {x y : Value} {t : TypeId} (hr : (Op.equal t x y).run C.P w = .ok b w) (hx : ∀ k n, x ≠ .int k n) (hf : ∀ k n, x ≠ .float k n) (hc : ∀ k n l, x ≠ .complex k n l) (hs : ∀ s, x ≠ .string s) (h : eqK op b K) :
    ∃ v u, K v ∧ VI w (Bad A m) v u ∧ (binOp op t x y).run C.P w = .ok u w := by
  cases op <;> simp only [eqK] at h <;> first
    | exact h.elim
    | (refine ⟨_, _, h, .bool _, ?_⟩
       cases x <;> first
        | exact absurd rfl (hx _ _)
        | exact absurd rfl (hf _ _)
        | exact absurd rfl (hc _ _ _)
        | exact absurd rfl (hs _)
        | (cases y <;> simp [binOp, hr]))

end quiet
end Go.VL

/- Operations that change nothing that there is, one by one, second part. Conditions: the table of types tells the program's own rows (TabOK). -/
namespace Go.VL

section quiet
variable {C : Cfg} {A : Nat → Prop} {m0 : Mp} {σ0 : St} {w0 : World} {N : Nat} {fr : Fr} {σ : St} {a : Act} {w : World} {m : Mp} {pb : Nat → Option Nat} {K : V → Prop} {o : Oper}

theorem eqGuard_run (P : Program) (op : BinOp) (t : TypeId) (x y : Operand) (u v : Value) (w : World) (h : (∀ us, u ≠ .agg us) ∧ u ≠ .nilIface) : (eqGuard op t x y u v).run P w = .ok () w := by
  unfold eqGuard
  cases u <;> first | exact absurd rfl (h.1 _) | exact absurd rfl h.2 | (split <;> rfl)

theorem plain_value {v : V} {u : Value} (hp : plainCell v = true) (h : VR A m σ w v u) : u = plainVal v := by
  cases v <;> simp only [plainCell] at hp <;> first
    | exact h.int_inv
    | exact h.bool_inv
    | exact h.str_inv
    | exact absurd hp (by simp)

theorem mk_plain : ∀ {ks : List PK} {vs : List V}, mk ks vs = true → vs.all plainCell = true
  | [], [], _ => rfl
  | [], _ :: _, h => by simp [mk] at h
  | k :: ks, [], h => by cases k <;> simp [mk] at h
  | k :: ks, v :: vs, h => by
    cases k <;> cases v <;> simp only [mk, Bool.and_eq_true, Bool.false_eq_true] at h <;> simp only [List.all_cons, plainCell, Bool.true_and]
    · exact mk_plain h.2
    · exact mk_plain h
    · exact mk_plain h

theorem plain_values : ∀ {vs : List V} {us : List Value}, vs.all plainCell = true → VRs A m σ w vs us → us = vs.map plainVal
  | [], us, _, h => List.eq_nil_of_length_eq_zero (by simpa using h.1)
  | v :: vs, [], _, h => by have := h.1; simp at this
  | v :: vs, u :: us, hp, h => by
    simp only [List.all_cons, Bool.and_eq_true] at hp
    rw [List.map_cons, ← plain_value hp.1 (h.2 0 v u rfl rfl), ← plain_values hp.2 ⟨by have := h.1; simpa using this, fun i v' u' h1 h2 => h.2 (i + 1) v' u' (by simpa using h1) (by simpa using h2)⟩]

/-- What a value that may be nil is, in memory. -/
def NilU (d : TD) (b : Bool) (u : Value) : Prop :=
  match d with
  | .slice _ => ∃ a n c, u = .slice a n c ∧ a.isNone = b
  | .ptr => ∃ a, u = .pointer a ∧ a.isNone = b
  | .func => (b = true ∧ u = .nilFunc) ∨ (b = false ∧ ∃ f xs ys, u = .func f xs ys)
  | .map _ _ => ∃ r, u = .map r ∧ r.isNone = b
  | _ => False

theorem nilU {d : TD} {v : V} {u : Value} {b : Bool} (hk : kindOk d v = true) (hn : nilB σ v = some b) (h : VR A m σ w v u) : NilU d b u := by
  cases v <;> cases d <;> simp only [kindOk, Bool.false_eq_true] at hk <;> simp only [NilU]
  case sl.slice nl c sz es e =>
    simp only [nilB, Option.some.injEq] at hn
    rcases h.sl_inv with ⟨h1, h2, h3⟩ | ⟨h1, ad, cap, cell, h3, _⟩
    · exact ⟨none, 0, 0, h3, by rw [← hn, h1]; rfl⟩
    · exact ⟨some ad, _, _, h3, by rw [← hn, h1]; rfl⟩
  case rsl.slice id g lo hi e =>
    simp only [nilB] at hn
    generalize hσ : σ[id]? = ob at hn
    cases ob with
    | none => cases hn
    | some ob =>
      cases ob <;> simp only [reduceCtorEq] at hn
      case arr nl g0 sz es =>
        cases hg : Nat.beq g g0 with
        | false => rw [hg] at hn; cases hn
        | true =>
          rw [hg] at hn
          simp only [cond_true, Option.some.injEq] at hn
          obtain ⟨bm, h1, h2, h3, h4⟩ := h.rsl_inv hσ (Nat.eq_of_beq_eq_true hg)
          rcases h4 with ⟨_, h4, h5⟩ | ⟨_, h4, ad, h5⟩ | ⟨h4, b', cap, ad, _, h5, _⟩
          · exact ⟨none, 0, 0, h5, by rw [← hn, h4]; rfl⟩
          · exact ⟨some ad, 0, 0, h5, by rw [← hn, h4]; rfl⟩
          · exact ⟨some ad, _, _, h5, by rw [← hn, h4]; rfl⟩
  case nilp.ptr =>
    simp only [nilB, Option.some.injEq] at hn
    exact ⟨none, h.nilp_inv, by rw [← hn]; rfl⟩
  case ptr.ptr id off =>
    simp only [nilB] at hn
    generalize hσ : σ[id]? = ob at hn
    cases ob with
    | none => cases hn
    | some ob =>
      cases ob <;> simp only [reduceCtorEq, Option.some.injEq] at hn
      case box cs =>
        obtain ⟨b', c, _, h2⟩ := h.ptr_inv hσ
        exact ⟨_, h2, by rw [← hn]; rfl⟩
  case ip.ptr cs =>
    simp only [nilB, Option.some.injEq] at hn
    obtain ⟨ad, cell, h1, _⟩ := h.ip_inv
    exact ⟨_, h1, by rw [← hn]; rfl⟩
  case nilf.func =>
    simp only [nilB, Option.some.injEq] at hn
    exact .inl ⟨hn.symm, h.nilf_inv⟩
  case fn.func f xs ys =>
    simp only [nilB, Option.some.injEq] at hn
    obtain ⟨us, ts, h1, _⟩ := h.fn_inv
    exact .inr ⟨hn.symm, _, _, _, h1⟩
  case im.map =>
    simp [nilB] at hn
    obtain ⟨b', ents, e1, _⟩ := h.im_inv
    exact ⟨some b', e1, by rw [hn]; rfl⟩
  case nilm.map =>
    simp only [nilB, Option.some.injEq] at hn
    exact ⟨none, h.nilm_inv, by rw [← hn]; rfl⟩
  case mp.map id k e =>
    simp only [nilB] at hn
    generalize hσ : σ[id]? = ob at hn
    cases ob with
    | none => cases hn
    | some ob =>
      cases ob <;> simp only [reduceCtorEq, Option.some.injEq] at hn
      case map l =>
        obtain ⟨b', c, _, h2⟩ := h.mp_inv hσ
        exact ⟨_, h2, by rw [← hn]; rfl⟩

theorem nilB_of_isNil {v : V} (h : isNilV v = true) : nilB σ v = some true := by
  cases v <;> simp_all [isNilV, nilB]

theorem equal_nilD {P : Program} {t : TypeId} {ty : Ty} (ht : TyOK P t ty) {b : Bool} {u v : Value} (hu : NilU ty.d b u) (hv : NilU ty.d true v) (w : World) (n : Nat) :
    (Op.equalIn (n + 1) t u v).run P w = .ok b w ∧ (Op.equalIn (n + 1) t v u).run P w = .ok b w := by
  obtain ⟨d, hd, _, htd⟩ := ht.und
  unfold TDOK at htd
  generalize ty.d = td at hu hv htd
  cases td <;> simp only [NilU] at hu hv <;> try exact hu.elim
  case slice e =>
    simp only at htd
    subst htd
    obtain ⟨a1, n1, c1, rfl, h1⟩ := hu
    obtain ⟨a2, n2, c2, rfl, h2⟩ := hv
    cases a2 with
    | some _ => cases h2
    | none =>
      cases a1 <;> simp at h1 <;> subst h1 <;> simp [Op.equalIn, run_underlying hd]
  case map k e =>
    simp only at htd
    subst htd
    obtain ⟨a1, rfl, h1⟩ := hu
    obtain ⟨a2, rfl, h2⟩ := hv
    cases a2 with
    | some _ => cases h2
    | none =>
      cases a1 <;> simp at h1 <;> subst h1 <;> simp [Op.equalIn, run_underlying hd]
  case ptr =>
    simp only at htd
    obtain ⟨e, rfl⟩ := htd
    obtain ⟨a1, rfl, h1⟩ := hu
    obtain ⟨a2, rfl, h2⟩ := hv
    cases a2 with
    | some _ => cases h2
    | none =>
      cases a1 <;> simp at h1 <;> subst h1 <;> simp [Op.equalIn, run_underlying hd]
  case func =>
    simp only at htd
    obtain ⟨x, y, z, rfl⟩ := htd
    rcases hv with ⟨_, rfl⟩ | ⟨h, _⟩
    · rcases hu with ⟨rfl, rfl⟩ | ⟨rfl, f, xs, ys, rfl⟩ <;> simp [Op.equalIn, run_underlying hd]
    · cases h

theorem equal_nil {P : Program} {t : TypeId} {ty : Ty} (ht : TyOK P t ty) {b : Bool} {u v : Value} (hu : NilU ty.d b u) (hv : NilU ty.d true v) (w : World) :
    (Op.equal t u v).run P w = .ok b w ∧ (Op.equal t v u).run P w = .ok b w := equal_nilD ht hu hv w 9999

theorem equal_boolD {P : Program} {t : TypeId} (hu : P.underlying t = some .bool) (b b' : Bool) (w : World) (n : Nat) : (Op.equalIn (n + 1) t (.bool b) (.bool b')).run P w = .ok (b == b') w := by
  simp [Op.equalIn, run_underlying hu]

theorem kindOk_isVal {d : TD} {v : V} (h : kindOk d v = true) : v.isVal = true := by
  cases v <;> first | rfl | (cases d <;> simp [kindOk] at h)

theorem NilU.plain {d b u} (h : NilU d b u) : (∀ k n, u ≠ .int k n) ∧ (∀ k n, u ≠ .float k n) ∧ (∀ k n l, u ≠ .complex k n l) ∧ (∀ s, u ≠ .string s) ∧ (∀ us, u ≠ .agg us) ∧ u ≠ .nilIface := by
  cases d <;> simp only [NilU] at h <;> try exact h.elim
  · obtain ⟨_, _, _, rfl, _⟩ := h; simp
  · obtain ⟨_, rfl, _⟩ := h; simp
  · obtain ⟨_, rfl, _⟩ := h; simp
  · rcases h with ⟨_, rfl⟩ | ⟨_, _, _, _, rfl⟩ <;> simp

theorem q_bin (tok : TabOK C) (F : Frm A m0 σ0 w0 N fr σ a w m pb) {op : BinOp} {t yt : TypeId} {x y : Operand} (ho : o.op = .binOp op t x y yt) (h : vbin C σ op t (opv fr x) (opv fr y) K) :
    QRes C (pA A pb) m σ pb w a.eval o K := by
  have fin : ∀ (u v : Value), a.eval x = u → a.eval y = v → (eqGuard op t x y u v).run C.P w = .ok () w → (∃ r ru, K r ∧ VI w (Bad (pA A pb) m) r ru ∧ (binOp op t u v).run C.P w = .ok ru w) → QRes C (pA A pb) m σ pb w a.eval o K := by
    rintro u v hx hy hg ⟨r, ru, hk, hi, hr⟩
    exact .same r ru hk (.imm _ _ hi) (by simp [execOp, ho, hx, hy, hg, hr])
  have generic : ∀ {X Y : V}, opv fr x = X → opv fr y = Y → (C.T t).known = true ∧ (kindOk (C.T t).d X && kindOk (C.T t).d Y) = true ∧ (bif isNilV Y then ((∃ b, nilB σ X = some b ∧ eqK op b K)) else (isNilV X = true ∧ ∃ b, nilB σ Y = some b ∧ eqK op b K)) →
      QRes C (pA A pb) m σ pb w a.eval o K := by
    rintro X Y hX hY ⟨hkn, hkk, hb⟩
    simp only [Bool.and_eq_true] at hkk
    have hxr := F.opnd x (by rw [hX]; exact kindOk_isVal hkk.1)
    have hyr := F.opnd y (by rw [hY]; exact kindOk_isVal hkk.2)
    rw [hX] at hxr; rw [hY] at hyr
    have hty := tok.ty t hkn
    cases hn : isNilV Y with
    | true =>
      rw [hn] at hb
      obtain ⟨b, h1, h2⟩ := hb
      have hu := nilU hkk.1 h1 hxr
      have hv := nilU hkk.2 (nilB_of_isNil hn) hyr
      have p := hu.plain
      exact fin _ _ rfl rfl (eqGuard_run _ _ _ _ _ _ _ _ ⟨p.2.2.2.2.1, p.2.2.2.2.2⟩) (eqK_sound (equal_nil hty hu hv w).1 p.1 p.2.1 p.2.2.1 p.2.2.2.1 h2)
    | false =>
      rw [hn] at hb
      obtain ⟨h0, b, h1, h2⟩ := hb
      have hu := nilU hkk.1 (nilB_of_isNil h0) hxr
      have hv := nilU hkk.2 h1 hyr
      have p := hu.plain
      exact fin _ _ rfl rfl (eqGuard_run _ _ _ _ _ _ _ _ ⟨p.2.2.2.2.1, p.2.2.2.2.2⟩) (eqK_sound (equal_nil hty hv hu w).2 p.1 p.2.1 p.2.2.1 p.2.2.2.1 h2)
  generalize hX : opv fr x = X at h
  generalize hY : opv fr y = Y at h
  cases X <;> simp only [vbin] at h
  case int k n =>
    cases Y <;> simp only at h <;> try exact h.elim
    case int k' n' =>
      have e1 := (hX ▸ F.opnd x (by rw [hX]; rfl) : VR _ m σ w (.int k n) _).int_inv
      have e2 := (hY ▸ F.opnd y (by rw [hY]; rfl) : VR _ m σ w (.int k' n') _).int_inv
      refine fin _ _ e1 e2 (eqGuard_run _ _ _ _ _ _ _ _ ⟨fun _ => by simp, by simp⟩) ?_
      cases hs : isShift op with
      | true => rw [hs] at h; exact vshift_sound h
      | false =>
        rw [hs] at h
        obtain ⟨rfl, h⟩ := h
        exact vint_sound h
  case bool b =>
    cases Y <;> simp only at h <;> try exact h.elim
    case bool b' =>
      have e1 := (hX ▸ F.opnd x (by rw [hX]; rfl) : VR _ m σ w (.bool b) _).bool_inv
      have e2 := (hY ▸ F.opnd y (by rw [hY]; rfl) : VR _ m σ w (.bool b') _).bool_inv
      obtain ⟨hd, hkn, hk⟩ := h
      obtain ⟨d, hu, _, htd⟩ := (tok.ty t hkn).und
      have hd' : d = .bool := by
        unfold TDOK at htd
        cases hdd : (C.T t).d <;> rw [hdd] at hd htd <;> first | (simp at hd; done) | exact htd
      subst hd'
      refine fin _ _ e1 e2 (eqGuard_run _ _ _ _ _ _ _ _ ⟨fun _ => by simp, by simp⟩) (eqK_sound ?_ (by simp) (by simp) (by simp) (by simp) hk)
      exact equal_boolD hu b b' w 9999
  case str s =>
    cases Y <;> simp only at h <;> try exact h.elim
    case str s' =>
      have e1 := (hX ▸ F.opnd x (by rw [hX]; rfl) : VR _ m σ w (.str s) _).str_inv
      have e2 := (hY ▸ F.opnd y (by rw [hY]; rfl) : VR _ m σ w (.str s') _).str_inv
      exact fin _ _ e1 e2 (eqGuard_run _ _ _ _ _ _ _ _ ⟨fun _ => by simp, by simp⟩) (vstr_sound h)
  case agg xs =>
    cases Y <;> simp only at h <;> try exact h.elim
    case agg ys =>
      obtain ⟨he, hkn, hp1, hp2, hk⟩ := h
      obtain ⟨us, e1, r1⟩ := (hX ▸ F.opnd x (by rw [hX]; rfl) : VR _ m σ w (.agg xs) _).agg_inv
      obtain ⟨ts, e2, r2⟩ := (hY ▸ F.opnd y (by rw [hY]; rfl) : VR _ m σ w (.agg ys) _).agg_inv
      have := tok.eq t hkn he op x y us ts xs ys w hp1 hp2 (plain_values (mk_plain hp1) r1) (plain_values (mk_plain hp2) r2)
      exact fin _ _ e1 e2 this.1 (eqK_sound this.2 (by simp) (by simp) (by simp) (by simp) hk)
  all_goals exact generic hX hY h

theorem q_un (F : Frm A m0 σ0 w0 N fr σ a w m pb) {op : UnOp} {t : TypeId} {x : Operand} (ho : o.op = .unOp op t x) (h : vun op (opv fr x) K) : QRes C (pA A pb) m σ pb w a.eval o K := by
  generalize hX : opv fr x = X at h
  cases op <;> simp only [vun] at h <;> cases X <;> simp only at h <;> try exact h.elim
  case neg.int k n =>
    have e1 := (hX ▸ F.opnd x (by rw [hX]; rfl) : VR _ m σ w (.int k n) _).int_inv
    exact .same _ _ h (.imm _ _ (.int _ _)) (by simp [execOp, ho, e1, Op.unary, Op.intArith])
  case xor.int k n =>
    have e1 := (hX ▸ F.opnd x (by rw [hX]; rfl) : VR _ m σ w (.int k n) _).int_inv
    refine .same _ _ h (.imm _ _ (.int _ _)) ?_
    cases hk : k.signed <;> simp [execOp, ho, e1, Op.unary, ibits_run, hk]
  case not.bool b =>
    have e1 := (hX ▸ F.opnd x (by rw [hX]; rfl) : VR _ m σ w (.bool b) _).bool_inv
    exact .same _ _ h (.imm _ _ (.bool _)) (by simp [execOp, ho, e1, Op.unary])

theorem q_makeFunc (F : Frm A m0 σ0 w0 N fr σ a w m pb) {f : Fn} {xs ys : Array Operand} (ho : o.op = .makeFunc f xs ys) (h : vq C fr σ o.op K) : QRes C (pA A pb) m σ pb w a.eval o K := by
  rw [ho] at h
  simp only [vq, Bool.and_eq_true, List.all_eq_true, List.mem_map, forall_exists_index, and_imp, forall_apply_eq_imp_iff₂] at h
  have one : ∀ (zs : Array Operand), (∀ x ∈ zs.toList, (opv fr x).isVal = true) → VRs (pA A pb) m σ w (zs.toList.map (opv fr)) (zs.map a.eval).toList := by
    intro zs hz
    refine ⟨by simp, fun i v u h1 h2 => ?_⟩
    rw [List.getElem?_map] at h1
    rw [Array.toList_map, List.getElem?_map] at h2
    obtain ⟨x, hx, rfl⟩ := Option.map_eq_some_iff.1 h1
    rw [hx] at h2
    cases h2
    exact F.opnd x (hz x (List.mem_of_getElem? hx))
  have r1 := one xs h.1.1
  have r2 := one ys h.1.2
  exact .same _ (.func f (xs.map a.eval) (ys.map a.eval)) h.2 (.fn _ _ _ _ _ (by simp) (by simp) (fun i v u h1 h2 => r1.2 i v u h1 (by simpa using h2)) (fun i v u h1 h2 => r2.2 i v u h1 (by simpa using h2)))
    (by simp [execOp, ho, Instr.makeFunc])

theorem q_extract (F : Frm A m0 σ0 w0 N fr σ a w m pb) {t : Operand} {i : Nat} (ho : o.op = .extract t i) (h : vq C fr σ o.op K) : QRes C (pA A pb) m σ pb w a.eval o K := by
  rw [ho] at h
  simp only [vq] at h
  generalize hX : opv fr t = X at h
  cases X <;> simp only at h <;> try exact h.elim
  case tup cs =>
    obtain ⟨us, e, hl, hv⟩ := (hX ▸ F.opnd t (by rw [hX]; rfl) : VR _ m σ w (.tup cs) _).tup_inv
    have hi : i < us.size := by rw [← Array.length_toList, hl]; exact h.1
    refine .same (cs.getD i .undef) us[i] h.2.2 (hv i _ _ ?_ ?_) (by simp [execOp, ho, e, Instr.extract, hi])
    · simp [List.getElem?_eq_getElem h.1]
    · simp [hi]

end quiet
end Go.VL

/- Operations that change nothing that there is, one by one, third part: loads, addresses, cuts. Conditions: the table of types tells the program's own rows (TabOK). -/
namespace Go.VL

section quiet
variable {C : Cfg} {A : Nat → Prop} {m0 : Mp} {σ0 : St} {w0 : World} {N : Nat} {fr : Fr} {σ : St} {a : Act} {w : World} {m : Mp} {pb : Nat → Option Nat} {K : V → Prop} {o : Oper}

theorem VRs.agg {A : Nat → Prop} {m : Mp} {σ : St} {w : World} {vs : List V} {us : List Value} (h : VRs A m σ w vs us) : VR A m σ w (.agg vs) (.agg us.toArray) :=
  .agg _ _ (by simpa using h.1) fun i v u h1 h2 => h.2 i v u h1 (by simpa using h2)

theorem loadVar_run {P : Program} {t : TypeId} {ty : Ty} (ht : TyOK P t ty) {ad : Addr} {us : List Value} {w : World} (hc : ∀ (j : Nat) u, us[j]? = some u → w.cell? (ad.add j) = some u) :
    (ty.agg = true → ty.size ≤ us.length → (loadVar t ad).run P w = .ok (.agg (us.take ty.size).toArray) w) ∧ (∀ u r, ty.agg = false → us = u :: r → (loadVar t ad).run P w = .ok u w) := by
  refine ⟨fun h1 h2 => ?_, fun u r h1 h2 => ?_⟩
  · have hl := run_loadCells_list (P := P) w ad (us.take ty.size) (fun j v hj => by
      rw [List.getElem?_take] at hj
      split at hj
      · exact hc j v hj
      · cases hj)
    rw [List.length_take, Nat.min_eq_left h2] at hl
    simp [loadVar, ht.isAgg, h1, ht.sizeOf, hl]
  · have := hc 0 u (by rw [h2]; rfl)
    have ha : ad.add 0 = ad := by simp [Addr.add]
    rw [ha] at this
    simp [loadVar, ht.isAgg, h1, this]

theorem vload_sound (tok : TabOK C) {t : TypeId} {ad : Addr} {cs : List V} {us : List Value} {w : World} {σ : St} (hc : ∀ (j : Nat) u, us[j]? = some u → w.cell? (ad.add j) = some u) (hv : VRs A m σ w cs us) (h : vload C t cs K) :
    ∃ v u, K v ∧ VR A m σ w v u ∧ (loadVar t ad).run C.P w = .ok u w := by
  obtain ⟨hkn, h⟩ := h
  have ht := tok.ty t hkn
  have hr := loadVar_run ht hc
  cases hag : (C.T t).agg with
  | true =>
    rw [hag] at h
    exact ⟨_, _, h.2, (hv.take _).agg, hr.1 hag (by rw [hv.1]; exact h.1)⟩
  | false =>
    rw [hag] at h
    cases cs with
    | nil => exact h.elim
    | cons c r =>
      cases us with
      | nil => have := hv.1; simp at this
      | cons u us => exact ⟨c, u, h, hv.2 0 c u rfl rfl, hr.2 u us hag rfl⟩

theorem q_load (tok : TabOK C) (F : Frm A m0 σ0 w0 N fr σ a w m pb) {t : TypeId} {x : Operand} (ho : o.op = .load t x) (h : vq C fr σ o.op K) : QRes C (pA A pb) m σ pb w a.eval o K := by
  rw [ho] at h
  simp only [vq] at h
  obtain ⟨cs, hk, ad, us, hx, hc, hv⟩ := vcells_sound F h
  obtain ⟨v, u, h1, h2, h3⟩ := vload_sound tok hc hv hk
  exact .same v u h1 h2 (by simp [execOp, ho, Instr.loadAt, Instr.sureAddr, hx, h3])

/-- An address that is moved on. -/
theorem vshiftP_sound (F : Frm A m0 σ0 w0 N fr σ a w m pb) {x : Operand} {off : Nat} (h : vshiftP fr σ x (opv fr x) off K) :
    ∃ v ad, K v ∧ a.eval x = .pointer (some ad) ∧ ResR (pA A pb) m σ w pb v (.pointer (some (ad.add off))) := by
  generalize hX : opv fr x = X at h
  cases X <;> simp only [vshiftP] at h <;> try exact h.elim
  case ip cs =>
    obtain ⟨ad, cell, h1, h2, h3, h4, h5⟩ := (hX ▸ F.opnd x (by rw [hX]; rfl) : VR _ m σ w (.ip cs) _).ip_inv
    refine ⟨_, ad, h, h1, ResR.of (.imm _ _ (.ip _ _ (fun j => cell (off + j)) (fun h0 => by rw [add_block]; exact h2 (by simp at h0; omega)) (fun h0 => by rw [add_block]; exact h3 (by simp at h0; omega)) (fun j hj => ?_) fun r v hr => h5 (off + r) v (by simpa [List.getElem?_drop] using hr)))⟩
    rw [add_add]; exact h4 _ (by simp at hj; omega)
  case cell cs =>
    obtain ⟨s, b, us, T, rfl, hs, hlk, hp, hu, hh, hv⟩ := F.opndCell hX
    exact ⟨_, _, h, hu, b, hp, by rw [addr_add, Nat.zero_add]⟩
  case lref s o' =>
    generalize hl : lk fr s = v' at h
    cases v' <;> simp only at h <;> try exact h.elim
    case cell cs =>
      obtain ⟨b, us, T, _, hp, hu, hh, hv⟩ := F.opndLref hX hl
      exact ⟨_, _, h, hu, b, hp, by rw [addr_add]⟩
  case ptr id o' =>
    generalize hσ : σ[id]? = ob at h
    cases ob with
    | none => exact h.elim
    | some ob =>
      cases ob <;> simp only at h <;> try exact h.elim
      case box cs =>
        obtain ⟨b, c, h1, h2⟩ := (hX ▸ F.opnd x (by rw [hX]; rfl) : VR _ m σ w (.ptr id o') _).ptr_inv hσ
        exact ⟨_, _, h, h2, ResR.of (.ptr _ _ _ rfl (.inr ⟨cs, b, c, hσ, h1, by rw [addr_add]⟩))⟩
  case eptr id g i o' =>
    generalize hσ : σ[id]? = ob at h
    cases ob with
    | none => exact h.elim
    | some ob =>
      cases ob <;> simp only at h <;> try exact h.elim
      case arr nl g0 sz es =>
        obtain ⟨hi, b, c, h1, h2⟩ := (hX ▸ F.opnd x (by rw [hX]; rfl) : VR _ m σ w (.eptr id g i o') _).eptr_inv hσ h.1
        refine ⟨_, _, h.2, h2, ResR.of (.eptr _ _ _ _ _ rfl (.inr ⟨nl, g0, sz, es, hσ, by omega, fun _ => ⟨hi, b, c, h1, by rw [addr_add, Nat.add_assoc]⟩⟩))⟩

theorem q_fieldAddr (tok : TabOK C) (F : Frm A m0 σ0 w0 N fr σ a w m pb) {t : TypeId} {x : Operand} {i : Nat} (ho : o.op = .fieldAddr t x i) (h : vq C fr σ o.op K) : QRes C (pA A pb) m σ pb w a.eval o K := by
  rw [ho] at h
  simp only [vq] at h
  obtain ⟨hkn, h⟩ := h
  obtain ⟨d, hd, _, htd⟩ := (tok.ty t hkn).und
  unfold TDOK at htd
  cases hdd : (C.T t).d <;> rw [hdd] at h htd <;> simp only at h htd <;> try exact h.elim
  case struct fs =>
    obtain ⟨fields, rfl, _, hf⟩ := htd
    cases hfi : fs[i]? with
    | none => rw [hfi] at h; exact h.elim
    | some x' =>
      obtain ⟨off, ft⟩ := x'
      rw [hfi] at h
      obtain ⟨hft, hpos, h⟩ := h
      obtain ⟨f, h1, h2, h3⟩ := hf i off ft hfi
      obtain ⟨v, ad, hk, hx, hr⟩ := vshiftP_sound F h
      refine ⟨v, _, w, hk, hr, Grow.refl w, ?_⟩
      have hsz := (tok.ty ft hft).sizeOf w
      simp [execOp, ho, Instr.fieldAt, Instr.sureAddr, run_underlying hd, h1, hx, fieldPlace, hsz, h3, h2, Nat.ne_of_gt hpos]

theorem vpart_sound (tok : TabOK C) {t : TypeId} {cs : List V} {us : Array Value} {off : Nat} {w : World} {σ : St} (hv : VRs A m σ w cs us.toList) (h : vpart C t cs off K) :
    ∃ v u, K v ∧ VR A m σ w v u ∧ (part t us off).run C.P w = .ok u w := by
  obtain ⟨hkn, h⟩ := h
  have ht := tok.ty t hkn
  cases hag : (C.T t).agg with
  | true =>
    rw [hag] at h
    refine ⟨_, _, h, (VRs.take (VRs.drop hv off) (C.T t).size).agg, ?_⟩
    have : us.extract off (off + (C.T t).size) = ((us.toList.drop off).take (C.T t).size).toArray := by
      apply Array.ext'
      simp [Array.toList_extract, List.extract_eq_take_drop]
    simp [part, ht.isAgg, hag, ht.sizeOf, this]
  | false =>
    rw [hag] at h
    obtain ⟨hlt, hk⟩ := h
    have hu : off < us.size := by rw [← Array.length_toList, hv.1]; exact hlt
    refine ⟨_, us[off], hk, hv.2 off _ _ ?_ ?_, ?_⟩
    · simp [List.getElem?_eq_getElem hlt]
    · simp [hu]
    · simp [part, ht.isAgg, hag, hu]

theorem q_field (tok : TabOK C) (F : Frm A m0 σ0 w0 N fr σ a w m pb) {t : TypeId} {x : Operand} {i : Nat} (ho : o.op = .field t x i) (h : vq C fr σ o.op K) : QRes C (pA A pb) m σ pb w a.eval o K := by
  rw [ho] at h
  simp only [vq] at h
  obtain ⟨hkn, h⟩ := h
  obtain ⟨d, hd, _, htd⟩ := (tok.ty t hkn).und
  unfold TDOK at htd
  generalize hX : opv fr x = X at h
  cases hdd : (C.T t).d <;> rw [hdd] at h htd <;> simp only at h htd <;> try exact h.elim
  case struct fs =>
    cases X <;> simp only at h <;> try exact h.elim
    case agg cs =>
      obtain ⟨fields, rfl, _, hf⟩ := htd
      cases hfi : fs[i]? with
      | none => rw [hfi] at h; exact h.elim
      | some x' =>
        obtain ⟨off, ft⟩ := x'
        rw [hfi] at h
        obtain ⟨f, h1, h2, h3⟩ := hf i off ft hfi
        obtain ⟨us, e, hv⟩ := (hX ▸ F.opnd x (by rw [hX]; rfl) : VR _ m σ w (.agg cs) _).agg_inv
        obtain ⟨v, u, hk, hr, hp⟩ := vpart_sound tok hv h
        exact .same v u hk hr (by simp [execOp, ho, Instr.field, run_underlying hd, h1, e, asAgg, h2, h3, hp])

theorem q_indexAddr (tok : TabOK C) (F : Frm A m0 σ0 w0 N fr σ a w m pb) {t : TypeId} {x i : Operand} (ho : o.op = .indexAddr t x i) (h : vq C fr σ o.op K) : QRes C (pA A pb) m σ pb w a.eval o K := by
  rw [ho] at h
  simp only [vq] at h
  obtain ⟨hkn, h⟩ := h
  obtain ⟨d, hd, _, htd⟩ := (tok.ty t hkn).und
  unfold TDOK at htd
  generalize hI : opv fr i = I at h
  cases I <;> simp only at h <;> try exact h.elim
  case int k n =>
    have ei := (hI ▸ F.opnd i (by rw [hI]; rfl) : VR _ m σ w (.int k n) _).int_inv
    cases hdd : (C.T t).d <;> rw [hdd] at h htd <;> simp only at h htd <;> try exact h.elim
    case slice e =>
      subst htd
      obtain ⟨hke, h⟩ := h
      have hsz := (tok.ty e hke).sizeOf w
      generalize hX : opv fr x = X at h
      cases X <;> simp only at h <;> try exact h.elim
      case sl nl c sz es =>
        obtain ⟨rfl, ⟨h0, h1⟩, hk⟩ := h
        rcases (hX ▸ F.opnd x (by rw [hX]; rfl) : VR _ m σ w (.sl nl c _ es) _).sl_inv with ⟨_, rfl, _⟩ | ⟨_, ad, cap, cell, e1, hB, hblk, hcap, hclip, hes, hcell, _, hv⟩
        · simp at h1; omega
        · have hn : n.toNat < es.length := by omega
          have he : es[n.toNat]? = some (es.getD n.toNat .undef) := by simp [List.getElem?_eq_getElem hn]
          have hl := hes _ (List.mem_of_getElem? he)
          have hle : n.toNat * (C.T e).size + (C.T e).size ≤ es.length * (C.T e).size := by rw [← Nat.succ_mul]; exact Nat.mul_le_mul_right _ hn
          refine .same _ (.pointer (some (ad.add (n.toNat * (C.T e).size)))) hk (.imm _ _ (.ip _ _ (fun j => cell (n.toNat * (C.T e).size + j)) (fun hp => by rw [add_block]; exact hB (by omega)) (fun hp => by rw [add_block]; exact hblk (by omega))
            (fun j hj => by rw [add_add]; exact hcell _ (by omega)) fun r v hr => hv n.toNat _ he r v hr)) ?_
          simp [execOp, ho, Instr.indexAt, ei, asIntOf, run_underlying hd, e1, h0, h1, hsz]
      case rsl id g lo hi =>
        generalize hσ : σ[id]? = ob at h
        cases ob with
        | none => exact h.elim
        | some ob =>
          cases ob <;> simp only at h <;> try exact h.elim
          case arr nl g0 sz es =>
            obtain ⟨hg, rfl, ⟨h0, h1⟩, hk⟩ := h
            obtain ⟨bm, hbm, h2, h3, h4⟩ := (hX ▸ F.opnd x (by rw [hX]; rfl) : VR _ m σ w (.rsl id g lo hi) _).rsl_inv hσ hg
            have hob := F.rel.objs id _ _ hσ hbm
            rcases h4 with ⟨hb0, _⟩ | ⟨hb0, _⟩ | ⟨_, b, cap, ad, hb0, e1, h5, h6, h7⟩
            · rcases hob with ⟨hes, _⟩ | ⟨_, b, _, _, _, hb1, _⟩
              · subst hes; simp at h3; omega
              · rw [hb0] at hb1; cases hb1
            · rcases hob with ⟨hes, _⟩ | ⟨_, b, _, _, _, hb1, _⟩
              · subst hes; simp at h3; omega
              · rw [hb0] at hb1; cases hb1
            · have had : ad = ⟨b, lo * (C.T e).size, none⟩ := h7 (by omega)
              subst had
              refine .same _ (.pointer (some ⟨b, (lo + n.toNat) * (C.T e).size + 0, none⟩)) hk (.eptr _ _ _ _ _ rfl (.inr ⟨nl, g0, _, es, hσ, by omega, fun _ => ⟨by omega, b, cap, by rw [hbm, hb0], rfl⟩⟩)) ?_
              simp [execOp, ho, Instr.indexAt, ei, asIntOf, run_underlying hd, e1, h0, h1, hsz, addr_add, Nat.add_mul]
    case array len e =>
      subst htd
      obtain ⟨hke, ⟨h0, h1⟩, h⟩ := h
      have hsz := (tok.ty e hke).sizeOf w
      obtain ⟨v, ad, hk, hx, hr⟩ := vshiftP_sound F h
      refine ⟨v, _, w, hk, hr, Grow.refl w, ?_⟩
      simp [execOp, ho, Instr.indexAt, Instr.sureAddr, ei, asIntOf, run_underlying hd, hx, h0, h1, hsz]

theorem bytes_getElem (s : ByteArray) (n : Nat) (h : n < s.size) : s[n]? = some (s.data.toList.getD n 0) := by
  have h' : n < s.data.toList.length := by rw [Array.length_toList]; exact h
  rw [getElem?_pos s n h]
  simp [List.getD_eq_getElem?_getD, List.getElem?_eq_getElem h']
  rfl

theorem q_index (tok : TabOK C) (F : Frm A m0 σ0 w0 N fr σ a w m pb) {t : TypeId} {x i : Operand} (ho : o.op = .index t x i) (h : vq C fr σ o.op K) : QRes C (pA A pb) m σ pb w a.eval o K := by
  rw [ho] at h
  simp only [vq] at h
  obtain ⟨hkn, h⟩ := h
  obtain ⟨d, hd, _, htd⟩ := (tok.ty t hkn).und
  unfold TDOK at htd
  generalize hI : opv fr i = I at h
  cases I <;> simp only at h <;> try exact h.elim
  case int k n =>
    have ei := (hI ▸ F.opnd i (by rw [hI]; rfl) : VR _ m σ w (.int k n) _).int_inv
    generalize hX : opv fr x = X at h
    cases hdd : (C.T t).d <;> rw [hdd] at h htd <;> simp only at h htd <;> try exact h.elim
    case str =>
      subst htd
      cases X <;> simp only at h <;> try exact h.elim
      case str s =>
        obtain ⟨⟨h0, h1⟩, hk⟩ := h
        have ex := (hX ▸ F.opnd x (by rw [hX]; rfl) : VR _ m σ w (.str s) _).str_inv
        refine .same _ (.int .u8 (s.data.toList.getD n.toNat 0).toNat) hk (.imm _ _ (.int _ _)) ?_
        have := bytes_getElem s n.toNat (by omega)
        simp [execOp, ho, Instr.index, ei, ex, asIntOf, run_underlying hd, h0, this]
    case array len e =>
      subst htd
      cases X <;> simp only at h <;> try exact h.elim
      case agg cs =>
        obtain ⟨hke, ⟨h0, h1⟩, h⟩ := h
        have hsz := (tok.ty e hke).sizeOf w
        obtain ⟨us, ex, hv⟩ := (hX ▸ F.opnd x (by rw [hX]; rfl) : VR _ m σ w (.agg cs) _).agg_inv
        obtain ⟨v, u, hk, hr, hp⟩ := vpart_sound tok hv h
        exact .same v u hk hr (by simp [execOp, ho, Instr.index, ei, ex, asIntOf, run_underlying hd, h0, h1, hsz, hp])

theorem q_nilCheck (F : Frm A m0 σ0 w0 N fr σ a w m pb) {x : Operand} (ho : o.op = .nilCheck x) (h : vq C fr σ o.op K) : QRes C (pA A pb) m σ pb w a.eval o K := by
  rw [ho] at h
  simp only [vq] at h
  generalize hX : opv fr x = X at h
  cases X <;> (try simp only at h) <;> try exact h.elim
  case ip cs =>
    have hr := (hX ▸ F.opnd x (by rw [hX]; rfl) : VR _ m σ w (.ip cs) _)
    obtain ⟨ad, cell, e, _⟩ := hr.ip_inv
    exact .same _ _ h hr (by simp [execOp, ho, e])
  case fn f xs ys =>
    cases f with
    | func g =>
      have hr := (hX ▸ F.opnd x (by rw [hX]; rfl) : VR _ m σ w (.fn _ xs ys) _)
      obtain ⟨us, ts, e, _⟩ := hr.fn_inv
      exact .same _ _ h hr (by simp [execOp, ho, e])
    | _ => exact h.elim
  case ptr id off =>
    generalize hσ : σ[id]? = ob at h
    cases ob with
    | none => exact h.elim
    | some ob =>
      cases ob <;> simp only at h <;> try exact h.elim
      case box cs =>
        have hr := (hX ▸ F.opnd x (by rw [hX]; rfl) : VR _ m σ w (.ptr id off) _)
        obtain ⟨b, c, _, e⟩ := hr.ptr_inv hσ
        exact .same _ _ h hr (by simp [execOp, ho, e])

theorem resolve_builtin (P : Program) (ρ : Operand → Value) (b : Builtin) (args : Array Operand) (ats : Array TypeId) (t : TypeId) (w : World) :
    ∃ cs, (do let d ← resolve ρ { callee := .builtin b, args, argTypes := ats } t; invoke d.target d.args : Sem Next).run P w = (builtin b ats t cs (args.map ρ)).run P w :=
  ⟨_, by simp only [resolve, invoke, Sem.run_bind, Sem.run_pure, Result.andThen_ok]; rfl⟩

theorem q_cap (tok : TabOK C) (F : Frm A m0 σ0 w0 N fr σ a w m pb) {t : TypeId} {x : Operand} {args : Array Operand} {ats : Array TypeId} (ho : o.op = .call { callee := .builtin .cap, args, argTypes := ats }) (ha : args.toList = [x]) (ht : ats.toList = [t])
    (h : vcap C t (opv fr x) K) : QRes C (pA A pb) m σ pb w a.eval o K := by
  obtain rfl : args = #[x] := by apply Array.ext'; simpa using ha
  obtain rfl : ats = #[t] := by apply Array.ext'; simpa using ht
  obtain ⟨hkn, h⟩ := h
  obtain ⟨d, hd, _, htd⟩ := (tok.ty t hkn).und
  unfold TDOK at htd
  generalize hX : opv fr x = X at h
  cases hdd : (C.T t).d <;> rw [hdd] at h htd <;> simp only at h htd <;> try exact h.elim
  case slice e =>
    subst htd
    cases X <;> (try simp only at h) <;> try exact h.elim
    case sl nl c sz es =>
      cases nl <;> cases es <;> (try simp only at h) <;> try exact h.elim
      rcases (hX ▸ F.opnd x (by rw [hX]; rfl) : VR _ m σ w (.sl true c sz []) _).sl_inv with ⟨_, _, e1⟩ | ⟨e0, ad, cap, cell, e1, _⟩
      · refine .same _ (.int .i64 0) h (.imm _ _ (.int _ _)) ?_
        obtain ⟨cs, hcs⟩ := resolve_builtin C.P a.eval .cap #[x] #[t] o.type w
        simp only [execOp, ho]
        rw [hcs]
        simp [builtin, Builtin.cap_, run_underlying hd, e1, goInt]
      · cases e0

theorem q_len (tok : TabOK C) (F : Frm A m0 σ0 w0 N fr σ a w m pb) {t : TypeId} {x : Operand} {args : Array Operand} {ats : Array TypeId} (ho : o.op = .call { callee := .builtin .len, args, argTypes := ats }) (ha : args.toList = [x]) (ht : ats.toList = [t])
    (h : vlen C σ t (opv fr x) K) : QRes C (pA A pb) m σ pb w a.eval o K := by
  obtain rfl : args = #[x] := by apply Array.ext'; simpa using ha
  obtain rfl : ats = #[t] := by apply Array.ext'; simpa using ht
  obtain ⟨hkn, h⟩ := h
  obtain ⟨d, hd, _, htd⟩ := (tok.ty t hkn).und
  unfold TDOK at htd
  have fin : ∀ n : Int, K (.int .i64 n) → (Builtin.len_ #[t] o.type #[a.eval x]).run C.P w = .ok (.int .i64 n) w → QRes C (pA A pb) m σ pb w a.eval o K := fun n hk hr =>
    .same _ (.int .i64 n) hk (.imm _ _ (.int _ _)) (by
      obtain ⟨cs, hcs⟩ := resolve_builtin C.P a.eval .len #[x] #[t] o.type w
      simp only [execOp, ho]
      rw [hcs]
      simp [builtin, hr])
  generalize hX : opv fr x = X at h
  cases hdd : (C.T t).d <;> rw [hdd] at h htd <;> simp only at h htd <;> try exact h.elim
  case slice e =>
    subst htd
    cases X <;> simp only at h <;> try exact h.elim
    case sl nl c sz es =>
      rcases (hX ▸ F.opnd x (by rw [hX]; rfl) : VR _ m σ w (.sl nl c sz es) _).sl_inv with ⟨_, rfl, e1⟩ | ⟨_, ad, cap, cell, e1, _⟩
      · exact fin _ h (by simp [Builtin.len_, run_underlying hd, e1, goInt])
      · exact fin _ h (by simp [Builtin.len_, run_underlying hd, e1, goInt])
    case rsl id g lo hi =>
      generalize hσ : σ[id]? = ob at h
      cases ob with
      | none => exact h.elim
      | some ob =>
        cases ob <;> simp only at h <;> try exact h.elim
        case arr nl g0 sz es =>
          obtain ⟨bm, hbm, h2, h3, h4⟩ := (hX ▸ F.opnd x (by rw [hX]; rfl) : VR _ m σ w (.rsl id g lo hi) _).rsl_inv hσ h.1
          have hob := F.rel.objs id _ _ hσ hbm
          rcases h4 with ⟨hb0, _, e1⟩ | ⟨hb0, _, ad, e1⟩ | ⟨_, b, cap, ad, hb0, e1, h5, h6, h7⟩
          · rcases hob with ⟨hes, _⟩ | ⟨_, b, _, _, _, hb1, _⟩
            · subst hes
              have : hi - lo = 0 := by simp at h3; omega
              exact fin _ h.2 (by simp [Builtin.len_, run_underlying hd, e1, goInt, this])
            · rw [hb0] at hb1; cases hb1
          · rcases hob with ⟨hes, _⟩ | ⟨_, b, _, _, _, hb1, _⟩
            · subst hes
              have : hi - lo = 0 := by simp at h3; omega
              exact fin _ h.2 (by simp [Builtin.len_, run_underlying hd, e1, goInt, this])
            · rw [hb0] at hb1; cases hb1
          · exact fin _ h.2 (by simp [Builtin.len_, run_underlying hd, e1, goInt])
  case str =>
    subst htd
    cases X <;> simp only at h <;> try exact h.elim
    case str s =>
      have e1 := (hX ▸ F.opnd x (by rw [hX]; rfl) : VR _ m σ w (.str s) _).str_inv
      exact fin _ h (by simp [Builtin.len_, run_underlying hd, e1, goInt])
  case array n e =>
    subst htd
    exact fin _ h (by simp [Builtin.len_, run_underlying hd, goInt])
  case map k e =>
    subst htd
    cases X <;> simp only at h <;> try exact h.elim
    case nilm =>
      have e1 := (hX ▸ F.opnd x (by rw [hX]; rfl) : VR _ m σ w .nilm _).nilm_inv
      exact fin _ h (by simp [Builtin.len_, run_underlying hd, e1, goInt])
    case mp id =>
      generalize hσ : σ[id]? = ob at h
      cases ob with
      | none => exact h.elim
      | some ob =>
        cases ob <;> simp only at h <;> try exact h.elim
        case map l =>
          obtain ⟨b, c, hm, e1⟩ := (hX ▸ F.opnd x (by rw [hX]; rfl) : VR _ m σ w (.mp id) _).mp_inv hσ
          obtain ⟨b', c', ents, e2, hh, hs, _⟩ := F.rel.objs id _ _ hσ hm
          cases e2
          have : (getObj b).run C.P w = .ok (.map ents ents.size) w := by simp [getObj, Sem.run, hh]
          exact fin _ h (by simp [Builtin.len_, run_underlying hd, e1, goInt, this, hs])

end quiet
end Go.VL

/- Operations that change nothing that there is, one by one, fourth part: cuts, what is built, look-ups, conversions. Conditions: the table of types tells the program's own rows (TabOK). -/
namespace Go.VL

section plain
variable {A : Nat → Prop} {m : Mp} {σ : St} {w : World}

theorem imm0_VI {v : V} {u : Value} (h : imm0 v = true) (hr : VR A m σ w v u) : VI w (Bad A m) v u := by
  cases v <;> simp only [imm0, Bool.false_eq_true] at h <;> (cases hr with | imm _ _ hi => exact hi)

theorem imm1_VI {v : V} {u : Value} (h : imm1 v = true) (hr : VR A m σ w v u) : VI w (Bad A m) v u := by
  cases v with
  | fn f xs ys =>
    simp only [imm1, Bool.and_eq_true, List.all_eq_true] at h
    obtain ⟨us, ts, rfl, r1, r2⟩ := hr.fn_inv
    exact .fn _ _ _ _ _ (by simpa using r1.1) (by simpa using r2.1) (fun i v u h1 h2 => imm0_VI (h.1 v (List.mem_of_getElem? h1)) (r1.2 i v u h1 (by simpa using h2)))
      (fun i v u h1 h2 => imm0_VI (h.2 v (List.mem_of_getElem? h1)) (r2.2 i v u h1 (by simpa using h2)))
  | _ => exact imm0_VI (by simpa only [imm1] using h) hr

theorem immV_VI {v : V} {u : Value} (h : immV v = true) (hr : VR A m σ w v u) : VI w (Bad A m) v u := by
  cases v with
  | agg cs =>
    simp only [immV, List.all_eq_true] at h
    obtain ⟨us, rfl, r⟩ := hr.agg_inv
    exact .agg _ _ (by simpa using r.1) fun i v u h1 h2 => imm1_VI (h v (List.mem_of_getElem? h1)) (r.2 i v u h1 (by simpa using h2))
  | tup cs =>
    simp only [immV, List.all_eq_true] at h
    obtain ⟨us, rfl, r⟩ := hr.tup_inv
    exact .tup _ _ (by simpa using r.1) fun i v u h1 h2 => imm1_VI (h v (List.mem_of_getElem? h1)) (r.2 i v u h1 (by simpa using h2))
  | ifc t v =>
    simp only [immV] at h
    cases hr with
    | imm _ _ hi => exact hi
    | ifc _ _ u hr => exact .ifc _ _ _ (imm1_VI h hr)
  | _ => exact imm1_VI (by simpa only [immV] using h) hr

theorem cell1_value {v : V} {u : Value} (h : cell1 v = true) (hr : VR A m σ w v u) : u.oneCell' = true := by
  cases hr with
  | imm _ _ hi => cases hi <;> first | rfl | (simp [cell1] at h)
  | agg => simp [cell1] at h
  | tup => simp [cell1] at h
  | fn => rfl
  | ifc => rfl
  | _ => assumption

theorem oneCell_cells {u : Value} (h : u.oneCell' = true) : u.cells = #[u] := by
  cases u <;> first | rfl | (simp [Value.oneCell'] at h)

theorem okv_cells {v : V} {u : Value} (h : okv v = true) (hr : VR A m σ w v u) : VRs A m σ w v.cells u.cells.toList ∧ ∀ x ∈ u.cells.toList, x.oneCell' = true := by
  have one : cell1 v = true → v.cells = [v] → VRs A m σ w v.cells u.cells.toList ∧ ∀ x ∈ u.cells.toList, x.oneCell' = true := by
    intro h1 h2
    have ho := cell1_value h1 hr
    rw [oneCell_cells ho, h2]
    refine ⟨⟨rfl, fun i v' u' h1 h2 => ?_⟩, fun x hx => by simp at hx; rw [hx]; exact ho⟩
    cases i with
    | zero => simp at h1 h2; rw [← h1, ← h2]; exact hr
    | succ i => simp at h1
  cases v with
  | agg cs =>
    simp only [okv, List.all_eq_true] at h
    obtain ⟨us, rfl, r⟩ := hr.agg_inv
    refine ⟨r, fun x hx => ?_⟩
    obtain ⟨i, hi, rfl⟩ := List.getElem_of_mem (show x ∈ us.toList from hx)
    have hi' : i < cs.length := by rw [← r.1]; exact hi
    exact cell1_value (h _ (List.getElem_mem hi')) (r.2 i cs[i] us.toList[i] (List.getElem?_eq_getElem hi') (List.getElem?_eq_getElem hi))
  | _ => exact one (by simpa only [okv] using h) rfl

theorem okv_VIcells {v : V} {u : Value} (hok : okv v = true) (hr : VR A m σ w v u) (hi : VI w (Bad A m) v u) : ∀ (r : Nat) c x, v.cells[r]? = some c → u.cells.toList[r]? = some x → VI w (Bad A m) c x := by
  have one : cell1 v = true → v.cells = [v] → ∀ (r : Nat) c x, v.cells[r]? = some c → u.cells.toList[r]? = some x → VI w (Bad A m) c x := by
    intro h1 h2 r c x hc hx
    rw [oneCell_cells (cell1_value h1 hr)] at hx
    rw [h2] at hc
    cases r with
    | succ r => simp at hc
    | zero => simp at hc hx; rw [← hc, ← hx]; exact hi
  cases v with
  | agg cs =>
    intro r c x hc hx
    cases hi with | agg _ us hl hv => exact hv r c x hc (by simpa [Value.cells] using hx)
  | _ => exact one (by simpa only [okv] using hok) rfl

theorem fold_setVals (off : Nat) : ∀ (l : List Value) (k : Nat) (cs : Array Value), ((l.zipIdx k).foldl (fun cs (x : Value × Nat) => cs.setIfInBounds (off + x.2) x.1) cs).toList = setVals cs.toList (off + k) l
  | [], k, cs => rfl
  | v :: l, k, cs => by
    rw [List.zipIdx_cons, List.foldl_cons, fold_setVals off l (k + 1)]
    simp [setVals, Nat.add_assoc]

theorem fill_one (off : Nat) (vs cs : Array Value) : (vs.zipIdx.foldl (fun cs (x : Value × Nat) => cs.setIfInBounds (off + x.2) x.1) cs).toList = setVals cs.toList off vs.toList := by
  rw [← Array.foldl_toList, Array.toList_zipIdx]
  exact fold_setVals off vs.toList 0 cs

theorem okv_isVal {v : V} (h : okv v = true) : v.isVal = true := by
  cases v <;> first | rfl | (simp [okv, cell1] at h)

end plain

section quiet
variable {C : Cfg} {A : Nat → Prop} {m0 : Mp} {σ0 : St} {w0 : World} {N : Nat} {fr : Fr} {σ : St} {a : Act} {w : World} {m : Mp} {pb : Nat → Option Nat} {K : V → Prop} {o : Oper}

theorem fill_sound {places : Nat → Option (Nat × TypeId)} {rp : Nat → Option (Nat × Nat)} (hp : ∀ i off t, places i = some (off, t) → rp i = some (off, (C.T t).size)) {L : List V → Prop} :
    ∀ (parts : List (Nat × V)) (us : List (Nat × Value)) (vcs : List V) (cells : Array Value), us.length = parts.length → (∀ (i : Nat) p u, parts[i]? = some p → us[i]? = some u → u.1 = p.1 ∧ (okv p.2 = true → VR A m σ w p.2 u.2)) →
      VRs A m σ w vcs cells.toList → fillV C places vcs parts L → ∃ vcs' cells', L vcs' ∧ Instr.fill rp cells us = some cells' ∧ VRs A m σ w vcs' cells'.toList
  | [], us, vcs, cells, hl, _, hv, h => by
    obtain rfl : us = [] := List.eq_nil_of_length_eq_zero (by simpa using hl)
    exact ⟨vcs, cells, h, rfl, hv⟩
  | (i, v) :: r, [], _, _, hl, _, _, _ => by simp at hl
  | (i, v) :: r, (j, u) :: us, vcs, cells, hl, hall, hv, h => by
    simp only [fillV] at h
    obtain ⟨e, hvu⟩ := hall 0 (i, v) (j, u) rfl rfl
    simp only at e hvu
    subst e
    cases hpl : places j with
    | none => rw [hpl] at h; exact h.elim
    | some x =>
      obtain ⟨off, t⟩ := x
      rw [hpl] at h
      obtain ⟨hkn, hok, hlen, hoff, h⟩ := h
      obtain ⟨hc, h1⟩ := okv_cells hok (hvu hok)
      have hsz : u.cells.size = (C.T t).size := by rw [← Array.length_toList, hc.1, hlen]
      have hcs : cells.size = vcs.length := by rw [← Array.length_toList, hv.1]
      obtain ⟨vcs', cells', k1, k2, k3⟩ := fill_sound hp r us (setCells vcs off v.cells) (u.cells.zipIdx.foldl (fun cs (x : Value × Nat) => cs.setIfInBounds (off + x.2) x.1) cells) (by simpa using hl)
        (fun n p q h1 h2 => hall (n + 1) p q (by simpa using h1) (by simpa using h2)) (by rw [fill_one]; exact hv.setCells off hc) h
      refine ⟨vcs', cells', k1, ?_, k3⟩
      simp only [Instr.fill, hp j off t hpl]
      rw [if_neg]
      · exact k2
      · simp only [Bool.or_eq_true, decide_eq_true_eq, bne_iff_ne, ne_eq, not_or, Decidable.not_not]
        exact ⟨hsz, by rw [hsz, ← hlen, hcs]; omega⟩

theorem mapM_run {α β : Type} {P : Program} {w : World} {f : α → Sem β} {g : α → β} : ∀ (l : List α), (∀ x ∈ l, (f x).run P w = .ok (g x) w) → (l.mapM f).run P w = .ok (l.map g) w
  | [], _ => by simp
  | x :: l, h => by
    rw [List.mapM_cons]
    simp [h x (by simp), mapM_run l (fun y hy => h y (by simp [hy]))]

theorem zeroC_VRs {P : Program} {t : TypeId} {ty : Ty} (ht : TyOK P t ty) : ∃ z, (∀ w, (zeroValue t).run P w = .ok z w) ∧ (∀ (A : Nat → Prop) m σ w, VRs A m σ w (zeroC ty) z.cells.toList) ∧ (∀ (A : Nat → Prop) m σ w, VR A m σ w (zeroOf ty) z) ∧ z.cells.size = ty.size := by
  obtain ⟨z, h1, h2, h3, h4, h5⟩ := ht.zero
  have hvs : ∀ (A : Nat → Prop) m σ w, VRs A m σ w (zeroC ty) z.cells.toList := fun A m σ w => by
    rw [h2]
    refine ⟨by simp [zeroC], fun i v u k1 k2 => ?_⟩
    simp only [zeroC, List.getElem?_map, k2, Option.map_some, Option.some.injEq] at k1
    rw [← k1]
    exact .imm _ _ (VI_ofVal0 _ _ _)
  refine ⟨z, h1, hvs, fun A m σ w => ?_, by rw [← Array.length_toList, h2, h5]⟩
  cases hag : ty.agg with
  | true =>
    have := h4 hag
    simp only [zeroOf, hag, cond_true]
    rw [this]
    exact (hvs A m σ w).agg
  | false =>
    have h3' := h3 hag
    simp only [zeroOf, hag, cond_false, zeroC]
    rw [← h2, h3']
    exact .imm _ _ (VI_ofVal0 _ _ _)

theorem parts_VRs (F : Frm A m0 σ0 w0 N fr σ a w m pb) (parts : Array (Nat × Operand)) :
    (parts.map fun (x : Nat × Operand) => (x.1, a.eval x.2)).toList.length = (parts.toList.map fun p => (p.1, opv fr p.2)).length ∧ ∀ (i : Nat) p u, (parts.toList.map fun p => (p.1, opv fr p.2))[i]? = some p → (parts.map fun (x : Nat × Operand) => (x.1, a.eval x.2)).toList[i]? = some u →
      u.1 = p.1 ∧ (okv p.2 = true → VR (pA A pb) m σ w p.2 u.2) := by
  refine ⟨by simp, fun i p u h1 h2 => ?_⟩
  rw [List.getElem?_map] at h1
  rw [Array.toList_map, List.getElem?_map] at h2
  obtain ⟨x, hx, rfl⟩ := Option.map_eq_some_iff.1 h1
  rw [hx] at h2
  cases h2
  exact ⟨rfl, fun hok => F.opnd x.2 (okv_isVal hok)⟩

theorem q_build (tok : TabOK C) (F : Frm A m0 σ0 w0 N fr σ a w m pb) {t : TypeId} {parts : Array (Nat × Operand)} (ho : o.op = .build t parts) (h : vbuild C fr t parts.toList K) : QRes C (pA A pb) m σ pb w a.eval o K := by
  obtain ⟨hkn, h⟩ := h
  obtain ⟨d, hd, _, htd⟩ := (tok.ty t hkn).und
  obtain ⟨z, hz, hzv, _, _⟩ := zeroC_VRs (tok.ty t hkn)
  have hpr := parts_VRs F parts
  unfold TDOK at htd
  cases hdd : (C.T t).d <;> rw [hdd] at h htd <;> simp only at h htd <;> try exact h.elim
  case struct fs =>
    obtain ⟨fields, rfl, hfl, hf⟩ := htd
    obtain ⟨hall, h⟩ := h
    simp only [List.all_eq_true] at hall
    have hm : (fields.mapM fun f => do pure (f.offset, ← sizeOf f.type) : Sem _).run C.P w = .ok (fields.map fun f => (f.offset, (C.T f.type).size)) w := by
      rw [Array.mapM_eq_mapM_toList]
      rw [Sem.run_map, mapM_run (g := fun f => (f.offset, (C.T f.type).size)) fields.toList fun f hfm => ?_]
      · rw [Result.andThen_ok]
        congr 1
        apply Array.ext'
        simp
      · obtain ⟨i, hi, rfl⟩ := List.getElem_of_mem hfm
        have hi' : i < fs.length := by rw [← hfl]; simpa using hi
        obtain ⟨f', k1, k2, k3⟩ := hf i fs[i].1 fs[i].2 (by simp [List.getElem?_eq_getElem hi'])
        have : fields.toList[i] = f' := by
          have : fields.toList[i]? = some f' := by simpa using k1
          rw [List.getElem?_eq_getElem hi] at this
          exact Option.some.inj this
        have hkn' := hall _ (List.getElem_mem hi')
        rw [← k3, ← this] at hkn'
        have hs := (tok.ty _ hkn').sizeOf w
        simp only [Sem.run_bind, hs, Result.andThen_ok, Sem.run_pure]
    obtain ⟨vcs, cells, k1, k2, k3⟩ := fill_sound (C := C) (rp := fun i => (fields.map fun f => (f.offset, (C.T f.type).size))[i]?) (fun i off t' hp => by
      obtain ⟨f, q1, q2, q3⟩ := hf i off t' hp
      simp [q1, q2, q3]) _ _ _ _ hpr.1 hpr.2 (hzv _ _ _ _) h
    refine .same _ (.agg cells) k1 k3.agg ?_
    have k2' : Instr.fill (fun x => (fields.map fun f => (f.offset, (C.T f.type).size))[x]?) z.cells (parts.map fun (i, x) => (i, a.eval x)).toList = some cells := k2
    simp only [execOp, ho, Instr.build, Sem.run_bind, hz, Result.andThen_ok, run_underlying hd, hm, k2', Sem.run_pure]
  case array n e =>
    subst htd
    obtain ⟨hke, h⟩ := h
    have hsz := (tok.ty e hke).sizeOf w
    obtain ⟨vcs, cells, k1, k2, k3⟩ := fill_sound (C := C) (rp := fun i => some (i * (C.T e).size, (C.T e).size)) (fun i off t' hp => by cases hp; rfl) _ _ _ _ hpr.1 hpr.2 (hzv _ _ _ _) h
    refine .same _ (.agg cells) k1 k3.agg ?_
    have k2' : Instr.fill (fun i => some (i * (C.T e).size, (C.T e).size)) z.cells (parts.map fun (i, x) => (i, a.eval x)).toList = some cells := k2
    simp only [execOp, ho, Instr.build, Sem.run_bind, hz, Result.andThen_ok, run_underlying hd, hsz, k2', Sem.run_pure]

end quiet
end Go.VL

/- Operations that change nothing that there is, one by one, fifth part: literals of slices, cuts of slices, look-ups, conversions, least and greatest. Conditions: the table of types tells the program's own rows (TabOK). -/
namespace Go.VL

theorem setVals_get : ∀ (vs us : List Value) (off j : Nat), (setVals us off vs)[j]? = if off ≤ j ∧ j < off + vs.length ∧ j < us.length then vs[j - off]? else us[j]?
  | [], us, off, j => by
    simp only [setVals, List.length_nil, Nat.add_zero]
    rw [if_neg (by omega)]
  | v :: vs, us, off, j => by
    rw [setVals, setVals_get vs (us.set off v) (off + 1) j]
    simp only [List.length_set, List.length_cons, List.getElem?_set]
    by_cases h1 : off + 1 ≤ j ∧ j < off + 1 + vs.length ∧ j < us.length
    · rw [if_pos h1, if_pos (by omega)]
      rw [show j - off = (j - (off + 1)) + 1 by omega, List.getElem?_cons_succ]
    · rw [if_neg h1]
      by_cases h2 : off = j
      · subst h2
        by_cases h3 : off < us.length
        · rw [if_pos rfl, if_pos h3, if_pos (by omega)]; simp
        · rw [if_pos rfl, if_neg h3, if_neg (by omega)]
          rw [List.getElem?_eq_none (by omega)]
      · rw [if_neg h2, if_neg (by omega)]

theorem fill_row (sz : Nat) : ∀ (us : List (Nat × Value)) (k : Nat) (cells : Array Value), (∀ (i : Nat) u, us[i]? = some u → u.1 = k + i ∧ u.2.cells.size = sz) → (k + us.length) * sz ≤ cells.size →
    ∃ cells', Instr.fill (fun i => some (i * sz, sz)) cells us = some cells' ∧ cells'.size = cells.size ∧ (∀ j, j < k * sz → cells'[j]? = cells[j]?) ∧ ∀ (i : Nat) u, us[i]? = some u → ∀ r, r < sz → cells'[(k + i) * sz + r]? = u.2.cells[r]?
  | [], k, cells, _, _ => ⟨cells, rfl, rfl, fun _ _ => rfl, fun i u h => by simp at h⟩
  | (i0, u0) :: us, k, cells, hu, hl => by
    obtain ⟨e1, e2⟩ := hu 0 (i0, u0) rfl
    simp only [Nat.add_zero] at e1 e2
    subst e1
    have hl' : (i0 + (us.length + 1)) * sz ≤ cells.size := by simpa using hl
    have hk : i0 * sz + sz ≤ cells.size := by
      have : (i0 + 1) * sz ≤ (i0 + (us.length + 1)) * sz := Nat.mul_le_mul_right _ (by omega)
      rw [Nat.add_mul, Nat.one_mul] at this
      omega
    let c1 : Array Value := u0.cells.zipIdx.foldl (fun cs (x : Value × Nat) => cs.setIfInBounds (i0 * sz + x.2) x.1) cells
    have hc1 : c1.toList = setVals cells.toList (i0 * sz) u0.cells.toList := fill_one _ _ _
    have hs1 : c1.size = cells.size := by rw [← Array.length_toList, hc1, setVals_length, Array.length_toList]
    obtain ⟨cells', k1, k2, k3, k4⟩ := fill_row sz us (i0 + 1) c1 (fun i u h => by
      have := hu (i + 1) u (by simpa using h)
      exact ⟨by omega, this.2⟩) (by rw [hs1, show i0 + 1 + us.length = i0 + (us.length + 1) by omega]; exact hl')
    have hget : ∀ j : Nat, c1[j]? = if i0 * sz ≤ j ∧ j < i0 * sz + sz then u0.cells[j - i0 * sz]? else cells[j]? := by
      intro j
      rw [← Array.getElem?_toList, hc1, setVals_get]
      have hlen : u0.cells.toList.length = sz := by rw [Array.length_toList, e2]
      rw [hlen]
      by_cases h : i0 * sz ≤ j ∧ j < i0 * sz + sz
      · rw [if_pos ⟨h.1, h.2, by rw [Array.length_toList]; omega⟩, if_pos h, Array.getElem?_toList]
      · rw [if_neg (fun h' => h ⟨h'.1, h'.2.1⟩), if_neg h, Array.getElem?_toList]
    refine ⟨cells', ?_, by rw [k2, hs1], fun j hj => ?_, fun i u h r hr => ?_⟩
    · simp only [Instr.fill]
      rw [if_neg]
      · exact k1
      · simp only [Bool.or_eq_true, decide_eq_true_eq, bne_iff_ne, ne_eq, not_or, Decidable.not_not]
        exact ⟨e2, by omega⟩
    · rw [k3 j (by rw [Nat.add_mul]; omega), hget, if_neg (by omega)]
    · cases i with
      | zero =>
        simp only [List.getElem?_cons_zero, Option.some.injEq] at h
        subst h
        rw [Nat.add_zero, k3 _ (by rw [Nat.add_mul]; omega), hget, if_pos (by omega)]
        congr 1
        omega
      | succ i =>
        have := k4 i u (by simpa using h) r hr
        rwa [show i0 + 1 + i = i0 + (i + 1) by omega] at this

theorem inOrder_spec : ∀ (parts : List (Nat × Operand)) (k : Nat), inOrder k parts = true → ∀ (i : Nat) p, parts[i]? = some p → p.1 = k + i
  | [], _, _, i, p, h => by simp at h
  | q :: r, k, ho, i, p, h => by
    simp only [inOrder, Bool.and_eq_true] at ho
    cases i with
    | zero => simp at h; subst h; exact Nat.eq_of_beq_eq_true ho.1
    | succ i =>
      have := inOrder_spec r (k + 1) ho.2 i p (by simpa using h)
      omega

section quiet
variable {C : Cfg} {A : Nat → Prop} {m0 : Mp} {σ0 : St} {w0 : World} {N : Nat} {fr : Fr} {σ : St} {a : Act} {w : World} {m : Mp} {pb : Nat → Option Nat} {K : V → Prop} {o : Oper}

/-- A row that is built lies in a block of its own. -/
theorem build_core (tok : TabOK C) (F : Frm A m0 σ0 w0 N fr σ a w m pb) {t : TypeId} {n : Nat} {parts : Array (Nat × Operand)} (ho : o.op = .buildSlice t n parts) (h : vbuildSlice C fr t n parts.toList K) :
    ∃ (e : TypeId) (cells : Array Value) (w' : World), w' = { w with heap := w.heap.push (.cells cells e (0, 0)) } ∧ cells.size = n * (C.T e).size ∧ (parts.toList.map fun p => opv fr p.2).length = n ∧ K (.sl false true (C.T e).size (parts.toList.map fun p => opv fr p.2)) ∧
      VI w' (Bad (pA A pb) m) (.sl false true (C.T e).size (parts.toList.map fun p => opv fr p.2)) (.slice (some ⟨w.heap.size, 0, none⟩) n n) ∧ (execOp a.eval o).run C.P w = .ok (.value (.slice (some ⟨w.heap.size, 0, none⟩) n n)) w' := by
  obtain ⟨hkn, h⟩ := h
  obtain ⟨d, hd, _, htd⟩ := (tok.ty t hkn).und
  unfold TDOK at htd
  cases hdd : (C.T t).d <;> rw [hdd] at h htd <;> simp only at h htd <;> try exact h.elim
  case slice e =>
    subst htd
    obtain ⟨hke, hn, hbig, hord, hall, hk⟩ := h
    have hsz := (tok.ty e hke).sizeOf w
    obtain ⟨z, hz, _, _, hzs⟩ := zeroC_VRs (tok.ty e hke)
    simp only [List.all_eq_true, List.mem_map, forall_exists_index, and_imp, forall_apply_eq_imp_iff₂, Bool.and_eq_true] at hall
    have hpr := parts_VRs F parts
    let us := (parts.map fun (x : Nat × Operand) => (x.1, a.eval x.2)).toList
    have hus : ∀ (i : Nat) u, us[i]? = some u → ∃ p, parts.toList[i]? = some p ∧ u = (p.1, a.eval p.2) := by
      intro i u hu
      simp only [us, Array.toList_map, List.getElem?_map] at hu
      obtain ⟨p, hp, rfl⟩ := Option.map_eq_some_iff.1 hu
      exact ⟨p, hp, rfl⟩
    have hel : ∀ (i : Nat) p, parts.toList[i]? = some p → okv (opv fr p.2) = true ∧ immV (opv fr p.2) = true ∧ (opv fr p.2).cells.length = (C.T e).size := by
      intro i p hp
      have := hall p (List.mem_of_getElem? hp)
      exact ⟨this.1.1, this.1.2, Nat.eq_of_beq_eq_true this.2⟩
    have hlen : us.length = parts.toList.length := by simp [us]
    let c0 : Array Value := (Array.range (n * (C.T e).size)).map ((if n * (C.T e).size = 0 then #[] else z.cells)[· % (if n * (C.T e).size = 0 then #[] else z.cells).size]!)
    obtain ⟨cells, k1, k2, _, k4⟩ := fill_row (C.T e).size us 0 c0 (fun i u hu => by
      obtain ⟨p, hp, rfl⟩ := hus i u hu
      have hi := hel i p hp
      have := (okv_cells hi.1 (F.opnd p.2 (okv_isVal hi.1))).1.1
      exact ⟨inOrder_spec _ 0 hord i p hp, by rw [← Array.length_toList, this, hi.2.2]⟩) (by rw [Nat.zero_add, hlen, ← hn]; simp [c0])
    simp only [Nat.zero_add] at k4
    let w' : World := { w with heap := w.heap.push (.cells cells e (0, 0)) }
    have g : Grow w w' := Grow.push w _
    have hcs : cells.size = n * (C.T e).size := by rw [k2]; simp [c0]
    have hlp : (parts.toList.map fun p => opv fr p.2).length = n := by simp [hn]
    have hnew : w'.heap[w.heap.size]? = some (.cells cells e (0, 0)) := heap_push_new w _
    have hres : VI w' (Bad (pA A pb) m) (.sl false true (C.T e).size (parts.toList.map fun p => opv fr p.2)) (.slice (some ⟨w.heap.size, 0, none⟩) n n) := by
      have := VI.sl (w := w') (B := Bad (pA A pb) m) true (C.T e).size (parts.toList.map fun p => opv fr p.2) ⟨w.heap.size, 0, none⟩ n (fun j => cells.getD j undef) (fun _ hb => by
          rcases hb with hb | ⟨i, c, hi⟩
          · exact Nat.lt_irrefl _ (F.rel.alt _ hb)
          · exact Nat.lt_irrefl _ (F.rel.lt _ _ _ hi).1) (fun _ => by simp [w']) (by omega) (fun _ => hlp.symm) (fun x hx => by
          obtain ⟨p, hp, rfl⟩ := List.mem_map.1 hx
          obtain ⟨i, hi, rfl⟩ := List.getElem_of_mem hp
          exact (hel i _ (List.getElem?_eq_getElem hi)).2.2) (fun j hj => by
          rw [hlp] at hj
          have : j < cells.size := by rw [hcs]; exact hj
          refine cells_at hnew 0 j _ ?_
          simp [this]) (fun j hj => by
          rw [hlp] at hj
          have hpos : 0 < (C.T e).size := by
            rcases Nat.eq_zero_or_pos (C.T e).size with h0 | h0
            · rw [h0, Nat.mul_zero] at hj; omega
            · exact h0
          have hi : j / (C.T e).size < parts.toList.length := by rw [← hn]; exact Nat.div_lt_of_lt_mul (by rw [Nat.mul_comm]; exact hj)
          have hp := List.getElem?_eq_getElem hi
          have hi' := hel _ _ hp
          have hu : us[j / (C.T e).size]? = some (parts.toList[j / (C.T e).size].1, a.eval parts.toList[j / (C.T e).size].2) := by simp only [us, Array.toList_map, List.getElem?_map, hp]; rfl
          have hrs := Nat.mod_lt j hpos
          have h4 := k4 _ _ hu _ hrs
          have hc := okv_cells hi'.1 (F.opnd _ (okv_isVal hi'.1))
          have hrl : j % (C.T e).size < (a.eval parts.toList[j / (C.T e).size].2).cells.size := by rw [← Array.length_toList, hc.1.1, hi'.2.2]; exact hrs
          rw [show j / (C.T e).size * (C.T e).size + j % (C.T e).size = j by rw [Nat.mul_comm]; exact Nat.div_add_mod _ _, Array.getElem?_eq_getElem hrl] at h4
          have : cells.getD j undef = (a.eval parts.toList[j / (C.T e).size].2).cells[j % (C.T e).size] := by simp [Array.getD_eq_getD_getElem?, h4]
          show (cells.getD j undef).oneCell' = true
          rw [this]
          exact hc.2 _ (by simp)) (fun i x hx r v hv => by
          rw [List.getElem?_map] at hx
          obtain ⟨p, hp, rfl⟩ := Option.map_eq_some_iff.1 hx
          have hi := hel i p hp
          have hvr := F.opnd p.2 (okv_isVal hi.1)
          have hrs : r < (C.T e).size := by rw [← hi.2.2]; exact (List.getElem?_eq_some_iff.1 hv).1
          have hu : us[i]? = some (p.1, a.eval p.2) := by simp only [us, Array.toList_map, List.getElem?_map, hp]; rfl
          have h4 := k4 i _ hu r hrs
          have hc := (okv_cells hi.1 hvr).1
          have hrl : r < (a.eval p.2).cells.size := by rw [← Array.length_toList, hc.1, hi.2.2]; exact hrs
          rw [Array.getElem?_eq_getElem hrl] at h4
          have hcell : cells.getD (i * (C.T e).size + r) undef = (a.eval p.2).cells[r] := by simp [Array.getD_eq_getD_getElem?, h4]
          show VI w' _ v (cells.getD _ undef)
          rw [hcell]
          have hc' : (a.eval p.2).cells.toList[r]? = some (a.eval p.2).cells[r] := by simp [hrl]
          exact (okv_VIcells hi.1 hvr (immV_VI hi.2.1 hvr) r v _ hv hc').mov (g.mov (A := pA A pb)))
      rwa [hlp] at this
    refine ⟨e, cells, w', rfl, hcs, hlp, hk, hres, ?_⟩
    have k1' : Instr.fill (fun i => some (i * (C.T e).size, (C.T e).size)) c0 (parts.map fun (i, x) => (i, a.eval x)).toList = some cells := k1
    have hb : ¬ n * (C.T e).size > 2 ^ 24 := by omega
    by_cases h0 : n * (C.T e).size = 0
    · have hc0 : c0 = (Array.range (n * (C.T e).size)).map ((#[] : Array Value)[· % (#[] : Array Value).size]!) := by simp only [c0, if_pos h0]
      rw [hc0] at k1'
      simp only [execOp, ho, Instr.buildSlice, Sem.run_bind, run_underlying hd, Result.andThen_ok, hsz, if_neg hb, if_pos h0, Sem.run_pure, k1', newRow, run_newObj, Sem.run_ite]
      rfl
    · have hc0 : c0 = (Array.range (n * (C.T e).size)).map (z.cells[· % z.cells.size]!) := by simp only [c0, if_neg h0]
      rw [hc0] at k1'
      simp only [execOp, ho, Instr.buildSlice, Sem.run_bind, run_underlying hd, Result.andThen_ok, hsz, if_neg hb, if_neg h0, Sem.run_pure, hz, k1', newRow, run_newObj, Sem.run_ite]
      rfl

theorem q_buildSlice (tok : TabOK C) (F : Frm A m0 σ0 w0 N fr σ a w m pb) {t : TypeId} {n : Nat} {parts : Array (Nat × Operand)} (ho : o.op = .buildSlice t n parts) (h : vbuildSlice C fr t n parts.toList K) : QRes C (pA A pb) m σ pb w a.eval o K := by
  obtain ⟨e, cells, w', rfl, _, _, hk, hres, hx⟩ := build_core tok F ho h
  exact ⟨_, _, _, hk, ResR.of (.imm _ _ hres), Grow.push w _, hx⟩

end quiet
end Go.VL

/- Operations that change nothing that there is, one by one, last part: cuts of slices, look-ups, conversions, least and greatest; and all of them together. Conditions: the table of types tells the program's own rows (TabOK). -/
namespace Go.VL

section quiet
variable {C : Cfg} {A : Nat → Prop} {m0 : Mp} {σ0 : St} {w0 : World} {N : Nat} {fr : Fr} {σ : St} {a : Act} {w : World} {m : Mp} {pb : Nat → Option Nat} {K : V → Prop} {o : Oper}

theorem bnd_spec (F : Frm A m0 σ0 w0 N fr σ a w m pb) {d : Nat} {x : Option Operand} {l : Int} (h : bnd fr d x = some l) : (x = none ∧ l = d) ∨ ∃ y k, x = some y ∧ a.eval y = .int k l := by
  cases x with
  | none => simp [bnd] at h; exact .inl ⟨rfl, h.symm⟩
  | some y =>
    simp only [bnd] at h
    generalize hY : opv fr y = Y at h
    cases Y <;> simp only [reduceCtorEq, Option.some.injEq] at h
    case int k n =>
      subst h
      exact .inr ⟨y, k, rfl, (hY ▸ F.opnd y (by rw [hY]; rfl) : VR _ m σ w (.int k n) _).int_inv⟩

/-- The bounds of a cut, as the machine reckons them. -/
theorem sliceBounds_run (F : Frm A m0 σ0 w0 N fr σ a w m pb) {b : Bool} {len cap : Nat} {lo hi mx : Option Operand} {l h : Int} (hlo : bnd fr 0 lo = some l) (hhi : bnd fr len hi = some h) (h0 : 0 ≤ l) (h1 : l ≤ h) (hc : h ≤ cap)
    {mm : Nat} (hm : (mx = none ∧ mm = cap) ∨ ∃ x, mx = some x ∧ bnd fr 0 (some x) = some h ∧ hi.isSome = true ∧ mm = h.toNat) (P : Program) :
    (Instr.sliceBounds b len cap (lo.map a.eval) (hi.map a.eval) (mx.map a.eval)).run P w = .ok (l.toNat, h.toNat, mm) w := by
  have sb : ∀ (k : IntKind) (i : Int) (y : Nat) (code : BoundsCode), 0 ≤ i → i ≤ y → (Instr.sliceBound (.int k i) y code).run P w = .ok i.toNat w := fun k i y code hi0 hi1 => by
    simp [Instr.sliceBound, asIntOf, hi0, hi1]
  rcases hm with ⟨rfl, rfl⟩ | ⟨x, rfl, hx, his, rfl⟩
  · rcases bnd_spec F hhi with ⟨rfl, rfl⟩ | ⟨yh, kh, rfl, eh⟩ <;> rcases bnd_spec F hlo with ⟨rfl, rfl⟩ | ⟨yl, kl, rfl, el⟩
    · simp [Instr.sliceBounds]
    · simp [Instr.sliceBounds, el, sb kl l len _ h0 (by omega)]
    · simp [Instr.sliceBounds, eh, sb kh h mm _ (by omega) hc]
    · simp [Instr.sliceBounds, el, eh, sb kh h mm _ (by omega) hc, sb kl l h.toNat _ h0 (by omega)]
  · rcases bnd_spec F hhi with ⟨rfl, _⟩ | ⟨yh, kh, rfl, eh⟩
    · cases his
    · rcases bnd_spec F hx with ⟨hn, _⟩ | ⟨ym, km, hy, em⟩
      · cases hn
      · cases hy
        rcases bnd_spec F hlo with ⟨rfl, rfl⟩ | ⟨yl, kl, rfl, el⟩
        · simp [Instr.sliceBounds, eh, em, sb km h cap _ (by omega) hc, sb kh h h.toNat _ (by omega) (by omega)]
        · simp [Instr.sliceBounds, el, eh, em, sb km h cap _ (by omega) hc, sb kh h h.toNat _ (by omega) (by omega), sb kl l h.toNat _ h0 (by omega)]

/-- The same, with a bound of the room that is told. -/
theorem sliceBounds_run3 (F : Frm A m0 σ0 w0 N fr σ a w m pb) {b : Bool} {len cap : Nat} {lo hi : Option Operand} {mx : Operand} {l h mv : Int} (hlo : bnd fr 0 lo = some l) (hhi : bnd fr len hi = some h) (hmv : bnd fr 0 (some mx) = some mv) (his : hi.isSome = true) (h0 : 0 ≤ l) (h1 : l ≤ h) (h2 : h ≤ mv) (hc : mv ≤ cap) (P : Program) :
    (Instr.sliceBounds b len cap (lo.map a.eval) (hi.map a.eval) (some (a.eval mx))).run P w = .ok (l.toNat, h.toNat, mv.toNat) w := by
  have sb : ∀ (k : IntKind) (i : Int) (y : Nat) (code : BoundsCode), 0 ≤ i → i ≤ y → (Instr.sliceBound (.int k i) y code).run P w = .ok i.toNat w := fun k i y code hi0 hi1 => by
    simp [Instr.sliceBound, asIntOf, hi0, hi1]
  rcases bnd_spec F hhi with ⟨rfl, _⟩ | ⟨yh, kh, rfl, eh⟩
  · cases his
  · rcases bnd_spec F hmv with ⟨hn, _⟩ | ⟨ym, km, hy, em⟩
    · cases hn
    · cases hy
      rcases bnd_spec F hlo with ⟨rfl, rfl⟩ | ⟨yl, kl, rfl, el⟩
      · simp [Instr.sliceBounds, eh, em, sb km mv cap _ (by omega) hc, sb kh h mv.toNat _ (by omega) (by omega)]
      · simp [Instr.sliceBounds, el, eh, em, sb km mv cap _ (by omega) hc, sb kh h mv.toNat _ (by omega) (by omega), sb kl l h.toNat _ h0 (by omega)]

theorem q_slice (tok : TabOK C) (F : Frm A m0 σ0 w0 N fr σ a w m pb) {t : TypeId} {x : Operand} {lo hi mx : Option Operand} (ho : o.op = .slice t x lo hi mx) (h : vslice C fr σ t x lo hi mx K) : QRes C (pA A pb) m σ pb w a.eval o K := by
  unfold vslice at h
  generalize hX : opv fr x = X at h
  cases X <;> (try simp only at h) <;> try exact h.elim
  case str s =>
    cases hdd : (C.T t).d <;> rw [hdd] at h <;> (try simp only at h) <;> try exact h.elim
    case str =>
      cases hl : bnd fr 0 lo with
      | none => rw [hl] at h; exact h.elim
      | some l =>
        cases hh : bnd fr s.size hi with
        | none => rw [hl, hh] at h; exact h.elim
        | some hv =>
          rw [hl, hh] at h
          cases mx with
          | some _ => exact h.elim
          | none =>
            obtain ⟨hkn, ⟨h0, h1, h2⟩, hk⟩ := h
            obtain ⟨d, hd, _, htd⟩ := (tok.ty t hkn).und
            unfold TDOK at htd
            rw [hdd] at htd
            simp only at htd
            subst htd
            have ex := (hX ▸ F.opnd x (by rw [hX]; rfl) : VR _ m σ w (.str s) _).str_inv
            have hb := sliceBounds_run F (b := false) hl hh h0 h1 h2 (mx := none) (.inl ⟨rfl, rfl⟩) C.P
            simp only [Option.map_none] at hb
            exact .same _ (.string (s.extract l.toNat hv.toNat)) hk (.imm _ _ (.str _)) (by simp [execOp, ho, Instr.sliceAt, Instr.slice, run_underlying hd, ex, hb])
  case sl nl clip sz es =>
    cases hdd : (C.T t).d <;> rw [hdd] at h <;> (try simp only at h) <;> try exact h.elim
    case slice e =>
      cases hl : bnd fr 0 lo with
      | none => rw [hl] at h; exact h.elim
      | some l =>
        cases hh : bnd fr es.length hi with
        | none => rw [hl, hh] at h; exact h.elim
        | some hv =>
          rw [hl, hh] at h
          obtain ⟨hkn, hke, rfl, ⟨h0, h1, h2⟩, hk⟩ := h
          obtain ⟨d, hd, _, htd⟩ := (tok.ty t hkn).und
          unfold TDOK at htd
          rw [hdd] at htd
          simp only at htd
          subst htd
          have hsz := (tok.ty e hke).sizeOf w
          -- which bound, and what is told of the capacity
          obtain ⟨clip', mm, hk, hmm, hclip'⟩ : ∃ (clip' : Bool) (mmf : Nat → Nat), K (.sl nl clip' (C.T e).size ((es.take hv.toNat).drop l.toNat)) ∧
              (∀ cap, (mx = none ∧ mmf cap = cap) ∨ ∃ y, mx = some y ∧ bnd fr 0 (some y) = some hv ∧ hi.isSome = true ∧ mmf cap = hv.toNat) ∧ (∀ cap, (clip = true → cap = es.length) → clip' = true → mmf cap = hv.toNat) := by
            cases mx with
            | none =>
              refine ⟨_, fun c => c, hk, fun cap => .inl ⟨rfl, rfl⟩, fun cap hc hcl => ?_⟩
              simp only [Bool.and_eq_true, beq_iff_eq] at hcl
              have h9 := hc hcl.1
              show cap = hv.toNat
              omega
            | some y => exact ⟨_, fun _ => hv.toNat, hk.2.2, fun cap => .inr ⟨y, rfl, hk.1, hk.2.1, rfl⟩, fun _ _ _ => rfl⟩
          rcases (hX ▸ F.opnd x (by rw [hX]; rfl) : VR _ m σ w (.sl nl clip _ es) _).sl_inv with ⟨rfl, rfl, e1⟩ | ⟨rfl, ad, cap, cell, e1, hB, hblk, hcap, hclip, hes, hcell, hone, hvv⟩
          · have hl0 : l = 0 := by simp at h2; omega
            have hh0 : hv = 0 := by simp at h2; omega
            subst hl0 hh0
            have hb := sliceBounds_run F (b := true) (len := 0) (cap := 0) hl (by simpa using hh) h0 h1 (by omega) (hmm 0) C.P
            have hm0 : mm 0 = 0 := by rcases hmm 0 with ⟨_, h⟩ | ⟨_, _, _, _, h⟩ <;> simpa using h
            rw [hm0] at hb
            refine .same _ (.slice none 0 0) hk (.imm _ _ (by simpa using VI.sl0 clip' (C.T e).size)) ?_
            simp [execOp, ho, Instr.sliceAt, Instr.slice, run_underlying hd, e1, hb, hsz]
          · have hcm : hv.toNat ≤ mm cap ∧ mm cap ≤ cap := by
              rcases hmm cap with ⟨_, h⟩ | ⟨_, _, _, _, h⟩ <;> rw [h] <;> omega
            have hb := sliceBounds_run F (b := true) (len := es.length) (cap := cap) hl hh h0 h1 (by omega) (hmm cap) C.P
            have hlen : ((es.take hv.toNat).drop l.toNat).length = hv.toNat - l.toNat := by simp; omega
            have hsub : ∀ (i : Nat) x, ((es.take hv.toNat).drop l.toNat)[i]? = some x → es[l.toNat + i]? = some x ∧ l.toNat + i < hv.toNat := by
              intro i x hx
              rw [List.getElem?_drop, List.getElem?_take] at hx
              split at hx
              · exact ⟨hx, by assumption⟩
              · cases hx
            have hle : ∀ j, j < (hv.toNat - l.toNat) * (C.T e).size → l.toNat * (C.T e).size + j < es.length * (C.T e).size := by
              intro j hj
              have : hv.toNat * (C.T e).size ≤ es.length * (C.T e).size := Nat.mul_le_mul_right _ (by omega)
              have h3 : (hv.toNat - l.toNat) * (C.T e).size = hv.toNat * (C.T e).size - l.toNat * (C.T e).size := Nat.sub_mul _ _ _
              omega
            have hres := VI.sl (w := w) (B := Bad (pA A pb) m) clip' (C.T e).size ((es.take hv.toNat).drop l.toNat) (if mm cap = l.toNat then ad else ad.add (l.toNat * (C.T e).size)) (mm cap - l.toNat) (fun j => cell (l.toNat * (C.T e).size + j))
              (fun h3 => by
                rw [hlen] at h3
                have := hle 0 h3
                split <;> (try rw [add_block]) <;> exact hB (by omega)) (fun h3 => by
                rw [hlen] at h3
                have := hle 0 h3
                split <;> (try rw [add_block]) <;> exact hblk (by omega)) (by rw [hlen]; omega) (fun hc => by rw [hlen, hclip' cap hclip hc])
              (fun x hx => by
                obtain ⟨i, hi, rfl⟩ := List.getElem_of_mem hx
                exact hes _ (List.mem_of_getElem? (hsub i _ (List.getElem?_eq_getElem hi)).1)) (fun j hj => by
                rw [hlen] at hj
                have h3 := hle j hj
                have : mm cap ≠ l.toNat := by
                  intro hc
                  have : hv.toNat - l.toNat = 0 := by omega
                  rw [this] at hj; omega
                rw [if_neg this, add_add]
                exact hcell _ h3) (fun j hj => by
                rw [hlen] at hj
                exact hone _ (hle j hj)) (fun i x hx r v hr => by
                have h3 := hvv (l.toNat + i) x (hsub i x hx).1 r v hr
                rwa [Nat.add_mul, Nat.add_assoc] at h3)
            rw [hlen] at hres
            refine .same _ _ hk (.imm _ _ hres) ?_
            simp only [execOp, ho, Instr.sliceAt, Instr.slice, Sem.run_bind, run_underlying hd, Result.andThen_ok, e1, hb, hsz, Sem.run_pure]
            split <;> rfl
  case rsl id g lo0 hi0 =>
    cases hdd : (C.T t).d <;> rw [hdd] at h <;> (try simp only at h) <;> try exact h.elim
    case slice e =>
      cases hl : bnd fr 0 lo with
      | none => rw [hl] at h; exact h.elim
      | some l =>
        cases hh : bnd fr (hi0 - lo0) hi with
        | none => rw [hl, hh] at h; exact h.elim
        | some hv =>
          rw [hl, hh] at h
          cases hσ : σ[id]? with
          | none => rw [hσ] at h; exact h.elim
          | some ob =>
            rw [hσ] at h
            cases ob <;> (try simp only at h) <;> try exact h.elim
            case arr nl g0 sz es =>
              obtain ⟨hkn, hke, rfl, rfl, ⟨h0, h1, h2⟩, hk⟩ := h
              obtain ⟨d, hd, _, htd⟩ := (tok.ty t hkn).und
              unfold TDOK at htd
              rw [hdd] at htd
              simp only at htd
              subst htd
              have hsz := (tok.ty e hke).sizeOf w
              obtain ⟨bm, hbm, q2, q3, q4⟩ := (hX ▸ F.opnd x (by rw [hX]; rfl) : VR _ m σ w (.rsl id g lo0 hi0) _).rsl_inv hσ rfl
              have hob := F.rel.objs id _ _ hσ hbm
              have h2' : lo0 + hv.toNat ≤ es.length := by omega
              have z0 : es = [] → l.toNat = 0 ∧ hv.toNat = 0 ∧ lo0 = 0 ∧ hi0 = 0 := by
                rintro rfl
                simp at q3 h2'
                omega
              have hemp : bm = none → es = [] := by
                intro hb0
                rcases hob with ⟨hes, _⟩ | ⟨_, b, _, _, _, hb1, _⟩
                · exact hes
                · rw [hb0] at hb1; cases hb1
              have hlen : ∃ len cap ad, a.eval x = .slice ad len cap ∧ len = hi0 - lo0 ∧ len ≤ cap ∧ hv.toNat ≤ cap := by
                rcases q4 with ⟨hb0, hn, e1⟩ | ⟨hb0, hn, ad, e1⟩ | ⟨hn, b, cap, ad, hb0, e1, q5, q6, q7⟩
                · obtain ⟨a1, a2, a3, a4⟩ := z0 (hemp hb0)
                  exact ⟨0, 0, none, e1, by omega, Nat.le_refl _, by omega⟩
                · obtain ⟨a1, a2, a3, a4⟩ := z0 (hemp hb0)
                  exact ⟨0, 0, some ad, e1, by omega, Nat.le_refl _, by omega⟩
                · exact ⟨_, cap - lo0, some ad, e1, rfl, by omega, by omega⟩
              cases mx with
              | some mo =>
                obtain ⟨his, ⟨mv, hmv, h3, h4⟩, hk⟩ := hk
                obtain ⟨len, cap, ad, e1, hl1, hl2, hl3⟩ := hlen
                have hb := sliceBounds_run3 F (b := true) (len := len) (cap := cap) (mx := mo) hl (by rw [hl1]; exact hh) hmv his h0 h1 h3 (by omega) C.P
                refine .same .undef _ hk (.imm _ _ (.undef _)) (by
                  simp only [execOp, ho, Instr.sliceAt, Instr.slice, Sem.run_bind, run_underlying hd, Result.andThen_ok, e1, Option.map_some, hb, hsz, Sem.run_pure]
                  rfl)
              | none =>
                have mk : ∀ (len cap : Nat) (ad : Option Addr) (u : Value), a.eval x = .slice ad len cap → len = hi0 - lo0 → hv.toNat ≤ cap → u = .slice (if cap = l.toNat then ad else ad.map (·.add (l.toNat * (C.T e).size))) (hv.toNat - l.toNat) (cap - l.toNat) →
                    HdrOk bm nl (C.T e).size es.length (lo0 + l.toNat) (lo0 + hv.toNat) u → QRes C (pA A pb) m σ pb w a.eval o K := by
                  intro len cap ad u e1 hlen hlc hu hho
                  have hb := sliceBounds_run F (b := true) (len := len) (cap := cap) hl (by rw [hlen]; exact hh) h0 h1 (by omega) (mx := none) (.inl ⟨rfl, rfl⟩) C.P
                  simp only [Option.map_none] at hb
                  refine .same _ u hk (.rsl _ _ _ _ _ (by rw [hu]; rfl) (.inr ⟨nl, g, _, es, bm, hσ, hbm, Nat.le_refl _, fun _ => hho⟩)) ?_
                  simp only [execOp, ho, Instr.sliceAt, Instr.slice, Sem.run_bind, run_underlying hd, Result.andThen_ok, e1, hb, hsz, Sem.run_pure, hu, Option.map_none]
                rcases q4 with ⟨hb0, hn, e1⟩ | ⟨hb0, hn, ad, e1⟩ | ⟨hn, b, cap, ad, hb0, e1, q5, q6, q7⟩
                · have hes := hemp hb0
                  obtain ⟨a1, a2, a3, a4⟩ := z0 hes
                  exact mk 0 0 none (.slice none 0 0) e1 (by omega) (by omega) (by simp [a1, a2]) ⟨by omega, by simp [hes]; omega, .inl ⟨hb0, hn, rfl⟩⟩
                · have hes := hemp hb0
                  obtain ⟨a1, a2, a3, a4⟩ := z0 hes
                  exact mk 0 0 (some ad) (.slice (some ad) 0 0) e1 (by omega) (by omega) (by simp [a1, a2]) ⟨by omega, by simp [hes]; omega, .inr (.inl ⟨hb0, hn, ad, rfl⟩)⟩
                · refine mk _ (cap - lo0) (some ad) _ e1 rfl (by omega) rfl ⟨by omega, by omega, .inr (.inr ⟨hn, b, cap, if cap - lo0 = l.toNat then ad else ad.add (l.toNat * (C.T e).size), hb0, ?_, q5, ?_, ?_⟩)⟩
                  · rw [show lo0 + hv.toNat - (lo0 + l.toNat) = hv.toNat - l.toNat by omega, show cap - (lo0 + l.toNat) = cap - lo0 - l.toNat by omega]
                    split <;> rfl
                  · split <;> (try rw [add_block]) <;> exact q6
                  · intro hlt
                    rw [if_neg (by omega), q7 (by omega), addr_add, Nat.add_mul]
  case ip cs =>
    cases hdd : (C.T t).d <;> rw [hdd] at h <;> (try simp only at h) <;> try exact h.elim
    case array n e =>
      cases lo with
      | some _ => exact h.elim
      | none =>
        cases hi with
        | some _ => exact h.elim
        | none =>
          cases mx with
          | some _ => exact h.elim
          | none =>
            obtain ⟨hkn, hke, hag, hse, hle, hcl, hk⟩ := h
            obtain ⟨d, hd, _, htd⟩ := (tok.ty t hkn).und
            unfold TDOK at htd
            rw [hdd] at htd
            simp only at htd
            subst htd
            have hsz := (tok.ty e hke).sizeOf w
            obtain ⟨ad, cell, e1, hB, hblk, hcell, hv⟩ := (hX ▸ F.opnd x (by rw [hX]; rfl) : VR _ m σ w (.ip cs) _).ip_inv
            simp only [List.all_eq_true] at hcl
            have hlen : (cs.take n).length = n := by simp; omega
            have hone : ∀ v ∈ cs, v.cells = [v] := fun v hvm => by
              have := hcl v hvm
              cases v <;> first | rfl | (simp [cell1] at this)
            have hres := VI.sl (w := w) (B := Bad (pA A pb) m) true 1 (cs.take n) ad n cell (fun h0 => hB (by rw [hlen] at h0; omega)) (fun h0 => hblk (by rw [hlen] at h0; omega)) (by omega) (fun _ => hlen.symm)
              (fun v hvm => by rw [hone v (List.mem_of_mem_take hvm)]; rfl) (fun j hj => hcell j (by rw [hlen] at hj; omega)) (fun j hj => by
                have hj' : j < cs.length := by rw [hlen] at hj; omega
                exact cell1_value (A := pA A pb) (m := m) (σ := σ) (hcl _ (List.getElem_mem hj')) (.imm _ _ (hv j _ (List.getElem?_eq_getElem hj')))) (fun i v hvi r c hc => by
                rw [List.getElem?_take] at hvi
                split at hvi
                · rw [hone v (List.mem_of_getElem? hvi)] at hc
                  cases r with
                  | succ r => simp at hc
                  | zero =>
                    simp at hc
                    subst hc
                    have := hv i v hvi
                    rwa [Nat.mul_one, Nat.add_zero]
                · cases hvi)
            rw [hlen] at hres
            have ha : ad.add 0 = ad := by simp [Addr.add]
            refine .same _ _ hk (.imm _ _ hres) ?_
            simp [execOp, ho, Instr.sliceAt, Instr.sureAddr, Instr.sliceBounds, run_underlying hd, e1, hsz, hse, ha]

theorem keq_sound {A : Nat → Prop} {m : Mp} {σ : St} {w : World} {kd : TypeDesc} {td : TD} {k k' : V} {u u' : Value} (hd : match td with | .int => ∃ i, kd = .int i | .str => kd = .string | .bool => kd = .bool | _ => False) (hk : keyD td k = true) (hs : sameKind k k' = true)
    (hr : VR A m σ w k u) (hr' : VR A m σ w k' u') : Instr.sameNow kd u u' = some (keq k k') := by
  cases td <;> cases k <;> simp only [keyD, Bool.false_eq_true] at hk
  case int.int i n =>
    obtain ⟨i0, rfl⟩ := hd
    cases k' <;> simp only [sameKind, Bool.false_eq_true] at hs
    case int i' n' =>
      rw [hr.int_inv, hr'.int_inv]
      have : i = i' := by simpa using hs
      simp [Instr.sameNow, keq, this]
  case str.str s =>
    simp only at hd
    subst hd
    cases k' <;> simp only [sameKind, Bool.false_eq_true] at hs
    case str s' => rw [hr.str_inv, hr'.str_inv]; rfl
  case bool.bool b =>
    simp only at hd
    subst hd
    cases k' <;> simp only [sameKind, Bool.false_eq_true] at hs
    case bool b' => rw [hr.bool_inv, hr'.bool_inv]; rfl

/-- A key that is sought. -/
theorem findNow_sound {A : Nat → Prop} {m : Mp} {σ : St} {w : World} {kd : TypeDesc} {td : TD} {k : V} {u : Value} (hd : match td with | .int => ∃ i, kd = .int i | .str => kd = .string | .bool => kd = .bool | _ => False) (hk : keyD td k = true) (hr : VR A m σ w k u) :
    ∀ (l : List (V × V)) (ents : List MapEntry) (i : Nat), ents.length = l.length → (∀ (j : Nat) kv e, l[j]? = some kv → ents[j]? = some e → VR A m σ w kv.1 e.key ∧ VR A m σ w kv.2 e.val) → (l.all fun kv => sameKind k kv.1) = true →
      (vget l k = none ∧ Instr.findNow kd u ents i = some none) ∨ ∃ v j val, vget l k = some v ∧ Instr.findNow kd u ents i = some (some (i + j, val)) ∧ VR A m σ w v val ∧ (∃ kv, l[j]? = some kv ∧ keq k kv.1 = true) ∧ ∀ j', j' < j → ∀ kv, l[j']? = some kv → keq k kv.1 = false
  | [], ents, i, hl, _, _ => by
    obtain rfl : ents = [] := List.eq_nil_of_length_eq_zero (by simpa using hl)
    exact .inl ⟨rfl, rfl⟩
  | kv :: l, [], i, hl, _, _ => by simp at hl
  | kv :: l, e :: ents, i, hl, hall, hs => by
    simp only [List.all_cons, Bool.and_eq_true] at hs
    obtain ⟨h1, h2⟩ := hall 0 kv e rfl rfl
    have hq := keq_sound hd hk hs.1 hr h1
    cases hb : keq k kv.1 with
    | true =>
      refine .inr ⟨kv.2, 0, e.val, by simp [vget, hb], ?_, h2, ⟨kv, rfl, hb⟩, fun j' hj' => by omega⟩
      rw [hb] at hq
      simp [Instr.findNow, hq]
    | false =>
      rw [hb] at hq
      have hv : vget (kv :: l) k = vget l k := by simp [vget, hb]
      have hf : Instr.findNow kd u (e :: ents) i = Instr.findNow kd u ents (i + 1) := by simp [Instr.findNow, hq]
      rw [hv, hf]
      rcases findNow_sound hd hk hr l ents (i + 1) (by simpa using hl) (fun j kv e h1 h2 => hall (j + 1) kv e (by simpa using h1) (by simpa using h2)) hs.2 with h | ⟨v, j, val, q1, q2, q3, ⟨kv', q4, q5⟩, q6⟩
      · exact .inl h
      · refine .inr ⟨v, j + 1, val, q1, by rw [q2]; congr 3; omega, q3, ⟨kv', by simpa using q4, q5⟩, fun j' hj' kv'' hkv => ?_⟩
        cases j' with
        | zero => simp at hkv; subst hkv; exact hb
        | succ j' => exact q6 j' (by omega) kv'' (by simpa using hkv)

theorem keyTD {P : Program} {kt : TypeId} {ty : Ty} {k : V} (ht : TyOK P kt ty) (hk : keyD ty.d k = true) :
    ∃ kd, P.underlying kt = some kd ∧ (match ty.d with | .int => ∃ i, kd = .int i | .str => kd = .string | .bool => kd = .bool | _ => False) ∧ (∀ (e : Bool) (n : Nat) (u : Value) (w : World), (Instr.checkKey e (n + 1) kt u).run P w = .ok () w) := by
  obtain ⟨d, hd, _, htd⟩ := ht.und
  unfold TDOK at htd
  generalize ty.d = td at hk htd
  refine ⟨d, hd, ?_⟩
  cases td <;> cases k <;> simp only [keyD, Bool.false_eq_true] at hk
  case int.int =>
    obtain ⟨k, rfl, _⟩ := htd
    exact ⟨⟨k, rfl⟩, fun e n u w => by simp [Instr.checkKey, run_underlying hd]⟩
  case str.str =>
    simp only at htd
    subst htd
    exact ⟨rfl, fun e n u w => by simp [Instr.checkKey, run_underlying hd]⟩
  case bool.bool =>
    simp only at htd
    subst htd
    exact ⟨rfl, fun e n u w => by simp [Instr.checkKey, run_underlying hd]⟩

theorem keyD_isVal {td : TD} {k : V} (h : keyD td k = true) : k.isVal = true := by
  cases k <;> first | rfl | (cases td <;> simp [keyD] at h)
theorem keyB_isVal {ty : Ty} {k : V} (h : keyB ty k = true) : k.isVal = true := by
  unfold keyB at h
  simp only [Bool.or_eq_true] at h
  rcases h with h | h
  · exact keyD_isVal h
  · cases k <;> first | rfl | (simp [keyA] at h)
theorem kinds_mk : ∀ {ks : List PK} {xs ys : List V}, mk ks xs = true → kindsEq xs ys = true → mk ks ys = true
  | [], [], [], _, _ => rfl
  | [], [], _ :: _, _, h => by simp [kindsEq] at h
  | [], _ :: _, _, h, _ => by simp [mk] at h
  | k :: ks, [], _, h, _ => by cases k <;> simp [mk] at h
  | k :: ks, x :: xs, [], h, h' => by cases x <;> simp [kindsEq] at h'
  | k :: ks, x :: xs, y :: ys, h, h' => by
    cases x <;> cases y <;> simp only [kindsEq, Bool.and_eq_true, Bool.false_eq_true] at h'
    · cases k <;> simp only [mk, Bool.and_eq_true, Bool.false_eq_true] at h ⊢
      refine ⟨?_, kinds_mk h.2 h'.2⟩
      have e1 := h.1
      have e2 := h'.1
      simp only [beq_iff_eq] at e1 e2 ⊢
      rw [← e2, e1]
    · cases k <;> simp only [mk, Bool.and_eq_true, Bool.false_eq_true] at h ⊢
      exact kinds_mk h h'
    · cases k <;> simp only [mk, Bool.and_eq_true, Bool.false_eq_true] at h ⊢
      exact kinds_mk h h'
theorem agg_plain {A : Nat → Prop} {m : Mp} {σ : St} {w : World} {ks : List PK} {xs : List V} {u : Value} (hm : mk ks xs = true) (hr : VR A m σ w (.agg xs) u) : ∃ us : Array Value, u = .agg us ∧ us.toList = xs.map plainVal := by
  obtain ⟨us, rfl, h⟩ := hr.agg_inv
  exact ⟨us, rfl, plain_values (mk_plain hm) h⟩
/-- A key that is sought, by asking. -/
theorem findAsking_sound {P : Program} {A : Nat → Prop} {m : Mp} {σ : St} {w : World} {kt : TypeId} {ks : List PK} (heq : EqOK P kt ks) {xs : List V} {us : Array Value} (hm : mk ks xs = true) (hu : us.toList = xs.map plainVal) :
    ∀ (l : List (V × V)) (ents : List MapEntry) (i : Nat), ents.length = l.length → (∀ (j : Nat) kv e, l[j]? = some kv → ents[j]? = some e → VR A m σ w kv.1 e.key ∧ VR A m σ w kv.2 e.val) → (l.all fun kv => sameKind (.agg xs) kv.1) = true →
      (vget l (.agg xs) = none ∧ (Instr.findAsking kt (.agg us) ents i).run P w = .ok none w) ∨ ∃ v j val, vget l (.agg xs) = some v ∧ (Instr.findAsking kt (.agg us) ents i).run P w = .ok (some (i + j, val)) w ∧ VR A m σ w v val ∧ (∃ kv, l[j]? = some kv ∧ keq (.agg xs) kv.1 = true) ∧ ∀ j', j' < j → ∀ kv, l[j']? = some kv → keq (.agg xs) kv.1 = false
  | [], ents, i, hl, _, _ => by
    obtain rfl : ents = [] := List.eq_nil_of_length_eq_zero (by simpa using hl)
    exact .inl ⟨rfl, rfl⟩
  | kv :: l, [], i, hl, _, _ => by simp at hl
  | kv :: l, e :: ents, i, hl, hall, hs => by
    simp only [List.all_cons, Bool.and_eq_true] at hs
    obtain ⟨h1, h2⟩ := hall 0 kv e rfl rfl
    obtain ⟨k1, v1⟩ := kv
    simp only at hs h1 h2
    cases k1 <;> simp only [sameKind, Bool.false_eq_true, false_and] at hs
    rename_i ys
    have hm' := kinds_mk hm hs.1
    obtain ⟨ts, he, ht⟩ := agg_plain hm' h1
    have hrun := (heq .eql (.const .nilIface) (.const .nilIface) us ts xs ys w hm hm' hu ht).2
    cases hb : cellsEq xs ys with
    | true =>
      refine .inr ⟨v1, 0, e.val, by simp [vget, keq, hb], ?_, h2, ⟨_, rfl, hb⟩, fun j' hj' => by omega⟩
      rw [hb] at hrun
      simp [Instr.findAsking, Sem.run_bind, he, hrun]
    | false =>
      rw [hb] at hrun
      have hv : vget ((.agg ys, v1) :: l) (.agg xs) = vget l (.agg xs) := by simp [vget, keq, hb]
      have hf : (Instr.findAsking kt (.agg us) (e :: ents) i).run P w = (Instr.findAsking kt (.agg us) ents (i + 1)).run P w := by simp [Instr.findAsking, Sem.run_bind, he, hrun]
      rw [hv, hf]
      rcases findAsking_sound heq hm hu l ents (i + 1) (by simpa using hl) (fun j kv e h1 h2 => hall (j + 1) kv e (by simpa using h1) (by simpa using h2)) hs.2 with h | ⟨v, j, val, q1, q2, q3, ⟨kv', q4, q5⟩, q6⟩
      · exact .inl h
      · refine .inr ⟨v, j + 1, val, q1, by rw [q2]; congr 3; omega, q3, ⟨kv', by simpa using q4, q5⟩, fun j' hj' kv'' hkv => ?_⟩
        cases j' with
        | zero => simp at hkv; subst hkv; exact hb
        | succ j' => exact q6 j' (by omega) kv'' (by simpa using hkv)
/-- A key that is sought, and may be one. -/
theorem findKey_sound {C : Cfg} (tok : TabOK C) {A : Nat → Prop} {m : Mp} {σ : St} {w : World} {kt : TypeId} {k : V} {u : Value} (hkk : (C.T kt).known = true) (hkd : keyB (C.T kt) k = true) (hr : VR A m σ w k u) (l : List (V × V)) (ents : List MapEntry) (hl : ents.length = l.length)
    (hall : ∀ (j : Nat) kv e, l[j]? = some kv → ents[j]? = some e → VR A m σ w kv.1 e.key ∧ VR A m σ w kv.2 e.val) (hs : (l.all fun kv => sameKind k kv.1) = true) :
    (vget l k = none ∧ (Instr.findKey kt u ents).run C.P w = .ok none w) ∨ ∃ v j val, vget l k = some v ∧ (Instr.findKey kt u ents).run C.P w = .ok (some (j, val)) w ∧ VR A m σ w v val ∧ (∃ kv, l[j]? = some kv ∧ keq k kv.1 = true) ∧ ∀ j', j' < j → ∀ kv, l[j']? = some kv → keq k kv.1 = false := by
  unfold keyB at hkd
  simp only [Bool.or_eq_true] at hkd
  rcases hkd with hkd | hkd
  · obtain ⟨kd, hund, hmat, _⟩ := keyTD (tok.ty kt hkk) hkd
    rcases findNow_sound hmat hkd hr l ents 0 hl hall hs with ⟨q1, q2⟩ | ⟨v, j, val, q1, q2, q3⟩
    · exact .inl ⟨q1, by simp [Instr.findKey, Sem.run_bind, run_underlying hund, q2]⟩
    · rw [Nat.zero_add] at q2
      exact .inr ⟨v, j, val, q1, by simp [Instr.findKey, Sem.run_bind, run_underlying hund, q2], q3⟩
  · cases k <;> simp only [keyA, Bool.false_eq_true] at hkd
    rename_i xs
    cases hd : (C.T kt).d <;> rw [hd] at hkd <;> simp only [Bool.false_eq_true, Bool.and_eq_true] at hkd
    rename_i n e
    obtain ⟨d, hund, _, htd⟩ := (tok.ty kt hkk).und
    unfold TDOK at htd
    rw [hd] at htd
    simp only at htd
    subst htd
    obtain ⟨us, rfl, hu⟩ := agg_plain hkd.2 hr
    cases ents with
    | nil =>
      obtain rfl : l = [] := List.eq_nil_of_length_eq_zero (by simpa using hl.symm)
      exact .inl ⟨rfl, by simp [Instr.findKey, Sem.run_bind, run_underlying hund, Instr.findNow]⟩
    | cons e0 ents =>
      have hf : (Instr.findKey kt (.agg us) (e0 :: ents)).run C.P w = (Instr.findAsking kt (.agg us) (e0 :: ents) 0).run C.P w := by simp [Instr.findKey, Sem.run_bind, run_underlying hund, Instr.findNow, Instr.sameNow]
      rw [hf]
      rcases findAsking_sound (tok.eq kt hkk hkd.1) hkd.2 hu l (e0 :: ents) 0 hl hall hs with h | ⟨v, j, val, q1, q2, q3⟩
      · exact .inl h
      · rw [Nat.zero_add] at q2
        exact .inr ⟨v, j, val, q1, q2, q3⟩
theorem checkKey_sound {C : Cfg} (tok : TabOK C) {A : Nat → Prop} {m : Mp} {σ : St} {w : World} {kt : TypeId} {k : V} {u : Value} (hkk : (C.T kt).known = true) (hkd : keyB (C.T kt) k = true) (hr : VR A m σ w k u) (b : Bool) : (Instr.checkKey b 10000 kt u).run C.P w = .ok () w := by
  unfold keyB at hkd
  simp only [Bool.or_eq_true] at hkd
  rcases hkd with hkd | hkd
  · obtain ⟨kd, hund, hmat, hck⟩ := keyTD (tok.ty kt hkk) hkd
    exact hck b 9999 u w
  · cases k <;> simp only [keyA, Bool.false_eq_true] at hkd
    rename_i xs
    cases hd : (C.T kt).d <;> rw [hd] at hkd <;> simp only [Bool.false_eq_true, Bool.and_eq_true] at hkd
    obtain ⟨us, rfl, hu⟩ := agg_plain hkd.2 hr
    exact tok.ck kt _ _ hkk hkd.1 hd b us xs w hkd.2 hu

theorem VR.tup2 {A : Nat → Prop} {m : Mp} {σ : St} {w : World} {v v' : V} {u u' : Value} (h : VR A m σ w v u) (h' : VR A m σ w v' u') : VR A m σ w (.tup [v, v']) (.tuple #[u, u']) := by
  refine .tup _ _ rfl fun i a b h1 h2 => ?_
  match i with
  | 0 => simp at h1 h2; rw [← h1, ← h2]; exact h
  | 1 => simp at h1 h2; rw [← h1, ← h2]; exact h'
  | n + 2 => simp at h1

theorem q_lookup (tok : TabOK C) (F : Frm A m0 σ0 w0 N fr σ a w m pb) {t : TypeId} {x k : Operand} {ok : Bool} (ho : o.op = .lookup t x k ok) (h : vlookup C σ t (opv fr x) (opv fr k) ok K) : QRes C (pA A pb) m σ pb w a.eval o K := by
  obtain ⟨hkn, h⟩ := h
  obtain ⟨d, hd, _, htd⟩ := (tok.ty t hkn).und
  unfold TDOK at htd
  cases hdd : (C.T t).d <;> rw [hdd] at h htd <;> simp only at h htd <;> try exact h.elim
  case map kt e =>
    subst htd
    obtain ⟨hkk, hke, hkd, h⟩ := h
    obtain ⟨z, hz, _, hzr, _⟩ := zeroC_VRs (tok.ty e hke)
    have hkr := F.opnd k (keyB_isVal hkd)
    have hck := fun b => checkKey_sound tok hkk hkd hkr b
    have hnil : (Instr.findKey kt (a.eval k) []).run C.P w = .ok none w := by
      rcases findKey_sound tok hkk hkd hkr [] [] rfl (fun j kv e h1 _ => by simp at h1) rfl with ⟨_, q⟩ | ⟨v, j, val, q1, _⟩
      · exact q
      · simp [vget] at q1
    have miss : ∀ es : Array MapEntry, (a.eval x = .map none ∧ es = #[] ∨ ∃ b c, a.eval x = .map (some b) ∧ w.heap[b]? = some (.map es c)) → (Instr.findKey kt (a.eval k) es.toList).run C.P w = .ok none w →
        K (bif ok then .tup [zeroOf (C.T e), .bool false] else zeroOf (C.T e)) → QRes C (pA A pb) m σ pb w a.eval o K := by
      intro es hes hf hk
      have hr : (Instr.lookup t (a.eval x) (a.eval k) ok).run C.P w = .ok (if ok then .tuple #[z, .bool false] else z) w := by
        rcases hes with ⟨e1, rfl⟩ | ⟨b, c, e1, e2⟩
        · have hc := hck true
          simp only [Array.toList_empty] at hf
          simp only [Instr.lookup, Sem.run_bind, run_underlying hd, Result.andThen_ok, e1, Sem.run_pure, Array.isEmpty_empty, hc, hf, hz]
        · have hc := hck es.isEmpty
          have hg : (getObj b).run C.P w = .ok (.map es c) w := by simp [getObj, Sem.run, e2]
          simp only [Instr.lookup, Sem.run_bind, run_underlying hd, Result.andThen_ok, e1, hg, Sem.run_pure, hc, hf, hz]
      cases ok with
      | true => exact .same _ _ hk ((hzr _ _ _ _).tup2 (.imm _ _ (.bool _))) (by simp [execOp, ho, hr])
      | false => exact .same _ _ hk (hzr _ _ _ _) (by simp [execOp, ho, hr])
    generalize hX : opv fr x = X at h
    cases X <;> simp only at h <;> try exact h.elim
    case nilm => exact miss #[] (.inl ⟨(hX ▸ F.opnd x (by rw [hX]; rfl) : VR _ m σ w .nilm _).nilm_inv, rfl⟩) hnil h
    case mp id =>
      generalize hσ : σ[id]? = ob at h
      cases ob with
      | none => exact h.elim
      | some ob =>
        cases ob <;> simp only at h <;> try exact h.elim
        case map l =>
          obtain ⟨hall, h⟩ := h
          obtain ⟨b, c, hm, e1⟩ := (hX ▸ F.opnd x (by rw [hX]; rfl) : VR _ m σ w (.mp id) _).mp_inv hσ
          obtain ⟨b', c', ents, e2, hh, hs, hv⟩ := F.rel.objs id _ _ hσ hm
          cases e2
          rcases findKey_sound tok hkk hkd hkr l ents.toList (by simpa using hs) (fun j kv e h1 h2 => by have := hv j kv e h1 (by simpa using h2); exact ⟨this.1, this.2.1⟩) hall with ⟨q1, q2⟩ | ⟨v, j, val, q1, q2, q3, _, _⟩
          · rw [q1] at h
            exact miss ents (.inr ⟨b, _, e1, hh⟩) q2 h
          · rw [q1] at h
            have hc := hck ents.isEmpty
            have hg : (getObj b).run C.P w = .ok (.map ents ents.size) w := by simp [getObj, Sem.run, hh]
            have hr : (Instr.lookup t (a.eval x) (a.eval k) ok).run C.P w = .ok (if ok then .tuple #[val, .bool true] else val) w := by
              simp only [Instr.lookup, Sem.run_bind, run_underlying hd, Result.andThen_ok, e1, hg, Sem.run_pure, hc, q2]
            cases ok with
            | true => exact .same _ _ h (q3.tup2 (.imm _ _ (.bool _))) (by simp [execOp, ho, hr])
            | false => exact .same _ _ h q3 (by simp [execOp, ho, hr])
    case im l =>
      obtain ⟨hall, h⟩ := h
      obtain ⟨b, ents, e1, hh, hs, hv⟩ := (hX ▸ F.opnd x (by rw [hX]; rfl) : VR _ m σ w (.im l) _).im_inv
      rcases findKey_sound tok (A := pA A pb) (m := m) (σ := σ) (w := w) hkk hkd hkr l ents.toList (by simpa using hs) (fun j kv e h1 h2 => by have := hv j kv e h1 (by simpa using h2); exact ⟨.imm _ _ this.1, .imm _ _ this.2⟩) hall with ⟨q1, q2⟩ | ⟨v, j, val, q1, q2, q3, _, _⟩
      · rw [q1] at h
        exact miss ents (.inr ⟨b, _, e1, hh⟩) q2 h
      · rw [q1] at h
        have hc := hck ents.isEmpty
        have hg : (getObj b).run C.P w = .ok (.map ents ents.size) w := by simp [getObj, Sem.run, hh]
        have hr : (Instr.lookup t (a.eval x) (a.eval k) ok).run C.P w = .ok (if ok then .tuple #[val, .bool true] else val) w := by
          simp only [Instr.lookup, Sem.run_bind, run_underlying hd, Result.andThen_ok, e1, hg, Sem.run_pure, hc, q2]
        cases ok with
        | true => exact .same _ _ h (q3.tup2 (.imm _ _ (.bool _))) (by simp [execOp, ho, hr])
        | false => exact .same _ _ h q3 (by simp [execOp, ho, hr])

end quiet
end Go.VL

/- Operations that change nothing that there is, all of them together. Conditions: the table of types tells the program's own rows (TabOK). -/
namespace Go.VL

section quiet
variable {C : Cfg} {A : Nat → Prop} {m0 : Mp} {σ0 : St} {w0 : World} {N : Nat} {fr : Fr} {σ : St} {a : Act} {w : World} {m : Mp} {pb : Nat → Option Nat} {K : V → Prop} {o : Oper}

theorem q_conv (tok : TabOK C) (F : Frm A m0 σ0 w0 N fr σ a w m pb) {s d : TypeId} {x : Operand} (ho : o.op = .convert s d x) (h : vconv C σ s d (opv fr x) K) : QRes C (pA A pb) m σ pb w a.eval o K := by
  obtain ⟨hks, hkd, h⟩ := h
  obtain ⟨ds, hds, _, hts⟩ := (tok.ty s hks).und
  obtain ⟨dd, hdd, _, htd⟩ := (tok.ty d hkd).und
  unfold TDOK at htd hts
  generalize hX : opv fr x = X at h
  cases X <;> (try simp only at h) <;> try exact h.elim
  case int k n =>
    have ex := (hX ▸ F.opnd x (by rw [hX]; rfl) : VR _ m σ w (.int k n) _).int_inv
    cases hd : (C.T d).d <;> rw [hd] at h htd <;> (try simp only at h) <;> try exact h.elim
    case int =>
      obtain ⟨k', rfl, hz⟩ := htd
      rw [hz] at h
      exact .same _ _ h (.imm _ _ (.int _ _)) (by simp [execOp, ho, ex, convert, run_underlying hds, run_underlying hdd, Conv.intToInt])
  case str t =>
    have ex := (hX ▸ F.opnd x (by rw [hX]; rfl) : VR _ m σ w (.str t) _).str_inv
    cases hd : (C.T d).d <;> rw [hd] at h htd <;> (try simp only at h) <;> try exact h.elim
    case str =>
      simp only at htd
      subst htd
      exact .same _ _ h (.imm _ _ (.str _)) (by simp [execOp, ho, ex, convert, run_underlying hds, run_underlying hdd])
  case sl nl c sz es =>
    cases hd : (C.T s).d <;> rw [hd] at h hts <;> (try simp only at h) <;> try exact h.elim
    case slice e =>
      simp only at hts
      subst hts
      cases hd' : (C.T d).d <;> rw [hd'] at h htd <;> (try simp only at h) <;> try exact h.elim
      case str =>
        simp only at htd
        subst htd
        obtain ⟨hke, hu8, rfl, bs, rfl, hk⟩ := h
        obtain ⟨de, hde, _, hte⟩ := (tok.ty e hke).und
        unfold TDOK at hte
        have hu : C.P.underlying e = some (.int .u8) := by
          cases hd2 : (C.T e).d <;> rw [hd2] at hu8 hte <;> (try exact hu8.elim)
          obtain ⟨k, rfl, hz⟩ := hte
          rw [hz] at hu8
          cases k <;> first | exact hde | exact hu8.elim
        rcases (hX ▸ F.opnd x (by rw [hX]; rfl) : VR _ m σ w (.sl nl c 1 _) _).sl_inv with ⟨_, hnil, e1⟩ | ⟨_, ad, cap, cell, e1, hB, hblk, hcap, hclip, hes, hcell, _, hv⟩
        · have : bs = [] := by simpa using hnil
          subst this
          exact .same _ (.string ByteArray.empty) hk (.imm _ _ (.str _)) (by simp only [execOp, ho, e1, Sem.run_bind, run_convert_bytes_nil w s e hds hu 0 0 d hdd, Result.andThen_ok, Sem.run_pure])
        · have hc : ∀ i, i < bs.length → w.cell? (ad.add i) = some (.int .u8 ((bs.map fun b => (b.toNat : Int)).getD i 0)) := by
            intro i hi
            have h1 := hcell i (by simpa using hi)
            have h2 := hv i (.int .u8 bs[i].toNat) (by simp [hi]) 0 _ rfl
            rw [Nat.mul_one, Nat.add_zero] at h2
            rw [h1]
            have : cell i = .int .u8 bs[i].toNat := by
              generalize cell i = q at h2
              cases h2; rfl
            rw [this]
            simp [hi]
          have hstr : strOfNums (bs.map fun b => (b.toNat : Int)) = ⟨bs.toArray⟩ := by
            have : ∀ l : List UInt8, (l.map fun b => (b.toNat : Int)).map (fun n => UInt8.ofNat n.toNat) = l := by
              intro l
              induction l with
              | nil => rfl
              | cons b l ih => simp only [List.map_cons, ih]; simp
            rw [strOfNums, this]
          have hr : (convert s d (.slice (some ad) (bs.map fun b => V.int .u8 b.toNat).length cap)).run C.P w = .ok (.string ⟨bs.toArray⟩) w := by
            rw [List.length_map]
            by_cases h0 : bs.length = 0
            · have : bs = [] := List.eq_nil_of_length_eq_zero h0
              subst this
              rw [run_convert_bytes_string w s d e _ _ _ hds hu hdd]
              simp [Conv.bytesToString, loadCells, loadCellsFrom]
              rfl
            · have hsp : ad.spot = none := by
                have := hc 0 (by omega)
                have ha : ad.add 0 = ad := by simp [Addr.add]
                rw [ha] at this
                simp only [World.cell?] at this
                split at this
                · split at this
                  · cases this
                  · rename_i hsp; simpa using hsp
                · cases this
              obtain ⟨b, off, sp⟩ := ad
              simp only at hsp
              subst hsp
              rw [← hstr]
              exact run_convert_bytes_arg w s e hds hu b off bs.length cap _ (by simp) (fun i hi => by have := hc i hi; rwa [addr_add] at this) d hdd
          exact .same _ _ hk (.imm _ _ (.str _)) (by simp only [execOp, ho, e1, Sem.run_bind, hr, Result.andThen_ok, Sem.run_pure])

theorem ints_values : ∀ {vs : List V} {l : List (IntKind × Int)} {us : List Value}, intsOf vs = some l → VRs A m σ w vs us → us = l.map fun x => .int x.1 x.2
  | [], l, us, h, hv => by
    simp [intsOf] at h
    subst h
    exact List.eq_nil_of_length_eq_zero (by simpa using hv.1)
  | v :: vs, l, us, h, hv => by
    cases v <;> simp only [intsOf, reduceCtorEq] at h
    case int k n =>
      obtain ⟨l', h1, rfl⟩ := Option.map_eq_some_iff.1 h
      cases us with
      | nil => have := hv.1; simp at this
      | cons u us =>
        rw [List.map_cons, ← ints_values h1 ⟨by have := hv.1; simpa using this, fun i v' u' h1 h2 => hv.2 (i + 1) v' u' (by simpa using h1) (by simpa using h2)⟩, (hv.2 0 _ u rfl rfl).int_inv]

theorem intsOf_isVal : ∀ {vs : List V} {l : List (IntKind × Int)}, intsOf vs = some l → ∀ v ∈ vs, v.isVal = true
  | [], _, _, v, hv => by simp at hv
  | x :: vs, l, h, v, hv => by
    cases x <;> simp only [intsOf, reduceCtorEq] at h
    case int k n =>
      obtain ⟨l', h1, rfl⟩ := Option.map_eq_some_iff.1 h
      rcases List.mem_cons.1 hv with rfl | hv
      · rfl
      · exact intsOf_isVal h1 v hv

theorem opnds_VRs (F : Frm A m0 σ0 w0 N fr σ a w m pb) (xs : List Operand) (h : ∀ x ∈ xs, (opv fr x).isVal = true) : VRs (pA A pb) m σ w (xs.map (opv fr)) (xs.map a.eval) := by
  refine ⟨by simp, fun i v u h1 h2 => ?_⟩
  rw [List.getElem?_map] at h1 h2
  obtain ⟨x, hx, rfl⟩ := Option.map_eq_some_iff.1 h1
  rw [hx] at h2
  cases h2
  exact F.opnd x (h x (List.mem_of_getElem? hx))

theorem foldl_min (P : Program) (w : World) : ∀ (r : List (IntKind × Int)) (k : IntKind) (n : Int), ((r.map fun x => Value.int x.1 x.2).foldlM Builtin.min2 (.int k n)).run P w = .ok (.int k (r.foldl (fun m y => if y.2 < m then y.2 else m) n)) w
  | [], k, n => by simp
  | y :: r, k, n => by
    simp only [List.map_cons, List.foldlM_cons, Sem.run_bind, Builtin.min2, Sem.run_pure, Result.andThen_ok, List.foldl_cons]
    exact foldl_min P w r k _

theorem foldl_max (P : Program) (w : World) : ∀ (r : List (IntKind × Int)) (k : IntKind) (n : Int), ((r.map fun x => Value.int x.1 x.2).foldlM Builtin.max2 (.int k n)).run P w = .ok (.int k (r.foldl (fun m y => if y.2 > m then y.2 else m) n)) w
  | [], k, n => by simp
  | y :: r, k, n => by
    simp only [List.map_cons, List.foldlM_cons, Sem.run_bind, Builtin.max2, Sem.run_pure, Result.andThen_ok, List.foldl_cons]
    exact foldl_max P w r k _

/-- Every operation that changes nothing that there is. -/
theorem q_entry (F : Frm A m0 σ0 w0 N fr σ a w m pb) {x : Operand} (ho : o.op = .entry x) (h : ventry σ (opv fr x) K) : QRes C (pA A pb) m σ pb w a.eval o K := by
  unfold ventry at h
  generalize hX : opv fr x = X at h
  cases X <;> (try simp only at h) <;> try exact h.elim
  rename_i id off
  generalize hσ : σ[id]? = ob at h
  cases ob with
  | none => exact h.elim
  | some ob =>
    cases ob <;> (try simp only at h) <;> try exact h.elim
    rename_i mid n left cur
    generalize hσm : σ[mid]? = obm at h
    cases obm with
    | none => exact h.elim
    | some obm =>
      cases obm <;> (try simp only at h) <;> try exact h.elim
      rename_i l
      obtain ⟨rfl, hn, i, kv, rfl, hkv, hk⟩ := h
      obtain ⟨b, c, hm, e1⟩ := (hX ▸ F.opnd x (by rw [hX]; rfl) : VR _ m σ w (.ptr id 0) _).iter_inv hσ rfl
      obtain ⟨b', c', seen, e2, _, _, hcur, h3⟩ := F.rel.objs id _ _ hσ hm
      cases e2
      rcases h3 with h3 | ⟨l', mb, mc, k1, k2, k3⟩
      · rw [hσm] at h3; cases h3
      · rw [hσm] at k1
        cases k1
        obtain ⟨b2, c2, ents, e3, hh, hs, hv⟩ := F.rel.objs mid _ _ hσm k2
        cases e3
        have hi : i < l.length := (List.getElem?_eq_some_iff.1 hkv).1
        have hie : i < ents.size := by rw [hs]; exact hi
        have hen : ents[i]? = some ents[i] := Array.getElem?_eq_getElem hie
        obtain ⟨r1, r2, r3⟩ := hv i kv _ hkv hen
        have hf : ents.find? (·.born == i) = some ents[i] := by
          rw [Array.find?_eq_some_iff_getElem]
          refine ⟨by simp [r3], i, hie, rfl, fun j hj => ?_⟩
          have hjl : j < l.length := by omega
          obtain ⟨_, _, q3⟩ := hv j _ _ (List.getElem?_eq_getElem hjl) (Array.getElem?_eq_getElem (by omega))
          simp [q3]
          omega
        refine .same (.tup [kv.1, kv.2]) (.tuple #[ents[i].key, ents[i].val]) hk (r1.tup2 r2) ?_
        simp only [execOp, ho, e1, Instr.entry, getObj, Sem.run_bind, Sem.run, k3, hh, Result.andThen, hcur i rfl, hs, hn, bne_self_eq_false, Bool.false_eq_true, if_false, hf]
        rfl

theorem vq_sound (tok : TabOK C) (F : Frm A m0 σ0 w0 N fr σ a w m pb) (h : vq C fr σ o.op K) : QRes C (pA A pb) m σ pb w a.eval o K := by
  cases ho : o.op with
  | move x => rw [ho] at h; exact q_move F (.inl ho) h
  | assign x => rw [ho] at h; exact q_move F (.inr ho) h
  | pick c x y => exact q_pick F ho h
  | binOp op t x y yt => rw [ho] at h; exact q_bin tok F ho h
  | unOp op t x => rw [ho] at h; exact q_un F ho h
  | convert s d x => rw [ho] at h; exact q_conv tok F ho h
  | load t x => exact q_load tok F ho h
  | fieldAddr t x i => exact q_fieldAddr tok F ho h
  | field t x i => exact q_field tok F ho h
  | indexAddr t x i => exact q_indexAddr tok F ho h
  | index t x i => exact q_index tok F ho h
  | slice t x lo hi mx => rw [ho] at h; exact q_slice tok F ho h
  | build t parts => rw [ho] at h; exact q_build tok F ho h
  | buildSlice t n parts => rw [ho] at h; exact q_buildSlice tok F ho h
  | makeFunc f xs ys => exact q_makeFunc F ho h
  | extract t i => exact q_extract F ho h
  | lookup t x k ok => rw [ho] at h; exact q_lookup tok F ho h
  | nilCheck x => exact q_nilCheck F ho h
  | entry x => rw [ho] at h; exact q_entry F ho h
  | call c =>
    rw [ho] at h
    obtain ⟨callee, args, ats⟩ := c
    cases callee with
    | builtin b =>
      simp only [vq] at h
      have mm : ∀ (f : Value → Value → Sem Value) (g : Int → IntKind × Int → Int) (r : List (IntKind × Int)) (k : IntKind) (n : Int),
          (∀ (r : List (IntKind × Int)) (k : IntKind) (n : Int), ((r.map fun x => Value.int x.1 x.2).foldlM f (.int k n)).run C.P w = .ok (.int k (r.foldl g n)) w) →
          intsOf (args.toList.map (opv fr)) = some ((k, n) :: r) → K (.int k (r.foldl g n)) →
          (∀ cs u rest, (args.map a.eval).toList = u :: rest → (builtin b ats o.type cs (args.map a.eval)).run C.P w = ((rest.foldlM f u).run C.P w).andThen fun v w' => .ok (.value v) w') → QRes C (pA A pb) m σ pb w a.eval o K := by
        intro f g r k n hf hi hk hb
        have hvs := ints_values hi (opnds_VRs F args.toList fun x hx => intsOf_isVal hi _ (List.mem_map_of_mem hx))
        refine .same _ _ hk (.imm _ _ (.int _ _)) ?_
        obtain ⟨cs, hcs⟩ := resolve_builtin C.P a.eval b args ats o.type w
        simp only [execOp, ho]
        rw [hcs, hb cs _ _ (by rw [Array.toList_map, hvs]; rfl), hf]
        rfl
      cases b <;> (try simp only at h) <;> try exact h.elim
      case len =>
        cases hx : args.toList with
        | nil => rw [hx] at h; exact h.elim
        | cons x r =>
          cases r with
          | cons _ _ => rw [hx] at h; exact h.elim
          | nil =>
            cases ht : ats.toList with
            | nil => rw [hx, ht] at h; exact h.elim
            | cons t r =>
              cases r with
              | cons _ _ => rw [hx, ht] at h; exact h.elim
              | nil => rw [hx, ht] at h; exact q_len tok F ho hx ht h
      case cap =>
        cases hx : args.toList with
        | nil => rw [hx] at h; exact h.elim
        | cons x r =>
          cases r with
          | cons _ _ => rw [hx] at h; exact h.elim
          | nil =>
            cases ht : ats.toList with
            | nil => rw [hx, ht] at h; exact h.elim
            | cons t r =>
              cases r with
              | cons _ _ => rw [hx, ht] at h; exact h.elim
              | nil => rw [hx, ht] at h; exact q_cap tok F ho hx ht h
      case min =>
        cases hx : args.toList with
        | nil => rw [hx] at h; exact h.elim
        | cons x xs =>
          rw [hx] at h
          simp only at h
          generalize hi : intsOf ((x :: xs).map (opv fr)) = L at h
          cases L with
          | none => exact h.elim
          | some L =>
            cases L with
            | nil => exact h.elim
            | cons p r => exact mm Builtin.min2 _ r p.1 p.2 (foldl_min C.P w) (by rw [hx]; exact hi) h (fun cs u rest hl => by simp only [builtin, Builtin.min_, hl, Sem.run_bind, Sem.run_pure])
      case max =>
        cases hx : args.toList with
        | nil => rw [hx] at h; exact h.elim
        | cons x xs =>
          rw [hx] at h
          simp only at h
          generalize hi : intsOf ((x :: xs).map (opv fr)) = L at h
          cases L with
          | none => exact h.elim
          | some L =>
            cases L with
            | nil => exact h.elim
            | cons p r => exact mm Builtin.max2 _ r p.1 p.2 (foldl_max C.P w) (by rw [hx]; exact hi) h (fun cs u rest hl => by simp only [builtin, Builtin.max_, hl, Sem.run_bind, Sem.run_pure])
    | value f => simp only [vq] at h
    | invoke r n => simp only [vq] at h
  | _ => rw [ho] at h; simp only [vq] at h

end quiet
end Go.VL

/- Operations that write, or make, or call: what the machine does is what the value-level words tell; first part: variables, stores, boxes. Conditions: the table of types tells the program's own rows (TabOK). -/
namespace Go.VL
variable {ro : Option Nat}

theorem modify_eq (h : Array Obj) (b : Nat) (f : Obj → Obj) (o : Obj) (hb : h[b]? = some o) : h.modify b f = h.setIfInBounds b (f o) := by
  apply Array.ext_getElem?
  intro i
  rw [Array.getElem?_modify, Array.getElem?_setIfInBounds]
  by_cases e : b = i
  · subst e
    have hlt : b < h.size := (Array.getElem?_eq_some_iff.1 hb).1
    simp only [hb, hlt, if_true, Option.map_some]
  · simp [e]

theorem setCells_get : ∀ (vs us : List V) (off j : Nat), (setCells us off vs)[j]? = if off ≤ j ∧ j < off + vs.length ∧ j < us.length then vs[j - off]? else us[j]?
  | [], us, off, j => by
    simp only [setCells, List.length_nil, Nat.add_zero]
    rw [if_neg (by omega)]
  | v :: vs, us, off, j => by
    rw [setCells, setCells_get vs (us.set off v) (off + 1) j]
    simp only [List.length_set, List.length_cons, List.getElem?_set]
    by_cases h1 : off + 1 ≤ j ∧ j < off + 1 + vs.length ∧ j < us.length
    · rw [if_pos h1, if_pos (by omega)]
      rw [show j - off = (j - (off + 1)) + 1 by omega, List.getElem?_cons_succ]
    · rw [if_neg h1]
      by_cases h2 : off = j
      · subst h2
        by_cases h3 : off < us.length
        · rw [if_pos rfl, if_pos h3, if_pos (by omega)]; simp
        · rw [if_pos rfl, if_neg h3, if_neg (by omega)]
          rw [List.getElem?_eq_none (by omega)]
      · rw [if_neg h2, if_neg (by omega)]

theorem cell1_cells {v : V} (h : cell1 v = true) : v.cells = [v] := by
  cases v <;> first | rfl | (simp [cell1] at h)

theorem okv_cell1 {v : V} (h : okv v = true) : ∀ c ∈ v.cells, cell1 c = true := by
  cases v with
  | agg cs => simpa [okv, V.cells] using h
  | _ => intro c hc; simp only [V.cells, List.mem_singleton] at hc; rw [hc]; simpa only [okv] using h

theorem reEl_cells (old : V) (off : Nat) (vs : List V) (hv : ∀ c ∈ vs, cell1 c = true) (ho : off + vs.length ≤ old.cells.length) : (reEl old (setCells old.cells off vs)).cells = setCells old.cells off vs := by
  have one : (∀ cs, old ≠ .agg cs) → old.cells = [old] → (reEl old (setCells old.cells off vs)).cells = setCells old.cells off vs := by
    intro hna hc
    have hr : reEl old (setCells old.cells off vs) = (setCells old.cells off vs).headD .undef := by
      cases old <;> first | rfl | exact absurd rfl (hna _)
    rw [hr, hc]
    rw [hc] at ho
    cases vs with
    | nil => simp [setCells, hc]
    | cons v vs =>
      have h0 : vs = [] := List.eq_nil_of_length_eq_zero (by simp at ho; omega)
      have h1 : off = 0 := by simp at ho; omega
      subst h0 h1
      simp [setCells, cell1_cells (hv v (by simp))]
  cases old with
  | agg cs => rfl
  | _ => exact one (by intro cs e; cases e) rfl

theorem setCell_block (w : World) (g off : Nat) (cur : Array Value) (T : TypeId) (v : Value) (hg : w.heap[g]? = some (.cells cur T (0, 0))) :
    w.setCell ⟨g, off, none⟩ v = { w with heap := w.heap.setIfInBounds g (.cells (cur.setIfInBounds off v) T (0, 0)) } := by
  unfold World.setCell
  rw [modify_eq _ _ _ _ hg]
  simp

theorem storeCells_run (P : Program) (g off : Nat) (T : TypeId) : ∀ (vs : List Value) (i : Nat) (cur : Array Value) (w : World), w.heap[g]? = some (.cells cur T (0, 0)) → off + i + vs.length ≤ cur.size → (∀ v ∈ vs, v.oneCell' = true) →
    (storeCells ⟨g, off, none⟩ vs i).run P w = .ok () { w with heap := w.heap.setIfInBounds g (.cells (setVals cur.toList (off + i) vs).toArray T (0, 0)) }
  | [], i, cur, w, hg, _, _ => by
    have hlt : g < w.heap.size := (Array.getElem?_eq_some_iff.1 hg).1
    have : w.heap.setIfInBounds g (.cells cur T (0, 0)) = w.heap := by
      apply Array.ext_getElem?
      intro j
      rw [Array.getElem?_setIfInBounds]
      by_cases e : g = j
      · subst e; simp [hlt, ← hg]
      · simp [e]
    simp only [storeCells, setVals, Array.toArray_toList, this]
    rfl
  | v :: vs, i, cur, w, hg, hl, h1 => by
    have hi : off + i < cur.size := by simp at hl; omega
    have hcell : w.cell? ⟨g, off + i, none⟩ = some cur[off + i] := by simp [World.cell?, hg, hi]
    have hfro : w.frozen? ⟨g, off + i, none⟩ = false := by simp [World.frozen?, hg]
    have hlt : g < w.heap.size := (Array.getElem?_eq_some_iff.1 hg).1
    have hst : (store ((⟨g, off, none⟩ : Addr).add i) v).run P w = .ok () { w with heap := w.heap.setIfInBounds g (.cells (cur.setIfInBounds (off + i) v) T (0, 0)) } := by
      rw [addr_add, run_store P w _ v _ (h1 v (by simp)), hcell]
      simp only [hfro, Bool.false_eq_true, if_false]
      rw [setCell_block w g (off + i) cur T v hg]
    have ih := storeCells_run P g off T vs (i + 1) (cur.setIfInBounds (off + i) v) { w with heap := w.heap.setIfInBounds g (.cells (cur.setIfInBounds (off + i) v) T (0, 0)) } (by simp [hlt]) (by simp at hl ⊢; omega) (fun x hx => h1 x (by simp [hx]))
    simp only [storeCells, Sem.run_bind, hst, Result.andThen_ok, ih]
    congr 2
    apply Array.ext_getElem?
    intro j
    simp only [Array.getElem?_setIfInBounds, Array.size_setIfInBounds]
    by_cases e : g = j
    · subst e
      simp [hlt, setVals, Nat.add_assoc]
    · simp [e]

/-- Every function, and, in a round of a range over a function, its loop. -/
abbrev WF (ro : Option Nat) : Fence := { Fence.wide with round := ro }

theorem semAt_of {P : Program} {ρ : Operand → Value} {o : Oper} {w w' : World} {x : Next} (h : (execOp ρ o).run P w = .ok x w') (hx : ∀ d, x ≠ .defer d) : (Oper.semAt (WF ro).round ρ o).run P w = .ok x w' := by
  rw [Oper.semAt_eq, h]
  intro c hc
  simp only [execOp, hc, Sem.run_bind] at h
  cases hr : (resolve ρ c o.type).run P w with
  | ok d w1 => rw [hr] at h; simp at h; exact hx d h.1.symm
  | halt a b => rw [hr] at h; simp at h

section effects
variable {C : Cfg} {A : Nat → Prop} {m0 : Mp} {σ0 : St} {w0 : World} {N : Nat} {fr : Fr} {σ : St} {a : Act} {w : World} {m : Mp} {pb : Nat → Option Nat} {o : Oper} {K : Fr → St → Prop} {next : Act → World → Prop} {Q : Exit → Act → World → Prop}

/-- What is asked of what follows. -/
def Nxt (A : Nat → Prop) (m0 : Mp) (σ0 : St) (w0 : World) (N : Nat) (K : Fr → St → Prop) (next : Act → World → Prop) : Prop :=
  ∀ fr' σ' a' w', FRel A m0 σ0 w0 N fr' σ' a' w' → K fr' σ' → next a' w'

theorem wp_value {u : Value} {w' : World} (h : (execOp a.eval o).run C.P w = .ok (.value u) w') (hn : next (a.put o.dst u) w') : o.wpIn (WF ro) 0 C.P a w next Q := by
  refine ⟨fun _ _ => trivial, ?_⟩
  rw [semAt_of (ro := ro) h (by intro d; simp)]
  exact hn
theorem wp_skip' {w' : World} (h : (execOp a.eval o).run C.P w = .ok .skip w') (hn : next (a.put o.dst undef) w') : o.wpIn (WF ro) 0 C.P a w next Q := by
  refine ⟨fun _ _ => trivial, ?_⟩
  rw [semAt_of (ro := ro) h (by intro d; simp)]
  exact hn

theorem e_quiet (tok : TabOK C) (F : Frm A m0 σ0 w0 N fr σ a w m pb) (hd : ∀ d, o.dst = some d → d < N) (h : vq C fr σ o.op fun v => K (putd fr o v) σ) (hn : Nxt A m0 σ0 w0 N K next) : o.wpIn (WF ro) 0 C.P a w next Q := by
  obtain ⟨v, u, w', hk, hr, g, hrun⟩ := vq_sound tok F h
  exact wp_value hrun (hn _ _ _ _ ⟨m, pb, (F.grow g).putd hd hr⟩ hk)

theorem box_new (F : Frm A m0 σ0 w0 N fr σ a w m pb) {d : Nat} (hd : d < N) {cs : List V} {us : Array Value} {T : TypeId} (hv : VRs (pA A pb) m σ w cs us.toList) :
    FRel A m0 σ0 w0 N ((d, .ptr σ.length 0) :: fr) (σ ++ [.box cs]) (a.put (some d) (.pointer (some ⟨w.heap.size, 0, none⟩))) { w with heap := w.heap.push (.cells us T (0, 0)) } := by
  obtain ⟨R, E⟩ := F.rel.newObj (.box cs) 0 (.cells us T (0, 0)) fun w' hw' M O hnew => ⟨w.heap.size, 0, us, T, rfl, hnew, hv.mov M O F.rel.len⟩
  refine ⟨_, pb, (F.step E R).put hd (ResR.of (.ptr _ _ _ rfl (.inr ⟨cs, w.heap.size, 0, by simp, by rw [← F.rel.len]; simp, rfl⟩)))⟩

theorem e_alloc (tok : TabOK C) (F : Frm A m0 σ0 w0 N fr σ a w m pb) (hd : ∀ d, o.dst = some d → d < N) {t : TypeId} (ho : o.op = .alloc t) (h : ve C fr σ o K) (hn : Nxt A m0 σ0 w0 N K next) : o.wpIn (WF ro) 0 C.P a w next Q := by
  unfold ve at h
  rw [ho] at h
  obtain ⟨hkn, h⟩ := h
  obtain ⟨z, hz, hzv, _, _⟩ := zeroC_VRs (tok.ty t hkn)
  have hrun : (execOp a.eval o).run C.P w = .ok (.value (.pointer (some ⟨w.heap.size, 0, none⟩))) { w with heap := w.heap.push (.cells z.cells t (0, 0)) } := by
    simp [execOp, ho, Instr.alloc, hz, newVar, newRow]
  cases hdst : o.dst with
  | none => rw [hdst] at h; exact h.elim
  | some d =>
    rw [hdst] at h
    simp only at h
    refine wp_value hrun ?_
    rw [hdst]
    cases hm : memB C.esc d with
    | true =>
      rw [hm] at h
      exact hn _ _ _ _ (box_new F (hd d hdst) (hzv _ _ _ _)) h
    | false =>
      rw [hm] at h
      obtain ⟨pb', F'⟩ := F.newCell (T := t) (hd d hdst) h.1 (hzv _ _ _ _)
      exact hn _ _ _ _ ⟨m, pb', F'⟩ h.2

theorem e_box (F : Frm A m0 σ0 w0 N fr σ a w m pb) (hd : ∀ d, o.dst = some d → d < N) {t : TypeId} {x : Operand} (ho : o.op = .box t x) (h : ve C fr σ o K) (hn : Nxt A m0 σ0 w0 N K next) : o.wpIn (WF ro) 0 C.P a w next Q := by
  unfold ve at h
  rw [ho] at h
  obtain ⟨hok, h⟩ := h
  have hr := F.opnd x (okv_isVal hok)
  have hc := (okv_cells hok hr).1
  have hrun : (execOp a.eval o).run C.P w = .ok (.value (.pointer (some ⟨w.heap.size, 0, none⟩))) { w with heap := w.heap.push (.cells (a.eval x).cells t (0, 0)) } := by
    simp [execOp, ho, Instr.box, newVar, newRow]
  cases hdst : o.dst with
  | none => rw [hdst] at h; exact h.elim
  | some d =>
    rw [hdst] at h
    simp only at h
    refine wp_value hrun ?_
    rw [hdst]
    cases hm : memB C.esc d with
    | true =>
      rw [hm] at h
      exact hn _ _ _ _ (box_new F (hd d hdst) hc) h
    | false =>
      rw [hm] at h
      simp only [cond_false] at h
      cases hw : memB C.wrt d with
      | true =>
        rw [hw] at h
        obtain ⟨pb', F'⟩ := F.newCell (T := t) (hd d hdst) h.1 hc
        exact hn _ _ _ _ ⟨m, pb', F'⟩ h.2
      | false =>
        rw [hw] at h
        have g := Grow.push w (.cells (a.eval x).cells t (0, 0))
        have hi := okv_VIcells hok hr (immV_VI h.1 hr)
        refine hn _ _ _ _ ⟨m, pb, (F.grow g).put (hd d hdst) (ResR.of (.imm _ _ (.ip _ _ (fun j => (a.eval x).cells.getD j undef) (fun _ hb => ?_) (fun _ => by simp) (fun j hj => ?_) fun r v hrv => ?_)))⟩ h.2
        · rcases hb with hb | ⟨i, c, hi⟩
          · exact Nat.lt_irrefl _ (F.rel.alt _ hb)
          · exact Nat.lt_irrefl _ (F.rel.lt _ _ _ hi).1
        · have : j < (a.eval x).cells.size := by rw [← Array.length_toList, hc.1]; exact hj
          exact cells_at (heap_push_new w _) 0 j _ (by simp [this])
        · have hr' : r < (opv fr x).cells.length := (List.getElem?_eq_some_iff.1 hrv).1
          have : r < (a.eval x).cells.size := by rw [← Array.length_toList, hc.1]; exact hr'
          exact (hi r v _ hrv (by simp [this])).mov (g.mov (A := pA A pb))

theorem e_store (tok : TabOK C) (F : Frm A m0 σ0 w0 N fr σ a w m pb) (hd : ∀ d, o.dst = some d → d < N) {t : TypeId} {p x : Operand} (ho : o.op = .store t p x) (h : ve C fr σ o K) (hn : Nxt A m0 σ0 w0 N K next) : o.wpIn (WF ro) 0 C.P a w next Q := by
  unfold ve at h
  rw [ho] at h
  obtain ⟨hkn, hok, hlen, h⟩ := h
  have hr := F.opnd x (okv_isVal hok)
  obtain ⟨hc, hone⟩ := okv_cells hok hr
  have hsz := (tok.ty t hkn).sizeOf w
  have hvl : (a.eval x).cells.size = (C.T t).size := by rw [← Array.length_toList, hc.1, hlen]
  have hundef : ∀ {m' : Mp} {σ' : St} {w' : World}, VR (pA A pb) m' σ' w' (.tup []) undef := fun {_ _ _} => .tup [] #[] rfl fun i v u h1 _ => by simp at h1
  have fin : ∀ {b off T : Nat} {us : Array Value}, a.eval p = .pointer (some ⟨b, off, none⟩) → w.heap[b]? = some (.cells us T (0, 0)) → off + (a.eval x).cells.toList.length ≤ us.size →
      next (a.put o.dst undef) { w with heap := w.heap.setIfInBounds b (.cells (setVals us.toList off (a.eval x).cells.toList).toArray T (0, 0)) } → o.wpIn (WF ro) 0 C.P a w next Q := by
    intro b off T us hp hh hle hnx
    refine wp_skip' ?_ hnx
    have := storeCells_run C.P b off T (a.eval x).cells.toList 0 us w hh (by simpa using hle) hone
    simp only [Nat.add_zero] at this
    simp [execOp, ho, Instr.storeAt, Instr.sureAddr, hp, storeVar, hsz, hvl, this]
  unfold vstore at h
  generalize hX : opv fr p = X at h
  cases X <;> (try simp only at h) <;> try exact h.elim
  case cell cs =>
    obtain ⟨s, b, us, T, rfl, hs, hlk, hp, hu, hh, hv⟩ := F.opndCell hX
    simp only at h
    have hsz' : us.size = cs.length := hv.toList
    refine fin hu hh (by rw [hc.1, hsz']; omega) ?_
    have F' := F.setCell (T := T) hs (cs' := setCells cs 0 (opv fr x).cells) (us' := (setVals us.toList 0 (a.eval x).cells.toList).toArray) hlk hp hh (setCells_length _ _ _) (by simpa using hv.setCells 0 hc)
    exact hn _ _ _ _ ⟨m, pb, F'.putd hd (ResR.of hundef)⟩ h.2
  case lref s off =>
    generalize hl : lk fr s = v' at h
    cases v' <;> (try simp only at h) <;> try exact h.elim
    case cell cs =>
      obtain ⟨b, us, T, hs, hp, hu, hh, hv⟩ := F.opndLref hX hl
      have hsz' : us.size = cs.length := hv.toList
      refine fin hu hh (by rw [hc.1, hsz']; omega) ?_
      have F' := F.setCell (T := T) hs (cs' := setCells cs off (opv fr x).cells) (us' := (setVals us.toList off (a.eval x).cells.toList).toArray) hl hp hh (setCells_length _ _ _) (by simpa using hv.setCells off hc)
      exact hn _ _ _ _ ⟨m, pb, F'.putd hd (ResR.of hundef)⟩ h.2
  case ptr id off =>
    generalize hσ : σ[id]? = ob at h
    cases ob with
    | none => exact h.elim
    | some ob =>
      cases ob <;> (try simp only at h) <;> try exact h.elim
      case box cs =>
        obtain ⟨b, c, hm, hu⟩ := (hX ▸ F.opnd p (by rw [hX]; rfl) : VR _ m σ w (.ptr id off) _).ptr_inv hσ
        obtain ⟨b', c', us, T, e, hh, hv⟩ := F.rel.objs id _ _ hσ hm
        cases e
        have hsz' : us.size = cs.length := hv.toList
        refine fin hu hh (by rw [hc.1, hsz']; omega) ?_
        obtain ⟨R, E⟩ := F.rel.setObj (o' := .box (setCells cs off (opv fr x).cells)) (ob := .cells (setVals us.toList off (a.eval x).cells.toList).toArray T (0, 0)) hσ hm ⟨rfl, setCells_length _ _ _⟩
          fun w' hw' M O hnew => ⟨b, c, _, T, rfl, hnew, by simpa using (hv.setCells off hc).mov M O F.rel.len⟩
        exact hn _ _ _ _ ⟨m, pb, (F.step E R).putd hd (ResR.of hundef)⟩ h.2
  case eptr id g i off =>
    generalize hσ : σ[id]? = ob at h
    cases ob with
    | none => exact h.elim
    | some ob =>
      cases ob <;> (try simp only at h) <;> try exact h.elim
      case arr nl g0 sz es =>
        obtain ⟨hg, himm, hoff, hk⟩ := h
        obtain ⟨hi, b, c, hm, hu⟩ := (hX ▸ F.opnd p (by rw [hX]; rfl) : VR _ m σ w (.eptr id g i off) _).eptr_inv hσ hg
        rcases F.rel.objs id _ _ hσ hm with ⟨hes, _⟩ | ⟨hn', b', cap, us, T, e, hh, q1, q2, q3, q4, q5⟩
        · subst hes; simp at hi
        · cases e
          have he : es[i]? = some (es.getD i .undef) := by simp [List.getElem?_eq_getElem hi]
          have hel := q4 _ (List.mem_of_getElem? he)
          have hin : (i + 1) * sz ≤ us.size := by rw [q1]; exact Nat.mul_le_mul_right _ (by omega)
          rw [Nat.add_mul, Nat.one_mul] at hin
          have hcl : (a.eval x).cells.toList.length = (opv fr x).cells.length := hc.1
          refine fin hu hh (by rw [hcl]; omega) ?_
          have hre := reEl_cells (es.getD i .undef) off (opv fr x).cells (okv_cell1 hok) (by rw [hel]; exact hoff)
          have hVI := okv_VIcells hok hr (u := a.eval x)
          simp only [List.all_eq_true] at himm
          obtain ⟨R, E⟩ := F.rel.setObj (o' := .arr nl g0 sz (es.set i (reEl (es.getD i .undef) (setCells (es.getD i .undef).cells off (opv fr x).cells)))) (ob := .cells (setVals us.toList (i * sz + off) (a.eval x).cells.toList).toArray T (0, 0)) hσ hm
            ⟨Nat.le_refl _, fun _ => ⟨rfl, rfl, rfl, by simp⟩⟩ fun w' hw' M O hnew => by
              refine .inr ⟨hn', b, c, _, T, rfl, hnew, by simp [setVals_length, q1], by simpa using q2, q3, fun e he' => ?_, fun j e he' r v hv => ?_⟩
              · rcases List.mem_or_eq_of_mem_set he' with h1 | h1
                · exact q4 e h1
                · rw [h1, hre, setCells_length]; exact hel
              · rw [List.getElem?_set] at he'
                have hpos : ∀ n : Nat, (setVals us.toList (i * sz + off) (a.eval x).cells.toList).toArray[n]? = if i * sz + off ≤ n ∧ n < i * sz + off + (opv fr x).cells.length ∧ n < us.size then (a.eval x).cells.toList[n - (i * sz + off)]? else us[n]? := by
                  intro n
                  rw [List.getElem?_toArray, setVals_get, hcl, show us.toList.length = us.size from Array.length_toList, show us.toList[n]? = us[n]? from Array.getElem?_toList]
                by_cases hij : i = j
                · subst hij
                  rw [if_pos rfl, if_pos hi] at he'
                  cases he'
                  rw [hre, setCells_get] at hv
                  rw [hpos]
                  by_cases hin2 : off ≤ r ∧ r < off + (opv fr x).cells.length ∧ r < (es.getD i .undef).cells.length
                  · rw [if_pos hin2] at hv
                    have hlt : r - off < (a.eval x).cells.toList.length := by rw [hcl]; omega
                    rw [if_pos (by omega), show i * sz + r - (i * sz + off) = r - off by omega, List.getElem?_eq_getElem hlt]
                    refine ⟨_, rfl, hone _ (List.getElem_mem hlt), ?_⟩
                    have hvr := hc.2 (r - off) v _ hv (List.getElem?_eq_getElem hlt)
                    exact (imm1_VI (himm v (List.mem_of_getElem? hv)) hvr).mov M
                  · rw [if_neg hin2] at hv
                    obtain ⟨u, hu', h1', hi'⟩ := q5 i _ he r v hv
                    have hr3 : r < (es.getD i .undef).cells.length := (List.getElem?_eq_some_iff.1 hv).1
                    rw [if_neg (by omega)]
                    exact ⟨u, hu', h1', hi'.mov M⟩
                · rw [if_neg hij] at he'
                  obtain ⟨u, hu', h1', hi'⟩ := q5 j e he' r v hv
                  have hr3 : r < sz := by rw [← q4 e (List.mem_of_getElem? he')]; exact (List.getElem?_eq_some_iff.1 hv).1
                  have hne : ¬ (i * sz + off ≤ j * sz + r ∧ j * sz + r < i * sz + off + (opv fr x).cells.length ∧ j * sz + r < us.size) := by
                    rintro ⟨h1, h2, _⟩
                    rcases Nat.lt_or_gt_of_ne hij with hlt | hgt
                    · have : (i + 1) * sz ≤ j * sz := Nat.mul_le_mul_right _ hlt
                      rw [Nat.add_mul, Nat.one_mul] at this
                      omega
                    · have : (j + 1) * sz ≤ i * sz := Nat.mul_le_mul_right _ hgt
                      rw [Nat.add_mul, Nat.one_mul] at this
                      omega
                  rw [hpos, if_neg hne]
                  exact ⟨u, hu', h1', hi'.mov M⟩
          exact hn _ _ _ _ ⟨m, pb, (F.step E R).putd hd (ResR.of hundef)⟩ hk

end effects
end Go.VL

/- Operations that write, or make, or call; second part: append. Conditions: the table of types tells the program's own rows (TabOK). -/
namespace Go.VL

/-- What is appended, as it lies in memory: elements, and their cells one behind the other. -/
def RowR (w : World) (B : Nat → Prop) (sz : Nat) (es : List V) (us : List Value) : Prop :=
  us.length = es.length * sz ∧ (∀ e ∈ es, e.cells.length = sz) ∧ (∀ u ∈ us, u.oneCell' = true) ∧ ∀ (i : Nat) e, es[i]? = some e → ∀ (r : Nat) v, e.cells[r]? = some v → ∃ u, us[i * sz + r]? = some u ∧ VI w B v u

theorem RowR.nil {w B sz} : RowR w B sz [] [] := ⟨by simp, by simp, by simp, fun i e h => by simp at h⟩

theorem RowR.append {w B sz} {es es' : List V} {us us' : List Value} (h : RowR w B sz es us) (k : RowR w B sz es' us') : RowR w B sz (es ++ es') (us ++ us') := by
  refine ⟨by simp [h.1, k.1, Nat.add_mul], fun e he => (List.mem_append.1 he).elim (h.2.1 e) (k.2.1 e), fun u hu => (List.mem_append.1 hu).elim (h.2.2.1 u) (k.2.2.1 u), fun i e he r v hv => ?_⟩
  rcases Nat.lt_or_ge i es.length with hi | hi
  · rw [List.getElem?_append_left hi] at he
    obtain ⟨u, hu, hvi⟩ := h.2.2.2 i e he r v hv
    exact ⟨u, by rw [List.getElem?_append_left (List.getElem?_eq_some_iff.1 hu).1]; exact hu, hvi⟩
  · rw [List.getElem?_append_right hi] at he
    obtain ⟨u, hu, hvi⟩ := k.2.2.2 _ e he r v hv
    have hm : es.length * sz ≤ i * sz := Nat.mul_le_mul_right _ hi
    refine ⟨u, ?_, hvi⟩
    rw [List.getElem?_append_right (by rw [h.1]; omega), h.1, show i * sz + r - es.length * sz = (i - es.length) * sz + r by rw [Nat.sub_mul]; omega]
    exact hu

theorem RowR.mov {A m w A' m' w' sz es us} (M : Mov A m w A' m' w') (h : RowR w (Bad A m) sz es us) : RowR w' (Bad A' m') sz es us :=
  ⟨h.1, h.2.1, h.2.2.1, fun i e he r v hv => by obtain ⟨u, hu, hi⟩ := h.2.2.2 i e he r v hv; exact ⟨u, hu, hi.mov M⟩⟩

/-- Cells of a row, cut to a part. -/
theorem RowR.cut {w B sz es us} (h : RowR w B sz es us) (lo hi : Nat) : RowR w B sz ((es.take hi).drop lo) ((us.take (hi * sz)).drop (lo * sz)) := by
  refine ⟨?_, fun e he => h.2.1 e (List.mem_of_mem_take (List.mem_of_mem_drop he)), fun u hu => h.2.2.1 u (List.mem_of_mem_take (List.mem_of_mem_drop hu)), fun i e he r v hv => ?_⟩
  · simp only [List.length_drop, List.length_take, h.1]
    rcases Nat.le_total hi es.length with h1 | h1
    · have : hi * sz ≤ es.length * sz := Nat.mul_le_mul_right _ h1
      rw [Nat.min_eq_left h1, Nat.min_eq_left this, Nat.sub_mul]
    · have : es.length * sz ≤ hi * sz := Nat.mul_le_mul_right _ h1
      rw [Nat.min_eq_right h1, Nat.min_eq_right this, Nat.sub_mul]
  · rw [List.getElem?_drop, List.getElem?_take] at he
    split at he
    · rename_i hlt
      obtain ⟨u, hu, hvi⟩ := h.2.2.2 _ e he r v hv
      refine ⟨u, ?_, hvi⟩
      have hr : r < sz := by rw [← h.2.1 e (List.mem_of_getElem? he)]; exact (List.getElem?_eq_some_iff.1 hv).1
      have h1 : (lo + i + 1) * sz ≤ hi * sz := Nat.mul_le_mul_right _ hlt
      rw [Nat.add_mul, Nat.one_mul, Nat.add_mul] at h1
      rw [List.getElem?_drop, List.getElem?_take, if_pos (by omega), show lo * sz + (i * sz + r) = (lo + i) * sz + r by rw [Nat.add_mul]; omega]
      exact hu
    · cases he

/-- How the machine comes to what is appended. -/
def SrcRun (P : Program) (xt : TypeId) (sz : Nat) (zc : Array Value) (w : World) (u : Value) (n : Nat) (us : List Value) : Prop :=
  (∃ d, P.underlying xt = some d ∧ ((∃ e', d = .slice e') ∨ d = .string) ∧ (∀ w', (Builtin.lenOf u).run P w' = .ok n w') ∧ ∀ w', w'.heap = w.heap → (Builtin.firstCells sz n u).run P w' = .ok us.toArray w') ∨
  (∃ k k0, P.underlying xt = some (.int k0) ∧ u = .int .i64 k ∧ 0 ≤ k ∧ k ≤ 4294967296 ∧ n = k.toNat ∧ us = (Builtin.zeroCells zc n).toList)

section run
variable {P : Program} {st xt e o : TypeId} {ty : Ty} {w : World} {base : Option Addr} {sLen sCap n : Nat} {u : Value} {us old : List Value} {zc : Value}

theorem wrap_ok {k : Int} (h0 : 0 ≤ k) (h1 : k ≤ 4294967296) : IntKind.i64.wrap k = k := IntWalk.i64_in k (by omega)

/-- Nothing is written: there is room, and nothing to append, or no place. -/
theorem append_same (hst : P.underlying st = some (.slice e)) (he : TyOK P e ty) (hbytes : ty.bytes ≤ 4096) (hsrc : SrcRun P xt ty.size zc.cells w u n us) (hzr : ∀ w, (zeroValue e).run P w = .ok zc w) (hpos : 0 < ty.size) (hfit : sLen + n ≤ sCap) (hb : base = none ∨ us = []) :
    (Builtin.append_ #[st, xt] o #[.slice base sLen sCap, u]).run P w = .ok (.slice base (sLen + n) sCap) w := by
  have hsz := he.sizeOf w
  obtain ⟨ie, hie, his, hib⟩ := he.info
  rcases hsrc with ⟨d, h1, h2, h3, h4⟩ | ⟨k, k0, h1, rfl, h3, h4, rfl, rfl⟩
  · have h4w := h4 w rfl
    have h3w := h3 w
    rcases h2 with ⟨e', rfl⟩ | rfl <;> cases base with
    | none => simp [Builtin.append_, run_underlying hst, run_underlying h1, hsz, h3w, h4w, hfit]
    | some ad =>
      rcases hb with hb | rfl
      · cases hb
      · simp [Builtin.append_, run_underlying hst, run_underlying h1, hsz, h3w, h4w, hfit, storeCells]
  · have hw := wrap_ok h3 h4
    have hb1 : ¬ k < 0 := by omega
    have hb2 : ¬ (281474976710656 < k * (ie.bytes : Int)) := by
      have h5 : k * (ie.bytes : Int) ≤ 4294967296 * 4096 := Int.mul_le_mul h4 (by omega) (by omega) (by omega)
      omega
    have hk0 : k.toNat * ty.size = 0 → k.toNat = 0 := fun h0 => by
      rcases Nat.mul_eq_zero.1 h0 with h | h
      · exact h
      · omega
    by_cases h0 : k.toNat * ty.size = 0
    · have hk := hk0 h0
      cases base <;> simp [Builtin.append_, run_underlying hst, run_underlying h1, hsz, asInt, asIntOf, hw, hb1, typeInfo, hie, hb2, hfit, h0, storeCells]
    · cases base with
      | none => simp [Builtin.append_, run_underlying hst, run_underlying h1, hsz, asInt, asIntOf, hw, hb1, typeInfo, hie, hb2, hfit, h0, hzr]
      | some ad =>
        rcases hb with hb | hb
        · cases hb
        · simp [Builtin.append_, run_underlying hst, run_underlying h1, hsz, asInt, asIntOf, hw, hb1, typeInfo, hie, hb2, hfit, h0, hzr, hb, storeCells]

/-- There is room: the cells are written behind the old ones. -/
theorem append_room (hst : P.underlying st = some (.slice e)) (he : TyOK P e ty) (hbytes : ty.bytes ≤ 4096) (hsrc : SrcRun P xt ty.size zc.cells w u n us) (hzr : ∀ w, (zeroValue e).run P w = .ok zc w) (hpos : 0 < ty.size) (hlen : us.length = n * ty.size) (hfit : sLen + n ≤ sCap)
    {b off : Nat} {cur : Array Value} {T : TypeId} (hh : w.heap[b]? = some (.cells cur T (0, 0))) (hle : off + (sLen + n) * ty.size ≤ cur.size) (h1' : ∀ x ∈ us, x.oneCell' = true) :
    (Builtin.append_ #[st, xt] o #[.slice (some ⟨b, off, none⟩) sLen sCap, u]).run P w = .ok (.slice (some ⟨b, off, none⟩) (sLen + n) sCap) { w with heap := w.heap.setIfInBounds b (.cells (setVals cur.toList (off + sLen * ty.size) us).toArray T (0, 0)) } := by
  have hsz := he.sizeOf w
  obtain ⟨ie, hie, his, hib⟩ := he.info
  have hst' := storeCells_run P b (off + sLen * ty.size) T us 0 cur w hh (by rw [hlen, Nat.add_zero]; rw [Nat.add_mul] at hle; omega) h1'
  simp only [Nat.add_zero] at hst'
  rcases hsrc with ⟨d, h1, h2, h3, h4⟩ | ⟨k, k0, h1, rfl, h3, h4, rfl, rfl⟩
  · have h4w := h4 w rfl
    have h3w := h3 w
    rcases h2 with ⟨e', rfl⟩ | rfl <;> simp [Builtin.append_, run_underlying hst, run_underlying h1, hsz, h3w, h4w, hfit, addr_add, hst']
  · have hw := wrap_ok h3 h4
    have hb1 : ¬ k < 0 := by omega
    have hb2 : ¬ (281474976710656 < k * (ie.bytes : Int)) := by
      have h5 : k * (ie.bytes : Int) ≤ 4294967296 * 4096 := Int.mul_le_mul h4 (by omega) (by omega) (by omega)
      omega
    have hk0 : k.toNat * ty.size = 0 → k.toNat = 0 := fun h0 => by
      rcases Nat.mul_eq_zero.1 h0 with h | h
      · exact h
      · omega
    by_cases h0 : k.toNat * ty.size = 0
    · have hk := hk0 h0
      rw [show (Builtin.zeroCells zc.cells k.toNat).toList = [] by simp [hk, Builtin.zeroCells]] at hst' ⊢
      simp [Builtin.append_, run_underlying hst, run_underlying h1, hsz, asInt, asIntOf, hw, hb1, typeInfo, hie, hb2, hfit, h0, addr_add, hst']
    · simp [Builtin.append_, run_underlying hst, run_underlying h1, hsz, asInt, asIntOf, hw, hb1, typeInfo, hie, hb2, hfit, h0, hzr, addr_add, hst']

/-- There is no room: all lies in a new block. -/
theorem append_grow (hst : P.underlying st = some (.slice e)) (he : TyOK P e ty) (hbytes : ty.bytes ≤ 4096) (hsrc : SrcRun P xt ty.size zc.cells w u n us) (hzr : ∀ w, (zeroValue e).run P w = .ok zc w) (hzs : zc.cells.size = ty.size) (hpos : 0 < ty.size) (hlim : sLen + n ≤ lim) (hlc : sLen ≤ sCap) (hg : sCap < sLen + n)
    (hold : ∀ w', w'.heap = w.heap → (Builtin.firstCells ty.size sLen (.slice base sLen sCap)).run P w' = .ok old.toArray w') :
    ∃ newCap rest, sLen + n ≤ newCap ∧ rest.length = (newCap - (sLen + n)) * ty.size ∧
      (Builtin.append_ #[st, xt] o #[.slice base sLen sCap, u]).run P w = .ok (.slice (some ⟨w.heap.size, 0, none⟩) (sLen + n) newCap) { { w with drawn := w.drawn + 1 } with heap := w.heap.push (.cells (old ++ us ++ rest).toArray e (0, 0)) } := by
  have hsz := he.sizeOf w
  obtain ⟨ie, hie, his, hib⟩ := he.info
  have hgf : ¬ (281474976710656 < Builtin.nextslicecap (sLen + n) sCap * ie.bytes) := by
    have := growslice_fits (need := sLen + n) (old := sCap) (bytes := ie.bytes) hg (by
      have : (sLen + n) * ie.bytes ≤ 4294967296 * 4096 := Nat.mul_le_mul hlim (by omega)
      omega)
    omega
  have hmx : ¬ (9223372036854775807 < ((sLen : Int) + (n : Int))) := by unfold lim at hlim; omega
  have hnf : ¬ (sLen + n ≤ sCap) := by omega
  have hcell := hzr { w with drawn := w.drawn + 1 }
  have hod := hold { w with drawn := w.drawn + 1 } rfl
  refine ⟨sLen + n + w.tape w.drawn (.appendCap (sLen + n) sCap e) % (2 ^ 63 - (sLen + n)), (Builtin.zeroCells zc.cells (w.tape w.drawn (.appendCap (sLen + n) sCap e) % (2 ^ 63 - (sLen + n)))).toList, Nat.le_add_right _ _, by simp [size_zeroCells, hzs], ?_⟩
  have himax : ¬ (IntKind.i64.max < ((sLen : Int) + (n : Int))) := hmx
  have hmx2 : ¬ (9223372036854775807 < ((sLen : Int) + (n : Int)) ∧ ie.bytes = 0) := fun h => hmx h.1
  have hod' : (Builtin.firstCells ty.size sLen (.slice base sLen sCap)).run P w.drew = .ok old.toArray w.drew := hold _ rfl
  have hcell' : (zeroValue e).run P w.drew = .ok zc w.drew := hzr _
  have hfin : ∀ (ys : List Value) (zs : Array Value), w.drew.alloc (.cells (old.toArray ++ (ys.toArray ++ zs)) e (0, 0)) = { heap := w.heap.push (.cells (old ++ (ys ++ zs.toList)).toArray e (0, 0)), tape := w.tape, drawn := w.drawn + 1, os := w.os, output := w.output } := by
    intro ys zs
    have : old.toArray ++ (ys.toArray ++ zs) = (old ++ (ys ++ zs.toList)).toArray := Array.ext' (by simp)
    rw [this]
    rfl
  rcases hsrc with ⟨d, h1, h2, h3, h4⟩ | ⟨k, k0, h1, rfl, h3, h4, rfl, rfl⟩
  · have h4d : (Builtin.firstCells ty.size n u).run P w.drew = .ok us.toArray w.drew := h4 _ rfl
    have h3w := h3 w
    rcases h2 with ⟨e', rfl⟩ | rfl <;> simp [Builtin.append_, run_underlying hst, run_underlying h1, hsz, h3w, hnf, typeInfo, hie, hgf, hmx2, Question.forced, Question.cut, hod', h4d, hcell', newRow]
    all_goals exact hfin _ _
  · have hw := wrap_ok h3 h4
    have hb1 : ¬ k < 0 := by omega
    have hb2 : ¬ (281474976710656 < k * (ie.bytes : Int)) := by
      have h5 : k * (ie.bytes : Int) ≤ 4294967296 * 4096 := Int.mul_le_mul h4 (by omega) (by omega) (by omega)
      omega
    have hmx3 : ¬ (9223372036854775807 < (sLen : Int) + max k 0) := by unfold lim at hlim; omega
    have hk0 : ¬ (k.toNat * ty.size = 0) := fun h0 => by
      rcases Nat.mul_eq_zero.1 h0 with h | h
      · omega
      · omega
    simp [Builtin.append_, run_underlying hst, run_underlying h1, hsz, asInt, asIntOf, hw, hb1, hb2, hnf, typeInfo, hie, hgf, hmx3, hk0, Question.forced, Question.cut, hod', hcell', newRow]
    exact hfin _ _

end run
end Go.VL
