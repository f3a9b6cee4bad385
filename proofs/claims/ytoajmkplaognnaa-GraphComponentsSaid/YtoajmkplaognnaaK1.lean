/- The engine, part 1: abstract values, what they say of a world, what keeps them true. The engine, part 2: new variables and rows, writes, rows given up. The engine, part 3: types; what one quiet operation comes to; its soundness. The engine, part 4: soundness of the quiet operations. The engine, part 5: new variables, structs and rows; calls by contract. The engine, part 6: soundness of literals, make, slicing, closures and calls. The engine, part 7: soundness of a call by contract. The engine, part 8: one quiet operation, whatever it is; states; a step in a state. -/
import Derived.Below
import Derived.Orders
import Derived.OwnWalk
import Derived.Maps.AppendAt
import Derived.Laws.Cells
import Derived.Laws.Tables
import Derived.Laws.Slices
import Derived.Laws.MakeOwn
import Derived.Laws.Cover3
set_option linter.unusedVariables false
set_option linter.unusedSimpArgs false
set_option linter.unusedSectionVars false
namespace Go.Fx
open Go.RowKit
set_option linter.unusedVariables false

/-- What one cell of memory reads as. -/
inductive CVal : Type 1
  | int (k : IntKind) (n : Int)
  | bool (b : Bool)
  | str (s : ByteArray)
  | nil
  | sl (α : Type) (k : Nat) (cell : α → Nat → CVal) (xs : List α)
  | ref (k : Nat) (cell : Nat → CVal)
  | fn (f : FuncId) (n : Nat) (caps : Nat → CVal)

abbrev i64 (n : Int) : CVal := .int .i64 n
abbrev maxI : Nat := 9223372036854775807

/-- A value reads as x; X: blocks that it does not lead to. -/
def Rep (w : World) (X : Nat → Prop) : CVal → Value → Prop
  | .int k n, v => v = .int k n
  | .bool b, v => v = .bool b
  | .str s, v => v = .string s
  | .nil, v => v = .slice none 0 0
  | .sl _ k cell xs, v => ∃ A c, v = .slice A xs.length c ∧ xs.length ≤ c ∧ xs.length ≤ maxI ∧
      (xs ≠ [] → ∃ b o, A = some ⟨b, o, none⟩ ∧ ¬ X b ∧ b < w.heap.size ∧
        ∀ j x, xs[j]? = some x → ∀ i, i < k → ∃ u, w.cell? ⟨b, o + j * k + i, none⟩ = some u ∧ Rep w X (cell x i) u)
  | .ref k cell, v => ∃ b o, v = .pointer (some ⟨b, o, none⟩) ∧ ¬ X b ∧ b < w.heap.size ∧
      ∀ i, i < k → ∃ u, w.cell? ⟨b, o + i, none⟩ = some u ∧ Rep w X (cell i) u
  | .fn f n caps, v => ∃ vs : List Value, v = .func (.func f) #[] vs.toArray ∧ vs.length = n ∧ ∀ i u, vs[i]? = some u → Rep w X (caps i) u

theorem cell_of_heap {w w' : World} {b o : Nat} (h : w'.heap[b]? = w.heap[b]?) : w'.cell? ⟨b, o, none⟩ = w.cell? ⟨b, o, none⟩ :=
  World.cell?_of_block (w := w) (a := ⟨b, o, none⟩) h

theorem Rep.mono {w w' : World} {X X' : Nat → Prop} (h : ∀ b, b < w.heap.size → ¬ X b → ¬ X' b ∧ w'.heap[b]? = w.heap[b]?) (hs : w.heap.size ≤ w'.heap.size) :
    ∀ {x : CVal} {v : Value}, Rep w X x v → Rep w' X' x v := by
  intro x
  induction x with
  | int | bool | str | nil => intro v h; exact h
  | sl α k cell xs ih =>
    rintro v ⟨A, c, rfl, h1, h2, h3⟩
    refine ⟨A, c, rfl, h1, h2, fun hx => ?_⟩
    obtain ⟨b, o, e, hb, hl, hc⟩ := h3 hx
    obtain ⟨hb', hh⟩ := h b hl hb
    refine ⟨b, o, e, hb', by omega, fun j x hj i hi => ?_⟩
    obtain ⟨u, hu, hr⟩ := hc j x hj i hi
    exact ⟨u, by rw [cell_of_heap hh]; exact hu, ih x i hr⟩
  | ref k cell ih =>
    rintro v ⟨b, o, rfl, hb, hl, hc⟩
    obtain ⟨hb', hh⟩ := h b hl hb
    refine ⟨b, o, rfl, hb', by omega, fun i hi => ?_⟩
    obtain ⟨u, hu, hr⟩ := hc i hi
    exact ⟨u, by rw [cell_of_heap hh]; exact hu, ih i hr⟩
  | fn f n caps ih =>
    rintro v ⟨vs, rfl, hn, hc⟩
    exact ⟨vs, rfl, hn, fun i u hu => ih i (hc i u hu)⟩

theorem Rep.sub {w : World} {X X' : Nat → Prop} (h : ∀ b, X' b → X b) {x : CVal} {v : Value} (hr : Rep w X x v) : Rep w X' x v :=
  Rep.mono (fun b _ hb => ⟨fun hx => hb (h b hx), rfl⟩) (Nat.le_refl _) hr

theorem Rep.one {w : World} {X : Nat → Prop} {x : CVal} {v : Value} (h : Rep w X x v) : v.oneCell' = true := by
  cases x with
  | int | bool | str | nil => obtain rfl := h; rfl
  | sl => obtain ⟨A, c, rfl, _⟩ := h; rfl
  | ref => obtain ⟨b, o, rfl, _⟩ := h; rfl
  | fn => obtain ⟨vs, rfl, _⟩ := h; rfl

/-- It says the same whatever the world and whatever is shut out. -/
def Flat (x : CVal) : Prop := ∀ (w w' : World) (X X' : Nat → Prop) (v : Value), Rep w X x v → Rep w' X' x v
theorem flat_int (k : IntKind) (n : Int) : Flat (.int k n) := fun _ _ _ _ _ h => h
theorem flat_bool (b : Bool) : Flat (.bool b) := fun _ _ _ _ _ h => h
theorem flat_str (b : ByteArray) : Flat (.str b) := fun _ _ _ _ _ h => h
theorem flat_nil : Flat .nil := fun _ _ _ _ _ h => h

/-! ### The call's own state -/
inductive Cell : Type 1
  | any
  | c (x : CVal)
  | lptr (l off : Nat)
  | optr (r ver i off : Nat)
  | own (r ver : Nat)
  | clo (f : FuncId) (ls : List Nat)

inductive Part : Type 1
  | one (x : Cell)
  | agg (l : List Cell)

inductive AVal : Type 1
  | p (x : Part)
  | tup (l : List Part)

abbrev AVal.any : AVal := .p (.one .any)
abbrev AVal.c (x : CVal) : AVal := .p (.one (.c x))

/-- A row of the call's own: k cells an element, of the type e. -/
structure Row : Type 1 where
  α : Type
  k : Nat
  cell : α → Nat → CVal
  e : TypeId
  xs : List α

/-- Memory: boxed variables, rows. -/
structure Mem : Type 1 where
  loc : Nat → Option (List Cell)
  row : Nat → Option (Nat × Row)

/-- Where they lie. -/
structure Map where
  lb : Nat → Nat
  rv : Nat → Value

def Own (F : Mem) (m : Map) (b : Nat) : Prop :=
  (∃ l cs, F.loc l = some cs ∧ m.lb l = b) ∨ (∃ r v R, F.row r = some (v, R) ∧ (m.rv r).ownBlock = some b)
def Bad (X0 : Nat → Prop) (F : Mem) (m : Map) (b : Nat) : Prop := X0 b ∨ Own F m b

def CRel (w : World) (X : Nat → Prop) (F : Mem) (m : Map) : Cell → Value → Prop
  | .any, _ => True
  | .c x, v => Rep w X x v
  | .lptr l off, v => (∃ cs, F.loc l = some cs) ∧ v = .pointer (some ⟨m.lb l, off, none⟩)
  | .own r ver, v => ∃ ver' R, F.row r = some (ver', R) ∧ ver ≤ ver' ∧ (ver = ver' → v = m.rv r)
  | .optr r ver i off, v => ∃ ver' R, F.row r = some (ver', R) ∧ ver ≤ ver' ∧ (ver = ver' → ∃ g o n c, m.rv r = .slice (some ⟨g, o, none⟩) n c ∧ v = .pointer (some ⟨g, o + i * R.k + off, none⟩))
  | .clo f ls, v => v = .func (.func f) #[] (ls.map fun l => Value.pointer (some ⟨m.lb l, 0, none⟩)).toArray ∧ ∀ l ∈ ls, ∃ cs, F.loc l = some cs

/-- Two lists, element by element. -/
def All2 {α : Type _} {β : Type _} (R : α → β → Prop) : List α → List β → Prop
  | [], [] => True
  | a :: as, b :: bs => R a b ∧ All2 R as bs
  | _, _ => False

section
variable {α : Type _} {β : Type _} {R R' : α → β → Prop}
theorem All2.length : ∀ {l : List α} {k : List β}, All2 R l k → l.length = k.length
  | [], [], _ => rfl
  | _ :: _, _ :: _, h => by simp [All2.length h.2]
  | [], _ :: _, h => h.elim
  | _ :: _, [], h => h.elim
theorem All2.imp (h : ∀ a b, R a b → R' a b) : ∀ {l : List α} {k : List β}, All2 R l k → All2 R' l k
  | [], [], _ => trivial
  | _ :: _, _ :: _, hh => ⟨h _ _ hh.1, All2.imp h hh.2⟩
  | [], _ :: _, hh => hh.elim
  | _ :: _, [], hh => hh.elim
theorem All2.get : ∀ {l : List α} {k : List β} (i : Nat) {a : α}, All2 R l k → l[i]? = some a → ∃ b, k[i]? = some b ∧ R a b
  | [], [], i, a, _, h => by simp at h
  | x :: _, y :: _, 0, a, hh, h => by simp at h; subst h; exact ⟨y, rfl, hh.1⟩
  | _ :: _, _ :: _, i + 1, a, hh, h => by simpa using All2.get i hh.2 (by simpa using h)
  | [], _ :: _, _, _, hh, _ => hh.elim
  | _ :: _, [], _, _, hh, _ => hh.elim
theorem All2.set : ∀ {l : List α} {k : List β} (i : Nat) {a : α} {b : β}, All2 R l k → R a b → All2 R (l.set i a) (k.set i b)
  | [], [], _, _, _, _, _ => trivial
  | _ :: _, _ :: _, 0, _, _, hh, h => ⟨h, hh.2⟩
  | _ :: _, _ :: _, i + 1, _, _, hh, h => ⟨hh.1, All2.set i hh.2 h⟩
  | [], _ :: _, _, _, _, hh, _ => hh.elim
  | _ :: _, [], _, _, _, hh, _ => hh.elim
theorem All2.append : ∀ {l l' : List α} {k k' : List β}, All2 R l k → All2 R l' k' → All2 R (l ++ l') (k ++ k')
  | [], _, [], _, _, h => h
  | _ :: _, _, _ :: _, _, hh, h => ⟨hh.1, All2.append hh.2 h⟩
  | [], _, _ :: _, _, hh, _ => hh.elim
  | _ :: _, _, [], _, hh, _ => hh.elim
theorem All2.drop : ∀ (i : Nat) {l : List α} {k : List β}, All2 R l k → All2 R (l.drop i) (k.drop i)
  | 0, _, _, h => h
  | i + 1, [], [], _ => trivial
  | i + 1, _ :: _, _ :: _, h => All2.drop i h.2
  | _ + 1, [], _ :: _, hh => hh.elim
  | _ + 1, _ :: _, [], hh => hh.elim
theorem All2.take : ∀ (i : Nat) {l : List α} {k : List β}, All2 R l k → All2 R (l.take i) (k.take i)
  | 0, _, _, h => trivial
  | i + 1, [], [], _ => trivial
  | i + 1, _ :: _, _ :: _, h => ⟨h.1, All2.take i h.2⟩
  | _ + 1, [], _ :: _, hh => hh.elim
  | _ + 1, _ :: _, [], hh => hh.elim
end

def PRel (w : World) (X : Nat → Prop) (F : Mem) (m : Map) : Part → Value → Prop
  | .one x, v => CRel w X F m x v
  | .agg l, v => ∃ vs : List Value, v = .agg vs.toArray ∧ All2 (CRel w X F m) l vs
def VRel (w : World) (X : Nat → Prop) (F : Mem) (m : Map) : AVal → Value → Prop
  | .p x, v => PRel w X F m x v
  | .tup l, v => ∃ vs : List Value, v = .tuple vs.toArray ∧ All2 (PRel w X F m) l vs

def RowRel (w : World) (X : Nat → Prop) (base : Nat) (R : Row) (v : Value) : Prop :=
  (v = .slice none 0 0 ∧ R.xs = []) ∨
  ∃ g o c cur, v = .slice (some ⟨g, o, none⟩) R.xs.length c ∧ base ≤ g ∧ w.heap[g]? = some (.cells cur R.e (0, 0)) ∧ R.xs.length ≤ c ∧ c ≤ maxI ∧ o + c * R.k ≤ cur.size ∧
    ∀ j x, R.xs[j]? = some x → ∀ i, i < R.k → ∃ u, cur[o + j * R.k + i]? = some u ∧ Rep w X (R.cell x i) u

structure Core (w0 : World) (X0 : Nat → Prop) (F : Mem) (m : Map) (w : World) : Prop where
  below : Below w0.heap.size w0 w
  x0 : ∀ b, X0 b → b < w0.heap.size
  loc : ∀ l cs, F.loc l = some cs → w0.heap.size ≤ m.lb l ∧ ∃ vs t, w.heap[m.lb l]? = some (.cells vs t (0, 0)) ∧ All2 (CRel w (Bad X0 F m) F m) cs vs.toList
  row : ∀ r v R, F.row r = some (v, R) → RowRel w (Bad X0 F m) w0.heap.size R (m.rv r)
  sepLL : ∀ l l' cs cs', F.loc l = some cs → F.loc l' = some cs' → m.lb l = m.lb l' → l = l'
  sepLR : ∀ l cs r v R, F.loc l = some cs → F.row r = some (v, R) → (m.rv r).ownBlock ≠ some (m.lb l)
  sepRR : ∀ r r' v v' R R' b, F.row r = some (v, R) → F.row r' = some (v', R') → (m.rv r).ownBlock = some b → (m.rv r').ownBlock = some b → r = r'

structure Grow (F : Mem) (m : Map) (w : World) (F' : Mem) (m' : Map) (w' : World) : Prop where
  size : w.heap.size ≤ w'.heap.size
  heap : ∀ b, b < w.heap.size → ¬ Own F m b → w'.heap[b]? = w.heap[b]?
  own : ∀ b, Own F' m' b → Own F m b ∨ w.heap.size ≤ b
  loc : ∀ l cs, F.loc l = some cs → (∃ cs', F'.loc l = some cs') ∧ m'.lb l = m.lb l
  row : ∀ r ver R, F.row r = some (ver, R) → ∃ ver' R', F'.row r = some (ver', R') ∧ ver ≤ ver' ∧ (ver = ver' → m'.rv r = m.rv r ∧ R'.k = R.k)

section
variable {w0 w w' : World} {X0 : Nat → Prop} {F F' : Mem} {m m' : Map}

theorem Grow.refl (F : Mem) (m : Map) (w : World) : Grow F m w F m w :=
  ⟨Nat.le_refl _, fun _ _ _ => rfl, fun _ h => .inl h, fun l cs h => ⟨⟨cs, h⟩, rfl⟩, fun r v R h => ⟨v, R, h, Nat.le_refl _, fun _ => ⟨rfl, rfl⟩⟩⟩

theorem Grow.rep (g : Grow F m w F' m' w') (hx : ∀ b, X0 b → b < w.heap.size) {x : CVal} {v : Value} (h : Rep w (Bad X0 F m) x v) : Rep w' (Bad X0 F' m') x v := by
  refine Rep.mono (fun b hb hn => ⟨fun hb' => ?_, g.heap b hb (fun ho => hn (.inr ho))⟩) g.size h
  rcases hb' with h0 | h0
  · exact hn (.inl h0)
  · rcases g.own b h0 with h1 | h1
    · exact hn (.inr h1)
    · omega

theorem Grow.crel (g : Grow F m w F' m' w') (hx : ∀ b, X0 b → b < w.heap.size) {x : Cell} {v : Value} (h : CRel w (Bad X0 F m) F m x v) : CRel w' (Bad X0 F' m') F' m' x v := by
  cases x with
  | any => trivial
  | c x => exact g.rep hx h
  | lptr l off =>
    obtain ⟨⟨cs, hl⟩, rfl⟩ := h
    obtain ⟨h1, h2⟩ := g.loc l cs hl
    exact ⟨h1, by rw [h2]⟩
  | own r ver =>
    obtain ⟨ver', R, hr, hle, hv⟩ := h
    obtain ⟨ver2, R', hr', hle', hk⟩ := g.row r ver' R hr
    refine ⟨ver2, R', hr', Nat.le_trans hle hle', fun e => ?_⟩
    have e1 : ver = ver' := by omega
    have e2 : ver' = ver2 := by omega
    rw [(hk e2).1]
    exact hv e1
  | optr r ver i off =>
    obtain ⟨ver', R, hr, hle, hv⟩ := h
    obtain ⟨ver2, R', hr', hle', hk⟩ := g.row r ver' R hr
    refine ⟨ver2, R', hr', Nat.le_trans hle hle', fun e => ?_⟩
    have e1 : ver = ver' := by omega
    have e2 : ver' = ver2 := by omega
    obtain ⟨g0, o, n, c, h1, h2⟩ := hv e1
    exact ⟨g0, o, n, c, by rw [(hk e2).1]; exact h1, by rw [(hk e2).2]; exact h2⟩
  | clo f ls =>
    obtain ⟨rfl, h⟩ := h
    refine ⟨?_, fun l hl => ?_⟩
    · congr 2
      refine List.map_congr_left fun l hl => ?_
      obtain ⟨cs, hcs⟩ := h l hl
      rw [(g.loc l cs hcs).2]
    · obtain ⟨cs, hcs⟩ := h l hl
      exact (g.loc l cs hcs).1

theorem Grow.prel (g : Grow F m w F' m' w') (hx : ∀ b, X0 b → b < w.heap.size) {x : Part} {v : Value} (h : PRel w (Bad X0 F m) F m x v) : PRel w' (Bad X0 F' m') F' m' x v := by
  cases x with
  | one x => exact g.crel hx h
  | agg l => obtain ⟨vs, rfl, h⟩ := h; exact ⟨vs, rfl, h.imp fun _ _ hh => g.crel hx hh⟩
theorem Grow.vrel (g : Grow F m w F' m' w') (hx : ∀ b, X0 b → b < w.heap.size) {x : AVal} {v : Value} (h : VRel w (Bad X0 F m) F m x v) : VRel w' (Bad X0 F' m') F' m' x v := by
  cases x with
  | p x => exact g.prel hx h
  | tup l => obtain ⟨vs, rfl, h⟩ := h; exact ⟨vs, rfl, h.imp fun _ _ hh => g.prel hx hh⟩

theorem Grow.trans {F2 : Mem} {m2 : Map} {w2 : World} (g : Grow F m w F' m' w') (k : Grow F' m' w' F2 m2 w2) : Grow F m w F2 m2 w2 where
  size := Nat.le_trans g.size k.size
  heap b hb hn := by
    have h1 := g.heap b hb hn
    by_cases ho : Own F' m' b
    · rcases g.own b ho with h | h
      · exact absurd h hn
      · omega
    · rw [k.heap b (Nat.lt_of_lt_of_le hb g.size) ho, h1]
  own b hb := by
    rcases k.own b hb with h | h
    · exact g.own b h
    · exact .inr (Nat.le_trans g.size h)
  loc l cs h := by
    obtain ⟨⟨cs', h1⟩, e1⟩ := g.loc l cs h
    obtain ⟨h2, e2⟩ := k.loc l cs' h1
    exact ⟨h2, e2.trans e1⟩
  row r v R h := by
    obtain ⟨v1, R1, h1, l1, e1⟩ := g.row r v R h
    obtain ⟨v2, R2, h2, l2, e2⟩ := k.row r v1 R1 h1
    refine ⟨v2, R2, h2, Nat.le_trans l1 l2, fun e => ?_⟩
    obtain ⟨a1, a2⟩ := e1 (by omega)
    obtain ⟨b1, b2⟩ := e2 (by omega)
    exact ⟨b1.trans a1, b2.trans a2⟩

theorem Core.xlt (C : Core w0 X0 F m w) : ∀ b, X0 b → b < w.heap.size := fun b h => Nat.lt_of_lt_of_le (C.x0 b h) C.below.size
theorem Core.own_ge (C : Core w0 X0 F m w) {b : Nat} (h : Own F m b) : w0.heap.size ≤ b ∧ b < w.heap.size := by
  rcases h with ⟨l, cs, hl, rfl⟩ | ⟨r, v, R, hr, hb⟩
  · obtain ⟨h1, vs, t, h2, _⟩ := C.loc l cs hl
    exact ⟨h1, (Array.getElem?_eq_some_iff.1 h2).1⟩
  · rcases C.row r v R hr with ⟨he, _⟩ | ⟨g, o, c, cur, he, hg, hh, _⟩
    · rw [he] at hb; simp [Value.ownBlock] at hb
    · rw [he] at hb
      simp [Value.ownBlock] at hb
      subst hb
      exact ⟨hg, (Array.getElem?_eq_some_iff.1 hh).1⟩

/-- The world has grown (a call has returned, an order has been drawn): nothing that was there has turned. -/
theorem grow_below (F : Mem) (m : Map) (h : Below w.heap.size w w') : Grow F m w F m w' :=
  ⟨h.size, fun b hb _ => h.block b hb, fun _ h => .inl h, fun l cs h => ⟨⟨cs, h⟩, rfl⟩, fun r v R h => ⟨v, R, h, Nat.le_refl _, fun _ => ⟨rfl, rfl⟩⟩⟩

theorem RowRel.grow (g : Grow F m w F' m' w') (hx : ∀ b, X0 b → b < w.heap.size) {R : Row} {v : Value} {base : Nat}
    (hb : ∀ b, v.ownBlock = some b → w'.heap[b]? = w.heap[b]?) (h : RowRel w (Bad X0 F m) base R v) : RowRel w' (Bad X0 F' m') base R v := by
  rcases h with h | ⟨g0, o, c, cur, rfl, h1, h2, h3, h4, h5, h6⟩
  · exact .inl h
  · refine .inr ⟨g0, o, c, cur, rfl, h1, by rw [hb g0 (by simp [Value.ownBlock])]; exact h2, h3, h4, h5, fun j x hj i hi => ?_⟩
    obtain ⟨u, hu, hr⟩ := h6 j x hj i hi
    exact ⟨u, hu, g.rep hx hr⟩

theorem Core.of_below (C : Core w0 X0 F m w) (h : Below w.heap.size w w') : Core w0 X0 F m w' := by
  have g := grow_below F m h
  have hx := C.xlt
  refine ⟨C.below.trans ⟨h.os, h.tape, h.output, h.size, fun k hk => h.block k (Nat.lt_of_lt_of_le hk C.below.size)⟩, C.x0, fun l cs hl => ?_, fun r v R hr => ?_, C.sepLL, C.sepLR, C.sepRR⟩
  · obtain ⟨h1, vs, t, h2, h3⟩ := C.loc l cs hl
    exact ⟨h1, vs, t, by rw [h.block _ (Array.getElem?_eq_some_iff.1 h2).1]; exact h2, h3.imp fun _ _ hh => g.crel hx hh⟩
  · refine (C.row r v R hr).grow g hx fun b hb => h.block b ?_
    exact (C.own_ge (.inr ⟨r, v, R, hr, hb⟩)).2
end
end Go.Fx

namespace Go.Fx
open Go.RowKit
set_option linter.unusedVariables false

def lget {β : Type _} : List (Nat × β) → Nat → Option β
  | [], _ => none
  | (k, v) :: t, l => match Nat.beq k l with
    | true => some v
    | false => lget t l

theorem beq_ne {k l : Nat} (h : k ≠ l) : Nat.beq k l = false := by
  cases hb : Nat.beq k l with
  | false => rfl
  | true => exact absurd (Nat.eq_of_beq_eq_true hb) h
theorem ne_of_beq {k l : Nat} (h : (!(Nat.beq k l)) = true) : k ≠ l := by
  rintro rfl
  simp at h

theorem lget_cons {β : Type _} (k : Nat) (v : β) (t : List (Nat × β)) (l : Nat) : lget ((k, v) :: t) l = if k = l then some v else lget t l := by
  show (match Nat.beq k l with | true => some v | false => lget t l) = _
  by_cases h : k = l
  · subst h; simp
  · rw [if_neg h]
    rw [beq_ne h]

theorem lget_mem {β : Type _} : ∀ {t : List (Nat × β)} {l : Nat} {v : β}, lget t l = some v → (l, v) ∈ t
  | [], l, v, h => by simp [lget] at h
  | (k, u) :: t, l, v, h => by
    rw [lget_cons] at h
    split at h
    · rename_i e; subst e; cases h; exact List.mem_cons_self
    · exact List.mem_cons_of_mem _ (lget_mem h)

inductive NObj : Type 1
  | no
  | loc (l : Nat) (cs : List Cell)
  | rows (L : List (Nat × Row))

def Mem.add (F : Mem) : NObj → Mem
  | .no => F
  | .loc l cs => { F with loc := fun x => if l = x then some cs else F.loc x }
  | .rows L => { F with row := fun r => match lget L r with
    | some R => some (0, R)
    | none => F.row r }

/-- None of the new ones is there already. -/
def Fresh (F : Mem) : NObj → Prop
  | .no => True
  | .loc l _ => F.loc l = none
  | .rows L => ∀ r R, lget L r = some R → F.row r = none

section
variable {w0 w w1 : World} {X0 : Nat → Prop} {F : Mem} {m : Map}

def Map.setL (m : Map) (l b : Nat) : Map := { m with lb := fun x => if l = x then b else m.lb x }
def Map.setR (m : Map) (r : Nat) (v : Value) : Map := { m with rv := fun x => if r = x then v else m.rv x }

theorem heap_alloc (w : World) (o : Obj) : (w.alloc o).heap[w.heap.size]? = some o := by
  show (w.heap.push o)[w.heap.size]? = _
  simp

def Map.addRows (m : Map) (L : List (Nat × Row)) (vo : Nat → Value) : Map := { m with rv := fun r => match lget L r with
  | some _ => vo r
  | none => m.rv r }

/-- A new boxed variable. -/
theorem core_newLoc (C : Core w0 X0 F m w) (l : Nat) (cs : List Cell) (vs : List Value) (t : TypeId) (hl : F.loc l = none) (hcs : All2 (CRel w (Bad X0 F m) F m) cs vs) :
    Core w0 X0 (F.add (.loc l cs)) (m.setL l w.heap.size) (w.alloc (.cells vs.toArray t)) ∧ Grow F m w (F.add (.loc l cs)) (m.setL l w.heap.size) (w.alloc (.cells vs.toArray t)) := by
  have hold : ∀ b, b < w.heap.size → (w.alloc (.cells vs.toArray t)).heap[b]? = w.heap[b]? := fun b hb => Below.heap_alloc _ _ _ hb
  have hbl : Below w.heap.size w (w.alloc (.cells vs.toArray t)) := (Below.refl _ _).alloc (Nat.le_refl _) _
  have hown : ∀ b, Own (F.add (.loc l cs)) (m.setL l w.heap.size) b → Own F m b ∨ b = w.heap.size := by
    rintro b (⟨x, c, hx, rfl⟩ | ⟨r, v, R, hr, hb⟩)
    · by_cases e : l = x
      · subst e; right; simp [Map.setL]
      · left; left
        refine ⟨x, c, by simpa [Mem.add, e] using hx, by simp [Map.setL, e]⟩
    · exact .inl (.inr ⟨r, v, R, hr, hb⟩)
  have hlF : ∀ x c, F.loc x = some c → l ≠ x := fun x c hx e => by subst e; rw [hl] at hx; cases hx
  have g : Grow F m w (F.add (.loc l cs)) (m.setL l w.heap.size) (w.alloc (.cells vs.toArray t)) := by
    refine ⟨by simp, fun b hb _ => hold b hb, fun b hb => ?_, fun x c hx => ?_, fun r v R hr => ⟨v, R, hr, Nat.le_refl _, fun _ => ⟨rfl, rfl⟩⟩⟩
    · rcases hown b hb with h | h
      · exact .inl h
      · exact .inr (by omega)
    · have e := hlF x c hx
      exact ⟨⟨c, by simp [Mem.add, e, hx]⟩, by simp [Map.setL, e]⟩
  have hx := C.xlt
  refine ⟨⟨C.below.alloc C.below.size _, C.x0, fun x c hxc => ?_, fun r v R hr => ?_, fun x y c c' h1 h2 he => ?_, fun x c r v R h1 h2 => ?_, C.sepRR⟩, g⟩
  · by_cases e : l = x
    · subst e
      have : cs = c := by simpa [Mem.add] using hxc
      subst this
      refine ⟨by simpa [Map.setL] using C.below.size, vs.toArray, t, by simpa [Map.setL] using heap_alloc w _, ?_⟩
      simpa using hcs.imp fun _ _ hh => g.crel hx hh
    · have hxc' : F.loc x = some c := by simpa [Mem.add, e] using hxc
      obtain ⟨h1, vs', t', h2, h3⟩ := C.loc x c hxc'
      refine ⟨by simpa [Map.setL, e] using h1, vs', t', ?_, h3.imp fun _ _ hh => g.crel hx hh⟩
      simp only [Map.setL, e, if_false]
      rw [hold _ (Array.getElem?_eq_some_iff.1 h2).1]; exact h2
  · refine (C.row r v R hr).grow g hx fun b hb => hold b ?_
    exact (C.own_ge (.inr ⟨r, v, R, hr, hb⟩)).2
  · by_cases e : l = x
    · by_cases e' : l = y
      · exact e.symm.trans e'
      · exfalso
        have h2' : F.loc y = some c' := by simpa [Mem.add, e'] using h2
        obtain ⟨_, vs', t', h3, _⟩ := C.loc y c' h2'
        have := (Array.getElem?_eq_some_iff.1 h3).1
        simp [Map.setL, e] at he
        subst e
        simp [e'] at he
        omega
    · have h1' : F.loc x = some c := by simpa [Mem.add, e] using h1
      by_cases e' : l = y
      · exfalso
        obtain ⟨_, vs', t', h3, _⟩ := C.loc x c h1'
        have := (Array.getElem?_eq_some_iff.1 h3).1
        simp [Map.setL, e'] at he
        omega
      · exact C.sepLL x y c c' h1' (by simpa [Mem.add, e'] using h2) (by simpa [Map.setL, e, e'] using he)
  · by_cases e : l = x
    · subst e
      intro hb
      have := (C.own_ge (.inr ⟨r, v, R, h2, hb⟩)).2
      simp [Map.setL] at this
    · simpa [Map.setL, e] using C.sepLR x c r v R (by simpa [Mem.add, e] using h1) h2

/-- New rows (what a call has handed back, what make, a literal or an append has made). -/
theorem core_newRows (C : Core w0 X0 F m w) (hw : Below w.heap.size w w1) (L : List (Nat × Row)) (vo : Nat → Value) (hf : ∀ r R, lget L r = some R → F.row r = none)
    (hr : ∀ r R, lget L r = some R → RowRel w1 (fun b => Bad X0 F m b ∨ ∃ r' R', lget L r' = some R' ∧ (vo r').ownBlock = some b) w.heap.size R (vo r))
    (hs : ∀ r r' R R' b, lget L r = some R → lget L r' = some R' → (vo r).ownBlock = some b → (vo r').ownBlock = some b → r = r') :
    Core w0 X0 (F.add (.rows L)) (m.addRows L vo) w1 ∧
    Grow F m w (F.add (.rows L)) (m.addRows L vo) w1 := by
  obtain ⟨m', hm'⟩ : ∃ m' : Map, m' = (m.addRows L vo) := ⟨_, rfl⟩
  rw [← hm']
  have hlb : m'.lb = m.lb := by rw [hm']; rfl
  have hrvN : ∀ r R, lget L r = some R → m'.rv r = vo r := fun r R h => by rw [hm']; simp [Map.addRows, h]
  have hrvO : ∀ r, lget L r = none → m'.rv r = m.rv r := fun r h => by rw [hm']; simp [Map.addRows, h]
  have hrowN : ∀ r R, lget L r = some R → (F.add (.rows L)).row r = some (0, R) := fun r R h => by simp [Mem.add, h]
  have hrowO : ∀ r, lget L r = none → (F.add (.rows L)).row r = F.row r := fun r h => by simp [Mem.add, h]
  have hge : ∀ r R b, lget L r = some R → (vo r).ownBlock = some b → w.heap.size ≤ b ∧ b < w1.heap.size := by
    intro r R b h hb
    rcases hr r R h with ⟨he, _⟩ | ⟨g, o, c, cur, he, hg, hh, _⟩
    · rw [he] at hb; simp [Value.ownBlock] at hb
    · rw [he] at hb
      simp [Value.ownBlock] at hb
      subst hb
      exact ⟨hg, (Array.getElem?_eq_some_iff.1 hh).1⟩
  have hown : ∀ b, Own (F.add (.rows L)) m' b → Own F m b ∨ ∃ r R, lget L r = some R ∧ (vo r).ownBlock = some b := by
    rintro b (⟨x, c, hx, rfl⟩ | ⟨r, v, R, hrr, hb⟩)
    · exact .inl (.inl ⟨x, c, hx, by rw [hlb]⟩)
    · cases h : lget L r with
      | none => exact .inl (.inr ⟨r, v, R, by rw [← hrowO r h]; exact hrr, by rw [← hrvO r h]; exact hb⟩)
      | some R' => exact .inr ⟨r, R', h, by rw [← hrvN r R' h]; exact hb⟩
  have g : Grow F m w (F.add (.rows L)) m' w1 := by
    refine ⟨hw.size, fun b hb _ => hw.block b hb, fun b hb => ?_, fun x c hx => ⟨⟨c, hx⟩, by rw [hlb]⟩, fun r v R hrr => ?_⟩
    · rcases hown b hb with h | ⟨r, R, h, hb'⟩
      · exact .inl h
      · exact .inr (hge r R b h hb').1
    · have h : lget L r = none := by
        cases h : lget L r with
        | none => rfl
        | some R' => rw [hf r R' h] at hrr; cases hrr
      exact ⟨v, R, by rw [hrowO r h]; exact hrr, Nat.le_refl _, fun _ => ⟨hrvO r h, rfl⟩⟩
  have hx := C.xlt
  refine ⟨⟨?_, C.x0, fun x c hxc => ?_, fun r v R hrr => ?_, fun x y c c' h1 h2 he => ?_, fun x c r v R h1 h2 => ?_, fun r r' v v' R R' b h1 h2 hb hb' => ?_⟩, g⟩
  · exact C.below.trans ⟨hw.os, hw.tape, hw.output, hw.size, fun k hk => hw.block k (Nat.lt_of_lt_of_le hk C.below.size)⟩
  · obtain ⟨h1, vs', t', h2, h3⟩ := C.loc x c hxc
    refine ⟨by rw [hlb]; exact h1, vs', t', ?_, h3.imp fun _ _ hh => g.crel hx hh⟩
    rw [hlb, hw.block _ (Array.getElem?_eq_some_iff.1 h2).1]; exact h2
  · cases h : lget L r with
    | none =>
      rw [hrowO r h] at hrr
      rw [hrvO r h]
      refine (C.row r v R hrr).grow g hx fun b hb => hw.block b ?_
      exact (C.own_ge (.inr ⟨r, v, R, hrr, hb⟩)).2
    | some R' =>
      rw [hrowN r R' h] at hrr
      obtain ⟨rfl, rfl⟩ : 0 = v ∧ R' = R := by simpa using hrr
      rw [hrvN r R' h]
      rcases hr r R' h with hn | ⟨g0, o, c, cur, he, h1, h2, h3, h4, h5, h6⟩
      · exact .inl hn
      · refine .inr ⟨g0, o, c, cur, he, Nat.le_trans C.below.size h1, h2, h3, h4, h5, fun j x hj i hi => ?_⟩
        obtain ⟨u, hu, hru⟩ := h6 j x hj i hi
        refine ⟨u, hu, hru.sub fun b hb => ?_⟩
        rcases hb with hb | hb
        · exact .inl (.inl hb)
        · rcases hown b hb with hb | ⟨r', R2, h', hb'⟩
          · exact .inl (.inr hb)
          · exact .inr ⟨r', R2, h', hb'⟩
  · rw [hlb] at he
    exact C.sepLL x y c c' h1 h2 he
  · rw [hlb]
    cases h : lget L r with
    | none =>
      rw [hrvO r h]
      exact C.sepLR x c r v R h1 (by rw [← hrowO r h]; exact h2)
    | some R' =>
      rw [hrvN r R' h]
      intro hb
      have h3 := hge r R' _ h hb
      have h4 := (C.own_ge (.inl ⟨x, c, h1, rfl⟩)).2
      omega
  · cases h : lget L r with
    | none =>
      rw [hrvO r h] at hb
      rw [hrowO r h] at h1
      have h3 := (C.own_ge (.inr ⟨r, v, R, h1, hb⟩)).2
      cases h' : lget L r' with
      | none =>
        rw [hrvO r' h'] at hb'
        rw [hrowO r' h'] at h2
        exact C.sepRR r r' v v' R R' b h1 h2 hb hb'
      | some R2 =>
        rw [hrvN r' R2 h'] at hb'
        have := (hge r' R2 b h' hb').1
        omega
    | some R1 =>
      rw [hrvN r R1 h] at hb
      have h3 := (hge r R1 b h hb).1
      cases h' : lget L r' with
      | none =>
        rw [hrvO r' h'] at hb'
        rw [hrowO r' h'] at h2
        have h4 := (C.own_ge (.inr ⟨r', v', R', h2, hb'⟩)).2
        omega
      | some R2 =>
        rw [hrvN r' R2 h'] at hb'
        exact hs r r' R1 R2 b h h' hb hb'

def Mem.setLoc (F : Mem) (l : Nat) (cs : List Cell) : Mem := { F with loc := fun x => if l = x then some cs else F.loc x }
def Mem.setRow (F : Mem) (r ver : Nat) (R : Row) : Mem := { F with row := fun x => if r = x then some (ver, R) else F.row x }
def Mem.delRow (F : Mem) (r : Nat) : Mem := { F with row := fun x => if r = x then none else F.row x }

/-- A boxed variable is written. -/
theorem core_setLoc (C : Core w0 X0 F m w) (l : Nat) (cs cs1 : List Cell) (hl : F.loc l = some cs) (vs1 : Array Value) (t : TypeId)
    (hh : w1.heap[m.lb l]? = some (.cells vs1 t (0, 0))) (hcs : All2 (CRel w (Bad X0 F m) F m) cs1 vs1.toList)
    (hsz : w1.heap.size = w.heap.size) (hrest : ∀ b, b ≠ m.lb l → w1.heap[b]? = w.heap[b]?) (hos : w1.os = w.os ∧ w1.tape = w.tape ∧ w1.output = w.output) :
    Core w0 X0 (F.setLoc l cs1) m w1 ∧ Grow F m w (F.setLoc l cs1) m w1 := by
  have hset : ∀ x c, (F.setLoc l cs1).loc x = some c → ∃ c', F.loc x = some c' := by
    intro x c h
    by_cases e : l = x
    · subst e; exact ⟨cs, hl⟩
    · exact ⟨c, by simpa [Mem.setLoc, e] using h⟩
  have hown : ∀ b, Own (F.setLoc l cs1) m b → Own F m b := by
    rintro b (⟨x, c, hx, rfl⟩ | h)
    · obtain ⟨c', h'⟩ := hset x c hx
      exact .inl ⟨x, c', h', rfl⟩
    · exact .inr h
  have g : Grow F m w (F.setLoc l cs1) m w1 := by
    refine ⟨by omega, fun b hb hn => hrest b fun e => hn (.inl ⟨l, cs, hl, e.symm⟩), fun b hb => .inl (hown b hb), fun x c hx => ⟨?_, rfl⟩, fun r v R hr => ⟨v, R, hr, Nat.le_refl _, fun _ => ⟨rfl, rfl⟩⟩⟩
    by_cases e : l = x
    · exact ⟨cs1, by simp [Mem.setLoc, e]⟩
    · exact ⟨c, by simp [Mem.setLoc, e, hx]⟩
  have hx := C.xlt
  have hge := (C.loc l cs hl).1
  refine ⟨⟨?_, C.x0, fun x c hxc => ?_, fun r v R hr => ?_, fun x y c c' h1 h2 he => ?_, fun x c r v R h1 h2 => ?_, C.sepRR⟩, g⟩
  · refine C.below.trans ⟨hos.1, hos.2.1, hos.2.2, by omega, fun k hk => hrest k (by omega)⟩
  · by_cases e : l = x
    · subst e
      have : cs1 = c := by simpa [Mem.setLoc] using hxc
      subst this
      exact ⟨hge, vs1, t, hh, hcs.imp fun _ _ h => g.crel hx h⟩
    · have hxc' : F.loc x = some c := by simpa [Mem.setLoc, e] using hxc
      obtain ⟨h1, vs', t', h2, h3⟩ := C.loc x c hxc'
      refine ⟨h1, vs', t', ?_, h3.imp fun _ _ h => g.crel hx h⟩
      rw [hrest _ fun e' => e (C.sepLL x l c cs hxc' hl e').symm]; exact h2
  · refine (C.row r v R hr).grow g hx fun b hb => hrest b fun e => ?_
    exact C.sepLR l cs r v R hl hr (by rw [hb, e])
  · obtain ⟨a, ha⟩ := hset x c h1
    obtain ⟨b, hb⟩ := hset y c' h2
    exact C.sepLL x y a b ha hb he
  · obtain ⟨a, ha⟩ := hset x c h1
    exact C.sepLR x a r v R ha h2

/-- A row is written, or goes on in a new block. -/
theorem core_setRow (C : Core w0 X0 F m w) (r ver ver1 : Nat) (R R1 : Row) (v1 : Value) (hr : F.row r = some (ver, R)) (hv : ver < ver1 ∨ (ver = ver1 ∧ v1 = m.rv r ∧ R1.k = R.k))
    (hsz : w.heap.size ≤ w1.heap.size) (hrest : ∀ b, b < w.heap.size → (m.rv r).ownBlock ≠ some b → w1.heap[b]? = w.heap[b]?) (hos : w1.os = w.os ∧ w1.tape = w.tape ∧ w1.output = w.output)
    (hb1 : ∀ b, v1.ownBlock = some b → (m.rv r).ownBlock = some b ∨ w.heap.size ≤ b)
    (hR : RowRel w1 (fun b => Bad X0 F m b ∨ v1.ownBlock = some b) w0.heap.size R1 v1) :
    Core w0 X0 (F.setRow r ver1 R1) (m.setR r v1) w1 ∧ Grow F m w (F.setRow r ver1 R1) (m.setR r v1) w1 := by
  have hown : ∀ b, Own (F.setRow r ver1 R1) (m.setR r v1) b → Own F m b ∨ v1.ownBlock = some b := by
    rintro b (⟨x, c, hx, rfl⟩ | ⟨x, v, R', hx, hb⟩)
    · exact .inl (.inl ⟨x, c, hx, rfl⟩)
    · by_cases e : r = x
      · subst e; exact .inr (by simpa [Map.setR] using hb)
      · exact .inl (.inr ⟨x, v, R', by simpa [Mem.setRow, e] using hx, by simpa [Map.setR, e] using hb⟩)
  have g : Grow F m w (F.setRow r ver1 R1) (m.setR r v1) w1 := by
    refine ⟨hsz, fun b hb hn => hrest b hb fun e => hn (.inr ⟨r, ver, R, hr, e⟩), fun b hb => ?_, fun x c hx => ⟨⟨c, hx⟩, rfl⟩, fun x v R' hx => ?_⟩
    · rcases hown b hb with h | h
      · exact .inl h
      · rcases hb1 b h with h | h
        · exact .inl (.inr ⟨r, ver, R, hr, h⟩)
        · exact .inr h
    · by_cases e : r = x
      · subst e
        obtain ⟨rfl, rfl⟩ : ver = v ∧ R = R' := by rw [hr] at hx; simpa using hx
        refine ⟨ver1, R1, by simp [Mem.setRow], by omega, fun e => ?_⟩
        rcases hv with h | ⟨_, h1, h2⟩
        · omega
        · exact ⟨by simp [Map.setR, h1], h2⟩
      · exact ⟨v, R', by simp [Mem.setRow, e, hx], Nat.le_refl _, fun _ => ⟨by simp [Map.setR, e], rfl⟩⟩
  have hx := C.xlt
  have hge : ∀ b, (m.rv r).ownBlock = some b → w0.heap.size ≤ b := fun b hb => (C.own_ge (.inr ⟨r, ver, R, hr, hb⟩)).1
  refine ⟨⟨?_, C.x0, fun x c hxc => ?_, fun x v R' hx' => ?_, C.sepLL, fun x c y v R' h1 h2 => ?_, fun x y v v' R' R2 b h1 h2 hb hb' => ?_⟩, g⟩
  · refine C.below.trans ⟨hos.1, hos.2.1, hos.2.2, hsz, fun k hk => hrest k (Nat.lt_of_lt_of_le hk C.below.size) fun e => ?_⟩
    have := hge k e
    omega
  · obtain ⟨h1, vs', t', h2, h3⟩ := C.loc x c hxc
    refine ⟨h1, vs', t', ?_, h3.imp fun _ _ h => g.crel hx h⟩
    rw [show (m.setR r v1).lb x = m.lb x from rfl, hrest _ (Array.getElem?_eq_some_iff.1 h2).1 (C.sepLR x c r ver R hxc hr)]; exact h2
  · by_cases e : r = x
    · subst e
      obtain ⟨rfl, rfl⟩ : ver1 = v ∧ R1 = R' := by simpa [Mem.setRow] using hx'
      rw [show (m.setR r v1).rv r = v1 by simp [Map.setR]]
      rcases hR with h | ⟨g0, o, c, cur, he, h1, h2, h3, h4, h5, h6⟩
      · exact .inl h
      · refine .inr ⟨g0, o, c, cur, he, h1, h2, h3, h4, h5, fun j x hj i hi => ?_⟩
        obtain ⟨u, hu, hru⟩ := h6 j x hj i hi
        refine ⟨u, hu, hru.sub fun b hb => ?_⟩
        rcases hb with hb | hb
        · exact .inl (.inl hb)
        · rcases hown b hb with hb | hb
          · exact .inl (.inr hb)
          · exact .inr hb
    · have hx2 : F.row x = some (v, R') := by simpa [Mem.setRow, e] using hx'
      rw [show (m.setR r v1).rv x = m.rv x by simp [Map.setR, e]]
      refine (C.row x v R' hx2).grow g hx fun b hb => hrest b ?_ fun e' => e (C.sepRR r x ver v R R' b hr hx2 e' hb)
      exact (C.own_ge (.inr ⟨x, v, R', hx2, hb⟩)).2
  · by_cases e : r = y
    · subst e
      rw [show (m.setR r v1).rv r = v1 by simp [Map.setR]]
      intro hb
      rcases hb1 _ hb with h | h
      · exact C.sepLR x c r ver R h1 hr h
      · have := (C.own_ge (.inl ⟨x, c, h1, rfl⟩)).2
        have e2 : (m.setR r v1).lb x = m.lb x := rfl
        omega
    · rw [show (m.setR r v1).rv y = m.rv y by simp [Map.setR, e]]
      exact C.sepLR x c y v R' h1 (by simpa [Mem.setRow, e] using h2)
  · by_cases e : r = x
    · subst e
      by_cases e' : r = y
      · exact e'
      · exfalso
        have h2' : F.row y = some (v', R2) := by simpa [Mem.setRow, e'] using h2
        rw [show (m.setR r v1).rv r = v1 by simp [Map.setR]] at hb
        rw [show (m.setR r v1).rv y = m.rv y by simp [Map.setR, e']] at hb'
        rcases hb1 b hb with h | h
        · exact e' (C.sepRR r y ver v' R R2 b hr h2' h hb')
        · have := (C.own_ge (.inr ⟨y, v', R2, h2', hb'⟩)).2
          omega
    · have h1' : F.row x = some (v, R') := by simpa [Mem.setRow, e] using h1
      rw [show (m.setR r v1).rv x = m.rv x by simp [Map.setR, e]] at hb
      by_cases e' : r = y
      · exfalso
        subst e'
        rw [show (m.setR r v1).rv r = v1 by simp [Map.setR]] at hb'
        rcases hb1 b hb' with h | h
        · exact e (C.sepRR r x ver v R R' b hr h1' h hb)
        · have := (C.own_ge (.inr ⟨x, v, R', h1', hb⟩)).2
          omega
      · exact C.sepRR x y v v' R' R2 b h1' (by simpa [Mem.setRow, e'] using h2) hb (by simpa [Map.setR, e'] using hb')

/-- A row that is given up reads as a slice. -/
theorem core_delRow (C : Core w0 X0 F m w) (r : Nat) : Core w0 X0 (F.delRow r) m w → True := fun _ => trivial

def Cell.not (r : Nat) : Cell → Bool
  | .own r' _ | .optr r' _ _ _ => !(Nat.beq r r')
  | _ => true

theorem own_del {r b : Nat} (h : Own (F.delRow r) m b) : Own F m b := by
  rcases h with h | ⟨x, v, R, hx, hb⟩
  · exact .inl h
  · by_cases e : r = x
    · simp [Mem.delRow, e] at hx
    · exact .inr ⟨x, v, R, by simpa [Mem.delRow, e] using hx, hb⟩

theorem bad_del {r b : Nat} (h : Bad X0 (F.delRow r) m b) : Bad X0 F m b := h.imp id own_del

theorem crel_del {r : Nat} {x : Cell} {v : Value} (hx : x.not r = true) (h : CRel w (Bad X0 F m) F m x v) : CRel w (Bad X0 (F.delRow r) m) (F.delRow r) m x v := by
  cases x with
  | any => trivial
  | c x => exact Rep.sub (fun _ => bad_del) h
  | lptr l off => exact h
  | clo f ls => exact h
  | own r' ver =>
    have e : r ≠ r' := ne_of_beq hx
    obtain ⟨ver', R, hr, rest⟩ := h
    exact ⟨ver', R, by simp [Mem.delRow, e, hr], rest⟩
  | optr r' ver i off =>
    have e : r ≠ r' := ne_of_beq hx
    obtain ⟨ver', R, hr, rest⟩ := h
    exact ⟨ver', R, by simp [Mem.delRow, e, hr], rest⟩

theorem core_del (C : Core w0 X0 F m w) (r : Nat) (hn : ∀ l cs, F.loc l = some cs → ∀ x ∈ cs, x.not r = true) : Core w0 X0 (F.delRow r) m w := by
  have hrow : ∀ x v R, (F.delRow r).row x = some (v, R) → F.row x = some (v, R) := by
    intro x v R h
    by_cases e : r = x
    · simp [Mem.delRow, e] at h
    · simpa [Mem.delRow, e] using h
  refine ⟨C.below, C.x0, fun l cs hl => ?_, fun x v R hx => ?_, C.sepLL, fun l cs x v R h1 h2 => C.sepLR l cs x v R h1 (hrow _ _ _ h2), fun x y v v' R R' b h1 h2 => C.sepRR x y v v' R R' b (hrow _ _ _ h1) (hrow _ _ _ h2)⟩
  · obtain ⟨h1, vs, t, h2, h3⟩ := C.loc l cs hl
    refine ⟨h1, vs, t, h2, ?_⟩
    have hn' := hn l cs hl
    clear h2
    generalize vs.toList = vl at h3
    clear hl
    induction cs generalizing vl with
    | nil => cases vl with
      | nil => trivial
      | cons => exact h3.elim
    | cons x cs ih => cases vl with
      | nil => exact h3.elim
      | cons y vl => exact ⟨crel_del (hn' x List.mem_cons_self) h3.1, ih (fun z hz => hn' z (List.mem_cons_of_mem _ hz)) vl h3.2⟩
  · rcases C.row x v R (hrow _ _ _ hx) with h | ⟨g0, o, c, cur, he, h1, h2, h3, h4, h5, h6⟩
    · exact .inl h
    · refine .inr ⟨g0, o, c, cur, he, h1, h2, h3, h4, h5, fun j x hj i hi => ?_⟩
      obtain ⟨u, hu, hru⟩ := h6 j x hj i hi
      exact ⟨u, hu, hru.sub fun _ => bad_del⟩

theorem row_rep {X : Nat → Prop} {base : Nat} {R : Row} {v : Value} (h : RowRel w X base R v) (X' : Nat → Prop) (hX : ∀ b, X' b → X b ∧ v.ownBlock ≠ some b) :
    Rep w X' (.sl R.α R.k R.cell R.xs) v := by
  rcases h with ⟨rfl, h0⟩ | ⟨g0, o, c, cur, rfl, h1, h2, h3, h4, h5, h6⟩
  · rw [h0]
    exact ⟨none, 0, rfl, Nat.le_refl _, by simp, fun h => absurd rfl h⟩
  · refine ⟨_, c, rfl, h3, Nat.le_trans h3 h4, fun _ => ⟨g0, o, rfl, fun hb => (hX g0 hb).2 (by simp [Value.ownBlock]), (Array.getElem?_eq_some_iff.1 h2).1, fun j x hj i hi => ?_⟩⟩
    obtain ⟨u, hu, hru⟩ := h6 j x hj i hi
    refine ⟨u, ?_, hru.sub fun b hb => (hX b hb).1⟩
    rw [cell_of_row w g0 _ cur R.e (0, 0) h2]; exact hu

/-- The row r itself, given up. -/
theorem rep_del (C : Core w0 X0 F m w) {r ver : Nat} {R : Row} (hr : F.row r = some (ver, R)) : Rep w (Bad X0 (F.delRow r) m) (.sl R.α R.k R.cell R.xs) (m.rv r) := by
  refine row_rep (C.row r ver R hr) _ fun b hb => ⟨bad_del hb, fun e => ?_⟩
  rcases hb with hb | hb
  · have h1 := C.x0 b hb
    have h2 := (C.own_ge (.inr ⟨r, ver, R, hr, e⟩)).1
    omega
  · rcases hb with ⟨l, cs, hl, rfl⟩ | ⟨x, v, R', hx, hb⟩
    · exact C.sepLR l cs r ver R hl hr e
    · by_cases e' : r = x
      · simp [Mem.delRow, e'] at hx
      · exact e' (C.sepRR r x ver v R R' b hr (by simpa [Mem.delRow, e'] using hx) e hb)
end
end Go.Fx

namespace Go.Fx
open Go.RowKit
set_option linter.unusedVariables false

/-! ### Types -/
inductive Ty
  | int (k : IntKind)
  | bool
  | str
  | fn
  | sl (e k bytes : Nat) (z : List Value)
  | st (fs : List (Nat × Nat)) (z : List Value)
  | ar (n e ek : Nat) (z : List Value)
  | no

def Ty.zero : Ty → List Value
  | .int k => [.int k 0]
  | .bool => [.bool false]
  | .str => [.string ⟨#[]⟩]
  | .fn => [.nilFunc]
  | .sl .. => [.slice none 0 0]
  | .st _ z => z
  | .ar _ _ _ z => z
  | .no => []
def Ty.agg : Ty → Bool
  | .st .. | .ar .. => true
  | _ => false
def Ty.size (t : Ty) : Nat := t.zero.length

def zval (T : Ty) : Value := match T.agg with
  | true => .agg T.zero.toArray
  | false => T.zero.getD 0 .nilFunc

def TyOk (P : Program) (t : TypeId) (T : Ty) : Prop := T = .no ∨
  ((P.info? t).map (fun i => (i.zero, i.size)) = some (some (zval T), T.size) ∧
   (match T with
    | .int k => P.underlying t = some (.int k)
    | .bool => P.underlying t = some .bool
    | .str => P.underlying t = some .string
    | .fn => ∃ a b c, P.underlying t = some (.func a b c)
    | .sl e k bytes z => P.underlying t = some (.slice e) ∧ (P.info? e).map (fun i => (i.zero.map Value.cells, i.size, i.bytes)) = some (some z.toArray, k, bytes) ∧ z.length = k
    | .st fs z => ∃ fl : Array Field, P.underlying t = some (.struct fl) ∧ fl.toList.map (fun f => (f.type, f.offset)) = fs ∧ (fs.all fun f => ((P.info? f.1).map (·.size)).any (· != 0)) = true
    | .ar n e ek z => P.underlying t = some (.array n e) ∧ (P.info? e).map (·.size) = some ek
    | .no => True))

def TyAll (P : Program) (T : TypeId → Ty) : Prop := ∀ t, TyOk P t (T t)

/-! ### Constants, operands, tests -/
def cOf : Value → Cell
  | .int k n => .c (.int k n)
  | .bool b => .c (.bool b)
  | .string s => .c (.str s)
  | .slice none 0 0 => .c .nil
  | _ => .any

theorem crel_cOf (w : World) (X : Nat → Prop) (F : Mem) (m : Map) (v : Value) : CRel w X F m (cOf v) v := by
  unfold cOf
  split <;> first | trivial | rfl

/-- A test: decided by sight, or both ways. -/
def acond (t : Bool) (A B : Prop) : Prop := match t with
  | true => A
  | false => B
theorem acond_split {t : Bool} {A B : Prop} (h1 : t = true → A) (h2 : t = false → B) : acond t A B := by
  cases t
  · exact h2 rfl
  · exact h1 rfl

abbrev Look := Nat → Option (List Cell)
abbrev LookR := Nat → Option (Nat × Row)

def pshift (rk : LookR) (o : Nat) : Cell → Option Cell
  | .lptr l off => some (.lptr l (off + o))
  | .optr r v i off => match rk r with
    | some (v', _) => match Nat.beq v v' with
      | true => some (.optr r v i (off + o))
      | false => none
    | none => none
  | .c (.ref k cell) => match Nat.ble o k with
    | true => some (.c (.ref (k - o) fun i => cell (o + i)))
    | false => none
  | _ => none

def refCells (cell : Nat → CVal) : Nat → Nat → List Cell
  | _, 0 => []
  | off, n + 1 => .c (cell off) :: refCells cell (off + 1) n

def qload (T : Ty) (lk : Look) (rk : LookR) (x : AVal) (Φ : AVal → NObj → Prop) : Prop :=
  match x with
  | .p (.one (.lptr l off)) => match lk l with
    | some cs => match T.agg with
      | true => match Nat.ble (off + T.size) cs.length with
        | true => Φ (.p (.agg ((cs.drop off).take T.size))) .no
        | false => False
      | false => match cs[off]? with
        | some c => Φ (.p (.one c)) .no
        | none => False
    | none => False
  | .p (.one (.c (.ref k cell))) => match T.agg with
    | true => match Nat.ble T.size k with
      | true => Φ (.p (.agg (refCells cell 0 T.size))) .no
      | false => False
    | false => match Nat.ble 1 k with
      | true => Φ (.p (.one (.c (cell 0)))) .no
      | false => False
  | .p (.one (.optr r ver i off)) => match rk r with
    | some (ver', R) => match Nat.beq ver ver' with
      | true => ∃ y, R.xs[i]? = some y ∧ (match T.agg with
        | true => match Nat.ble (off + T.size) R.k with
          | true => Φ (.p (.agg (refCells (R.cell y) off T.size))) .no
          | false => False
        | false => match Nat.ble (off + 1) R.k with
          | true => Φ (.p (.one (.c (R.cell y off)))) .no
          | false => False)
      | false => False
    | none => False
  | _ => False

def qidx (T : Ty) (rk : LookR) (x i : AVal) (Φ : AVal → NObj → Prop) : Prop :=
  match T with
  | .sl e k _ _ => match x with
    | .p (.one (.c (.sl _ k' cell xs))) => match i with
      | .p (.one (.c (.int _ n))) => match Nat.beq k k' with
        | true => ∃ y, 0 ≤ n ∧ xs[n.toNat]? = some y ∧ Φ (.c (.ref k (cell y))) .no
        | false => False
      | _ => False
    | .p (.one (.own r ver)) => match i with
      | .p (.one (.c (.int _ n))) => match rk r with
        | some (ver', R) => match Nat.beq ver ver' with
          | true => match Nat.beq k R.k with
            | true => 0 ≤ n ∧ n < R.xs.length ∧ Φ (.p (.one (.optr r ver n.toNat 0))) .no
            | false => False
          | false => False
        | none => False
      | _ => False
    | _ => False
  | .ar n e ek _ => match x with
    | .p (.one x) => match i with
      | .p (.one (.c (.int _ j))) => 0 ≤ j ∧ j < n ∧ (match pshift rk (j.toNat * ek) x with
        | some y => Φ (.p (.one y)) .no
        | none => False)
      | _ => False
    | _ => False
  | _ => False

def qfield (T : Ty) (rk : LookR) (x : AVal) (f : Nat) (Φ : AVal → NObj → Prop) : Prop :=
  match T with
  | .st fs _ => match x with
    | .p (.one x) => match fs[f]? with
      | some (_, off) => match pshift rk off x with
        | some y => Φ (.p (.one y)) .no
        | none => False
      | none => False
    | _ => False
  | _ => False

/-- A field of a struct, an element of an array, by value. -/
def qpart (T : Ty) (l : List Cell) (off : Nat) (Φ : AVal → NObj → Prop) : Prop :=
  match T.agg with
  | true => Φ (.p (.agg ((l.drop off).take T.size))) .no
  | false => match l[off]? with
    | some c => Φ (.p (.one c)) .no
    | none => False

def qfieldv (T : TypeId → Ty) (t : TypeId) (x : AVal) (f : Nat) (Φ : AVal → NObj → Prop) : Prop :=
  match T t with
  | .st fs _ => match x with
    | .p (.agg l) => match fs[f]? with
      | some (ft, off) => match T ft with
        | .no => False
        | u => qpart u l off Φ
      | none => False
    | _ => False
  | _ => False

def qindexv (T : TypeId → Ty) (t : TypeId) (x i : AVal) (Φ : AVal → NObj → Prop) : Prop :=
  match T t with
  | .ar n e ek _ => match x with
    | .p (.agg l) => match i with
      | .p (.one (.c (.int _ j))) => 0 ≤ j ∧ j < n ∧ (match T e with
        | .no => False
        | u => qpart u l (j.toNat * ek) Φ)
      | _ => False
    | _ => False
  | _ => False

def qbin (op : BinOp) (T : Ty) (x y : AVal) (Φ : AVal → NObj → Prop) : Prop :=
  match x with
  | .p (.one (.c (.int k a))) => match y with
    | .p (.one (.c (.int k' b))) => match op with
      | .shl => 0 ≤ b ∧ Φ (.c (.int k (k.wrap (a * 2 ^ (min b.toNat k.bits))))) .no
      | .shr => 0 ≤ b ∧ Φ (.c (.int k (a.fdiv (2 ^ (min b.toNat k.bits))))) .no
      | _ => match decide (k = k') with
        | false => False
        | true => match op with
          | .add => ∃ z, k.wrap (a + b) = z ∧ Φ (.c (.int k z)) .no
          | .sub => ∃ z, k.wrap (a - b) = z ∧ Φ (.c (.int k z)) .no
          | .mul => ∃ z, k.wrap (a * b) = z ∧ Φ (.c (.int k z)) .no
          | .quo => b ≠ 0 ∧ ∃ z, k.wrap (a.tdiv b) = z ∧ Φ (.c (.int k z)) .no
          | .rem => b ≠ 0 ∧ ∃ z, a.tmod b = z ∧ Φ (.c (.int k z)) .no
          | .and => Φ (.c (.int k (k.wrap (BitVec.ofInt k.bits a &&& BitVec.ofInt k.bits b).toNat))) .no
          | .or => Φ (.c (.int k (k.wrap (BitVec.ofInt k.bits a ||| BitVec.ofInt k.bits b).toNat))) .no
          | .eql => Φ (.c (.bool (decide (a = b)))) .no
          | .neq => Φ (.c (.bool (decide (a ≠ b)))) .no
          | .lss => Φ (.c (.bool (decide (a < b)))) .no
          | .leq => Φ (.c (.bool (decide (a ≤ b)))) .no
          | .gtr => Φ (.c (.bool (decide (b < a)))) .no
          | .geq => Φ (.c (.bool (decide (b ≤ a)))) .no
          | _ => False
    | _ => False
  | .p (.one (.c (.bool a))) => match y with
    | .p (.one (.c (.bool b))) => match T with
      | .bool => match op with
        | .eql => Φ (.c (.bool (a == b))) .no
        | .neq => Φ (.c (.bool (!(a == b)))) .no
        | _ => False
      | _ => False
    | _ => False
  | .p (.one (.c (.str a))) => match y with
    | .p (.one (.c (.str b))) => match op with
      | .eql => Φ (.c (.bool (a.toList == b.toList))) .no
      | .neq => Φ (.c (.bool (!(a.toList == b.toList)))) .no
      | _ => False
    | _ => False
  | .p (.one (.c .nil)) => match y with
    | .p (.one (.c .nil)) => match T with
      | .sl .. => match op with
        | .eql => Φ (.c (.bool true)) .no
        | .neq => Φ (.c (.bool false)) .no
        | _ => False
      | _ => False
    | _ => False
  | .p (.one (.c (.sl _ _ _ xs))) => match y with
    | .p (.one (.c .nil)) => match T with
      | .sl .. => xs ≠ [] ∧ (match op with
        | .eql => Φ (.c (.bool false)) .no
        | .neq => Φ (.c (.bool true)) .no
        | _ => False)
      | _ => False
    | _ => False
  | _ => False

def qun (op : UnOp) (x : AVal) (Φ : AVal → NObj → Prop) : Prop :=
  match op with
  | .not => match x with
    | .p (.one (.c (.bool b))) => Φ (.c (.bool (!b))) .no
    | _ => False
  | .neg => match x with
    | .p (.one (.c (.int k n))) => Φ (.c (.int k (k.wrap (0 - n)))) .no
    | _ => False
  | _ => False

def qlen (T : Ty) (rk : LookR) (x : AVal) (Φ : AVal → NObj → Prop) : Prop :=
  match T with
  | .sl .. => match x with
    | .p (.one (.c (.sl _ _ _ xs))) => xs.length ≤ 9223372036854775807 → Φ (.c (i64 xs.length)) .no
    | .p (.one (.c .nil)) => Φ (.c (i64 0)) .no
    | .p (.one (.own r ver)) => match rk r with
      | some (ver', R) => match Nat.beq ver ver' with
        | true => R.xs.length ≤ 9223372036854775807 → Φ (.c (i64 R.xs.length)) .no
        | false => False
      | none => False
    | _ => False
  | .str => match x with
    | .p (.one (.c (.str s))) => Φ (.c (i64 s.size)) .no
    | _ => False
  | _ => False

/-! ### Soundness -/
section
variable {P : Program} {T : TypeId → Ty} {w0 w : World} {X0 : Nat → Prop} {F : Mem} {m : Map} {a : Act} {o : Oper} {Q : Exit → Act → World → Prop} {lk : Look} {rk : LookR} {Φ : AVal → NObj → Prop}

def QPost (w0 : World) (X0 : Nat → Prop) (F : Mem) (m : Map) (w : World) (o : Oper) (a : Act) (Φ : AVal → NObj → Prop) (a' : Act) (w' : World) : Prop :=
  ∃ x n v m', Φ x n ∧ a' = a.put o.dst v ∧ Core w0 X0 (F.add n) m' w' ∧ Grow F m w (F.add n) m' w' ∧ VRel w' (Bad X0 (F.add n) m') (F.add n) m' x v

theorem qpost_val (C : Core w0 X0 F m w) {x : AVal} {v : Value} (hrun : (execOp a.eval o).run P w = .ok (.value v) w) (hv : VRel w (Bad X0 F m) F m x v) (h : Φ x .no) :
    o.wp P a w (QPost w0 X0 F m w o a Φ) Q := by
  unfold Oper.wp
  rw [hrun]
  exact ⟨x, .no, v, m, h, rfl, C, Grow.refl _ _ _, hv⟩

theorem add_mk (b o k : Nat) : (⟨b, o, none⟩ : Addr).add k = ⟨b, o + k, none⟩ := by unfold Addr.add; split <;> simp_all

theorem tyinfo {t : TypeId} (h : TyOk P t (T t)) (hn : T t ≠ .no) : ∃ i, P.info? t = some i ∧ i.zero = some (zval (T t)) ∧ i.size = (T t).size := by
  obtain ⟨i, hi, he⟩ := Option.map_eq_some_iff.1 ((h.resolve_left hn).1)
  simp only [Prod.mk.injEq] at he
  exact ⟨i, hi, he.1, he.2⟩

theorem run_isAgg {t : TypeId} (h : TyOk P t (T t)) (hn : T t ≠ .no) : (isAgg t).run P w = .ok (T t).agg w := by
  have h2 := (h.resolve_left hn).2
  unfold isAgg
  cases hT : T t with
  | no => exact absurd hT hn
  | int k => rw [hT] at h2; simp [run_underlying h2, Ty.agg]
  | bool => rw [hT] at h2; simp [run_underlying h2, Ty.agg]
  | str => rw [hT] at h2; simp [run_underlying h2, Ty.agg]
  | fn => rw [hT] at h2; obtain ⟨x, y, z, h2⟩ := h2; simp [run_underlying h2, Ty.agg]
  | sl => rw [hT] at h2; simp [run_underlying h2.1, Ty.agg]
  | st => rw [hT] at h2; obtain ⟨fl, h2, _⟩ := h2; simp [run_underlying h2, Ty.agg]
  | ar => rw [hT] at h2; simp [run_underlying h2.1, Ty.agg]

/-- A variable is read: its cells are known. -/
theorem run_loadVar_cells {t : TypeId} (h : TyOk P t (T t)) (hn : T t ≠ .no) (b off : Nat) (vs : List Value) (hv : vs.length = (T t).size) (hc : ∀ j v, vs[j]? = some v → w.cell? ⟨b, off + j, none⟩ = some v) :
    (loadVar t ⟨b, off, none⟩).run P w = .ok (match (T t).agg with | true => .agg vs.toArray | false => vs.getD 0 .nilFunc) w := by
  obtain ⟨i, hi, _, hs⟩ := tyinfo h hn
  unfold loadVar
  rw [Sem.run_bind, run_isAgg h hn]
  cases hA : (T t).agg with
  | true =>
    have hl := run_loadCells_list (P := P) w ⟨b, off, none⟩ vs (fun j v hj => by rw [add_mk]; exact hc j v hj)
    simp [sizeOf, typeInfo, hi, hs, ← hv, hl]
  | false =>
    have h1 : (T t).size = 1 := by
      unfold Ty.agg at hA
      cases hT : T t with
      | no => exact absurd hT hn
      | st => simp [hT] at hA
      | ar => simp [hT] at hA
      | _ => rfl
    match vs, hv.trans h1 with
    | [v], _ =>
      have := hc 0 v rfl
      simp only [Nat.add_zero] at this
      simp [this]

theorem refCells_len (cell : Nat → CVal) : ∀ n off, (refCells cell off n).length = n
  | 0, _ => rfl
  | n + 1, off => by simp [refCells, refCells_len cell n]

theorem cells_of_ref {X : Nat → Prop} {b o k : Nat} {cell : Nat → CVal} (h : ∀ i, i < k → ∃ u, w.cell? ⟨b, o + i, none⟩ = some u ∧ Rep w X (cell i) u) :
    ∀ n off, off + n ≤ k → ∃ vs : List Value, vs.length = n ∧ (∀ j v, vs[j]? = some v → w.cell? ⟨b, o + off + j, none⟩ = some v) ∧ All2 (CRel w X F m) (refCells cell off n) vs
  | 0, off, _ => ⟨[], rfl, fun j v h => by simp at h, trivial⟩
  | n + 1, off, hk => by
    obtain ⟨u, hu, hr⟩ := h off (by omega)
    obtain ⟨vs, h1, h2, h3⟩ := cells_of_ref h n (off + 1) (by omega)
    refine ⟨u :: vs, by simp [h1], fun j v hj => ?_, hr, h3⟩
    cases j with
    | zero => simp at hj; subst hj; exact hu
    | succ j => rw [show o + off + (j + 1) = o + (off + 1) + j by omega]; exact h2 j v (by simpa using hj)

theorem all2_drop_take {α : Type _} {β : Type _} {R : α → β → Prop} {l : List α} {k : List β} (h : All2 R l k) (i n : Nat) : All2 R ((l.drop i).take n) ((k.drop i).take n) := (h.drop i).take n

theorem agg_size_ne {t : TypeId} (hA : (T t).agg = false) (hn : T t ≠ .no) : (T t).size = 1 := by
  unfold Ty.agg at hA
  cases hT : T t with
  | no => exact absurd hT hn
  | st => simp [hT] at hA
  | ar => simp [hT] at hA
  | _ => rfl

theorem sound_load (hT : TyAll P T) (C : Core w0 X0 F m w) (hl : ∀ l cs, F.loc l = some cs → lk l = some cs) (hr : ∀ r p, F.row r = some p → rk r = some p)
    {t : TypeId} {y : Operand} {x : AVal} (ho : o.op = .load t y) (hn : T t ≠ .no) (hx : VRel w (Bad X0 F m) F m x (a.eval y)) (h : qload (T t) lk rk x Φ) :
    o.wp P a w (QPost w0 X0 F m w o a Φ) Q := by
  have hrun : ∀ b off, a.eval y = .pointer (some ⟨b, off, none⟩) → ∀ vs : List Value, vs.length = (T t).size → (∀ j v, vs[j]? = some v → w.cell? ⟨b, off + j, none⟩ = some v) →
      (execOp a.eval o).run P w = .ok (.value (match (T t).agg with | true => .agg vs.toArray | false => vs.getD 0 .nilFunc)) w := by
    intro b off he vs hv hc
    simp [execOp, ho, Instr.loadAt, he, Instr.sureAddr, run_loadVar_cells (hT t) hn b off vs hv hc]
  unfold qload at h
  split at h
  · rename_i l off
    obtain ⟨⟨cs, hcs⟩, he⟩ := hx
    rw [hl l cs hcs] at h
    obtain ⟨_, vs, tt, hh, hall⟩ := C.loc l cs hcs
    have hcell : ∀ j v, vs[j]? = some v → w.cell? ⟨m.lb l, j, none⟩ = some v := fun j v hj => by rw [cell_of_row w _ j vs tt (0, 0) hh]; exact hj
    simp only at h
    cases hA : (T t).agg with
    | true =>
      simp only [hA] at h
      split at h
      · rename_i hle
        have hle := Nat.le_of_ble_eq_true hle
        have hlen := hall.length
        refine qpost_val C (hrun _ _ he ((vs.toList.drop off).take (T t).size) (by rw [List.length_take, List.length_drop]; omega) fun j v hj => hcell _ _ ?_) ?_ h
        · rw [List.getElem?_take] at hj
          split at hj
          · rw [List.getElem?_drop] at hj; simpa using hj
          · cases hj
        · simp only [hA]
          exact ⟨_, rfl, all2_drop_take hall _ _⟩
      · exact h.elim
    | false =>
      simp only [hA] at h
      split at h
      · rename_i c hc
        obtain ⟨v, hv, hcr⟩ := hall.get off hc
        refine qpost_val C (hrun _ _ he [v] (by rw [agg_size_ne hA hn]; rfl) fun j u hj => hcell _ _ ?_) ?_ h
        · cases j with
          | zero => simp at hj; subst hj; simpa using hv
          | succ j => simp at hj
        · simp only [hA]; exact hcr
      · exact h.elim
  · rename_i k cell
    obtain ⟨b, off, he, hb, hlt, hc⟩ := hx
    cases hA : (T t).agg with
    | true =>
      simp only [hA] at h
      split at h
      · rename_i hle
        have hle := Nat.le_of_ble_eq_true hle
        obtain ⟨vs, h1, h2, h3⟩ := cells_of_ref (F := F) (m := m) hc (T t).size 0 (by omega)
        refine qpost_val C (hrun _ _ he vs h1 fun j v hj => by simpa using h2 j v hj) ?_ h
        simp only [hA]
        exact ⟨_, rfl, h3⟩
      · exact h.elim
    | false =>
      simp only [hA] at h
      split at h
      · rename_i hle
        have hle := Nat.le_of_ble_eq_true hle
        obtain ⟨u, hu, hru⟩ := hc 0 (by omega)
        refine qpost_val C (hrun _ _ he [u] (by rw [agg_size_ne hA hn]; rfl) fun j v hj => ?_) ?_ h
        · cases j with
          | zero => simp at hj; subst hj; exact hu
          | succ j => simp at hj
        · simp only [hA]; exact hru
      · exact h.elim
  · rename_i r ver i off
    obtain ⟨ver', R, hrow, hle, hv⟩ := hx
    rw [hr r _ hrow] at h
    simp only at h
    split at h
    · rename_i hbeq
      obtain ⟨g, o1, n, c, hrv, he⟩ := hv (Nat.eq_of_beq_eq_true hbeq)
      obtain ⟨y0, hy, h⟩ := h
      have hrow' := C.row r ver' R hrow
      rw [hrv] at hrow'
      rcases hrow' with ⟨h0, _⟩ | ⟨g', o', c', cur, h0, hb, hh, h3, h4, h5, h6⟩
      · cases h0
      injection h0 with h0 h01 h02
      injection h0 with h0
      injection h0 with h0 h03
      subst h0 h03
      have hc : ∀ j, j < R.k → ∃ u, w.cell? ⟨g, (o1 + i * R.k) + j, none⟩ = some u ∧ Rep w (Bad X0 F m) (R.cell y0 j) u := fun j hj => by
        obtain ⟨u, hu, hru⟩ := h6 i y0 hy j hj
        exact ⟨u, by rw [cell_of_row w _ _ cur R.e (0, 0) hh]; exact hu, hru⟩
      cases hA : (T t).agg with
      | true =>
        simp only [hA] at h
        split at h
        · rename_i hle
          have hle := Nat.le_of_ble_eq_true hle
          obtain ⟨vs, h1, h2, h3⟩ := cells_of_ref (F := F) (m := m) hc (T t).size off hle
          refine qpost_val C (hrun _ _ he vs h1 h2) ?_ h
          simp only [hA]
          exact ⟨_, rfl, h3⟩
        · exact h.elim
      | false =>
        simp only [hA] at h
        split at h
        · rename_i hle
          have hle := Nat.le_of_ble_eq_true hle
          obtain ⟨u, hu, hru⟩ := hc off (by omega)
          refine qpost_val C (hrun _ _ he [u] (by rw [agg_size_ne hA hn]; rfl) fun j v hj => ?_) ?_ h
          · cases j with
            | zero => simp at hj; subst hj; exact hu
            | succ j => simp at hj
          · simp only [hA]; exact hru
        · exact h.elim
    · exact h.elim
  · exact h.elim

/-- A pointer moved on inside a variable. -/
theorem crel_pshift (hr : ∀ r p, F.row r = some p → rk r = some p) {x y : Cell} {v : Value} {off : Nat} (hp : pshift rk off x = some y) (h : CRel w (Bad X0 F m) F m x v) :
    ∃ b o1, v = .pointer (some ⟨b, o1, none⟩) ∧ CRel w (Bad X0 F m) F m y (.pointer (some ⟨b, o1 + off, none⟩)) := by
  unfold pshift at hp
  split at hp
  · rename_i l off0
    cases hp
    obtain ⟨h1, rfl⟩ := h
    exact ⟨_, _, rfl, h1, rfl⟩
  · rename_i r ver i off0
    obtain ⟨ver', R, hrow, hle, hv⟩ := h
    rw [hr r _ hrow] at hp
    simp only at hp
    split at hp
    · rename_i hbeq
      cases hp
      obtain ⟨g, o1, n, c, hrv, he⟩ := hv (Nat.eq_of_beq_eq_true hbeq)
      refine ⟨_, _, he, ver', R, hrow, hle, fun _ => ⟨g, o1, n, c, hrv, ?_⟩⟩
      simp only [Nat.add_assoc]
    · cases hp
  · rename_i k cell
    split at hp
    · rename_i hle
      have hle := Nat.le_of_ble_eq_true hle
      cases hp
      obtain ⟨b, o1, rfl, hb, hlt, hc⟩ := h
      refine ⟨b, o1, rfl, b, o1 + off, rfl, hb, hlt, fun i hi => ?_⟩
      obtain ⟨u, hu, hr⟩ := hc (off + i) (by omega)
      exact ⟨u, by rw [Nat.add_assoc]; exact hu, hr⟩
    · cases hp
  · cases hp
end
end Go.Fx

namespace Go.Fx
open Go.RowKit
set_option linter.unusedVariables false

section
variable {P : Program} {T : TypeId → Ty} {w0 w : World} {X0 : Nat → Prop} {F : Mem} {m : Map} {a : Act} {o : Oper} {Q : Exit → Act → World → Prop} {lk : Look} {rk : LookR} {Φ : AVal → NObj → Prop}

theorem sound_field (hT : TyAll P T) (C : Core w0 X0 F m w) (hr : ∀ r p, F.row r = some p → rk r = some p) {t : TypeId} {y : Operand} {f : Nat} {x : AVal} (ho : o.op = .fieldAddr t y f)
    (hx : VRel w (Bad X0 F m) F m x (a.eval y)) (h : qfield (T t) rk x f Φ) : o.wp P a w (QPost w0 X0 F m w o a Φ) Q := by
  unfold qfield at h
  split at h
  case h_2 => exact h.elim
  rename_i fs z hTt
  have h2 := ((hT t).resolve_left (by rw [hTt]; simp)).2
  rw [hTt] at h2
  obtain ⟨fl, hu, hfl, hsz⟩ := h2
  split at h
  case h_2 => exact h.elim
  rename_i x
  split at h
  case h_2 => exact h.elim
  rename_i ft off hf
  split at h
  case h_2 => exact h.elim
  rename_i y1 hp
  obtain ⟨b, o1, he, hy⟩ := crel_pshift hr hp hx
  have hf1 : fl.toList[f]?.map (fun f => (f.type, f.offset)) = some (ft, off) := by rw [← List.getElem?_map, hfl]; exact hf
  obtain ⟨fd, hfd, hfe⟩ := Option.map_eq_some_iff.1 hf1
  simp only [Prod.mk.injEq] at hfe
  have hs : ((P.info? fd.type).map (·.size)).any (· != 0) = true := by
    have := List.all_eq_true.1 hsz (ft, off) (List.mem_of_getElem? hf)
    rw [hfe.1]; exact this
  cases hi : P.info? fd.type with
  | none => simp [hi] at hs
  | some i =>
    have hs0 : i.size ≠ 0 := by simpa [hi] using hs
    refine qpost_val C (x := .p (.one y1)) (v := .pointer (some ⟨b, o1 + off, none⟩)) ?_ hy h
    have hfd' : fl[f]? = some fd := by simpa using hfd
    simp [execOp, ho, Instr.fieldAt, run_underlying hu, hfd', he, Instr.sureAddr, fieldPlace, sizeOf, typeInfo, hi, hs0, hfe.2, add_mk]

theorem sound_idx (hT : TyAll P T) (C : Core w0 X0 F m w) (hr : ∀ r p, F.row r = some p → rk r = some p) {t : TypeId} {y z : Operand} {x i : AVal} (ho : o.op = .indexAddr t y z)
    (hx : VRel w (Bad X0 F m) F m x (a.eval y)) (hi : VRel w (Bad X0 F m) F m i (a.eval z)) (h : qidx (T t) rk x i Φ) : o.wp P a w (QPost w0 X0 F m w o a Φ) Q := by
  unfold qidx at h
  split at h
  case h_3 => exact h.elim
  · rename_i e k bytes zz hTt
    have h2 := ((hT t).resolve_left (by rw [hTt]; simp)).2
    rw [hTt] at h2
    obtain ⟨hu, hinfo, hzl⟩ := h2
    obtain ⟨ei, hei, hee⟩ := Option.map_eq_some_iff.1 hinfo
    simp only [Prod.mk.injEq] at hee
    split at h
    · rename_i α k' cell xs
      split at h
      case h_2 => exact h.elim
      rename_i ik n
      split at h
      case h_2 => exact h.elim
      rename_i hk
      have hk := Nat.eq_of_beq_eq_true hk
      subst hk
      obtain ⟨yv, h0, hget, h⟩ := h
      obtain ⟨A, c, he, h1, h2, h3⟩ := hx
      have hlt : n.toNat < xs.length := (List.getElem?_eq_some_iff.1 hget).1
      obtain ⟨b, off, hA, hb, hbl, hc⟩ := h3 (by intro e; rw [e] at hlt; simp at hlt)
      subst hA
      have hi' : a.eval z = .int ik n := hi
      refine qpost_val C (x := .c (.ref k (cell yv))) (v := .pointer (some ⟨b, off + n.toNat * k, none⟩)) ?_ ⟨b, off + n.toNat * k, rfl, hb, hbl, fun j hj => hc n.toNat yv hget j hj⟩ h
      have hn : 0 ≤ n ∧ n < (xs.length : Int) := ⟨h0, by omega⟩
      simp [execOp, ho, Instr.indexAt, run_underlying hu, he, hi', asIntOf, hn, sizeOf, typeInfo, hei, hee.2.1, add_mk]
    · rename_i r ver
      split at h
      case h_2 => exact h.elim
      rename_i ik n
      obtain ⟨ver', R, hrow, hle, hv⟩ := hx
      rw [hr r _ hrow] at h
      simp only at h
      split at h
      case h_2 => exact h.elim
      rename_i hbeq
      have hv := hv (Nat.eq_of_beq_eq_true hbeq)
      have hver := Nat.eq_of_beq_eq_true hbeq
      split at h
      case h_2 => exact h.elim
      rename_i hk
      have hk := Nat.eq_of_beq_eq_true hk
      obtain ⟨h0, h1, h⟩ := h
      have hi' : a.eval z = .int ik n := hi
      rcases C.row r ver' R hrow with ⟨_, hnil⟩ | ⟨g, o1, c, cur, hrv, hg, hh, h3, h4, h5, h6⟩
      · rw [hnil] at h1; simp at h1; omega
      refine qpost_val C (x := .p (.one (.optr r ver n.toNat 0))) (v := .pointer (some ⟨g, o1 + n.toNat * R.k, none⟩)) ?_ ⟨ver', R, hrow, hle, fun _ => ⟨g, o1, _, c, hrv, rfl⟩⟩ h
      have hn : 0 ≤ n ∧ n < (R.xs.length : Int) := ⟨h0, h1⟩
      simp [execOp, ho, Instr.indexAt, run_underlying hu, hv, hrv, hi', asIntOf, hn, sizeOf, typeInfo, hei, hee.2.1, add_mk, hk]
    · exact h.elim
  · rename_i n e ek zz hTt
    have h2 := ((hT t).resolve_left (by rw [hTt]; simp)).2
    rw [hTt] at h2
    obtain ⟨hu, hinfo⟩ := h2
    obtain ⟨ei, hei, hee⟩ := Option.map_eq_some_iff.1 hinfo
    split at h
    case h_2 => exact h.elim
    rename_i x
    split at h
    case h_2 => exact h.elim
    rename_i ik j
    obtain ⟨h0, h1, h⟩ := h
    split at h
    case h_2 => exact h.elim
    rename_i y1 hp
    obtain ⟨b, o1, he, hy⟩ := crel_pshift hr hp hx
    have hi' : a.eval z = .int ik j := hi
    refine qpost_val C (x := .p (.one y1)) (v := .pointer (some ⟨b, o1 + j.toNat * ek, none⟩)) ?_ hy h
    have hn : 0 ≤ j ∧ j < (n : Int) := ⟨h0, h1⟩
    simp [execOp, ho, Instr.indexAt, run_underlying hu, he, hi', asIntOf, Instr.sureAddr, hn, sizeOf, typeInfo, hei, hee, add_mk]

theorem sound_part (hT : TyAll P T) (C : Core w0 X0 F m w) {u : TypeId} (hn : T u ≠ .no) {l : List Cell} {vs : List Value} {off : Nat} (hall : All2 (CRel w (Bad X0 F m) F m) l vs)
    (hlen : off + (T u).size ≤ vs.length ∨ True) (hrun : ∀ v, (part u vs.toArray off).run P w = .ok v w → (execOp a.eval o).run P w = .ok (.value v) w) (h : qpart (T u) l off Φ) : o.wp P a w (QPost w0 X0 F m w o a Φ) Q := by
  unfold qpart at h
  obtain ⟨i, hi, _, hs⟩ := tyinfo (hT u) hn
  cases hA : (T u).agg with
  | true =>
    simp only [hA] at h
    refine qpost_val C (x := .p (.agg ((l.drop off).take (T u).size))) (v := .agg ((vs.drop off).take (T u).size).toArray) (hrun _ ?_) ⟨_, rfl, all2_drop_take hall _ _⟩ h
    simp [part, run_isAgg (hT u) hn, hA, sizeOf, typeInfo, hi, hs]
  | false =>
    simp only [hA] at h
    split at h
    · rename_i c hc
      obtain ⟨v, hv, hcr⟩ := hall.get off hc
      refine qpost_val C (x := .p (.one c)) (v := v) (hrun _ ?_) hcr h
      simp [part, run_isAgg (hT u) hn, hA, hv]
    · exact h.elim

theorem sound_fieldv (hT : TyAll P T) (C : Core w0 X0 F m w) {t : TypeId} {y : Operand} {f : Nat} {x : AVal} (ho : o.op = .field t y f)
    (hx : VRel w (Bad X0 F m) F m x (a.eval y)) (h : qfieldv T t x f Φ) : o.wp P a w (QPost w0 X0 F m w o a Φ) Q := by
  unfold qfieldv at h
  split at h
  case h_2 => exact h.elim
  rename_i fs z hTt
  have h2 := ((hT t).resolve_left (by rw [hTt]; simp)).2
  rw [hTt] at h2
  obtain ⟨fl, hu, hfl, hsz⟩ := h2
  split at h
  case h_2 => exact h.elim
  rename_i l
  split at h
  case h_2 => exact h.elim
  rename_i ft off hf
  obtain ⟨vs, he, hall⟩ := hx
  have hf1 : fl.toList[f]?.map (fun f => (f.type, f.offset)) = some (ft, off) := by rw [← List.getElem?_map, hfl]; exact hf
  obtain ⟨fd, hfd, hfe⟩ := Option.map_eq_some_iff.1 hf1
  simp only [Prod.mk.injEq] at hfe
  have hfd' : fl[f]? = some fd := by simpa using hfd
  have hn : T ft ≠ .no := by intro e; rw [e] at h; exact h.elim
  refine sound_part hT C hn hall (.inr trivial) (fun v hv => ?_) (off := off) ?_
  · simp [execOp, ho, Instr.field, run_underlying hu, hfd', he, asAgg, hfe.1, hfe.2, hv]
  · cases hTf : T ft with
    | no => exact absurd hTf hn
    | _ => rw [hTf] at h; exact h

theorem sound_indexv (hT : TyAll P T) (C : Core w0 X0 F m w) {t : TypeId} {y z : Operand} {x i : AVal} (ho : o.op = .index t y z)
    (hx : VRel w (Bad X0 F m) F m x (a.eval y)) (hi : VRel w (Bad X0 F m) F m i (a.eval z)) (h : qindexv T t x i Φ) : o.wp P a w (QPost w0 X0 F m w o a Φ) Q := by
  unfold qindexv at h
  split at h
  case h_2 => exact h.elim
  rename_i n e ek zz hTt
  have h2 := ((hT t).resolve_left (by rw [hTt]; simp)).2
  rw [hTt] at h2
  obtain ⟨hu, hinfo⟩ := h2
  obtain ⟨ei, hei, hee⟩ := Option.map_eq_some_iff.1 hinfo
  split at h
  case h_2 => exact h.elim
  rename_i l
  split at h
  case h_2 => exact h.elim
  rename_i ik j
  obtain ⟨h0, h1, h⟩ := h
  obtain ⟨vs, he, hall⟩ := hx
  have hi' : a.eval z = .int ik j := hi
  have hn : T e ≠ .no := by intro e'; rw [e'] at h; exact h.elim
  have hj : 0 ≤ j ∧ j < (n : Int) := ⟨h0, h1⟩
  refine sound_part hT C hn hall (.inr trivial) (fun v hv => ?_) (off := j.toNat * ek) ?_
  · simp [execOp, ho, Instr.index, run_underlying hu, he, hi', asIntOf, hj, sizeOf, typeInfo, hei, hee, hv]
  · cases hTf : T e with
    | no => exact absurd hTf hn
    | _ => rw [hTf] at h; exact h

theorem int_beq (p q : Int) : (p == q) = decide (p = q) := by by_cases h : p = q <;> simp [h]

theorem eqGuard_agg_free {op : BinOp} {t : TypeId} {x y : Operand} {v u : Value} (hv : ∀ c, v ≠ .agg c) (hn : v ≠ .nilIface) : eqGuard op t x y v u = pure () := by
  cases op <;> first | rfl | (cases v <;> first | rfl | (exact absurd rfl hn) | (exact absurd rfl (hv _)))

theorem run_equal_of {t : TypeId} {x y : Value} {b : Bool} (h : ∀ d, (Op.equalIn (d + 1) t x y).run P w = .ok b w) : (Op.equal t x y).run P w = .ok b w := h 9999
theorem run_equal_bool {t : TypeId} (h : P.underlying t = some .bool) (p q : Bool) : (Op.equal t (.bool p) (.bool q)).run P w = .ok (p == q) w :=
  run_equal_of fun d => by simp [Op.equalIn, run_underlying h]
theorem run_equal_sl {t e : TypeId} (h : P.underlying t = some (.slice e)) (A : Option Addr) (n c : Nat) : (Op.equal t (.slice A n c) (.slice none 0 0)).run P w = .ok A.isNone w :=
  run_equal_of fun d => by cases A <;> simp [Op.equalIn, run_underlying h]

theorem sound_bin (hT : TyAll P T) (C : Core w0 X0 F m w) {op : BinOp} {t t' : TypeId} {y z : Operand} {x i : AVal} (ho : o.op = .binOp op t y z t')
    (hx : VRel w (Bad X0 F m) F m x (a.eval y)) (hi : VRel w (Bad X0 F m) F m i (a.eval z)) (h : qbin op (T t) x i Φ) : o.wp P a w (QPost w0 X0 F m w o a Φ) Q := by
  unfold qbin at h
  split at h
  · rename_i k p
    split at h
    case h_2 => exact h.elim
    rename_i k' q
    have hx' : a.eval y = .int k p := hx
    have hi' : a.eval z = .int k' q := hi
    have hg : ∀ op, eqGuard op t y z (.int k p) (.int k' q) = pure () := fun op => eqGuard_agg_free (by simp) (by simp)
    have go : ∀ (x : CVal) (v : Value), Φ (.c x) .no → Rep w (Bad X0 F m) x v → (binOp op t (.int k p) (.int k' q)).run P w = .ok v w → o.wp P a w (QPost w0 X0 F m w o a Φ) Q := fun x v hΦ hv hrun => by
      refine qpost_val C (x := .c x) (v := v) ?_ hv hΦ
      simp [execOp, ho, hx', hi', hg, hrun]
    split at h
    · exact go _ (.int _ _) h.2 rfl (by simp [binOp, Op.shift, Int.not_lt.2 h.1])
    · exact go _ (.int _ _) h.2 rfl (by simp [binOp, Op.shift, Int.not_lt.2 h.1])
    · split at h
      · exact h.elim
      rename_i hk
      have hk := of_decide_eq_true hk
      subst hk
      split at h
      · obtain ⟨zz, rfl, h⟩ := h; exact go _ (.int _ _) h rfl (by simp [binOp, Op.intArith])
      · obtain ⟨zz, rfl, h⟩ := h; exact go _ (.int _ _) h rfl (by simp [binOp, Op.intArith])
      · obtain ⟨zz, rfl, h⟩ := h; exact go _ (.int _ _) h rfl (by simp [binOp, Op.intArith])
      · obtain ⟨hq, zz, rfl, h⟩ := h; exact go _ (.int _ _) h rfl (by simp [binOp, Op.intDiv, hq])
      · obtain ⟨hq, zz, rfl, h⟩ := h; exact go _ (.int _ _) h rfl (by simp [binOp, Op.intDiv, hq])
      · exact go _ (.int _ _) h rfl (by simp [binOp, Op.intBits])
      · exact go _ (.int _ _) h rfl (by simp [binOp, Op.intBits])
      · exact go _ (.bool _) h rfl (by simp [binOp, Op.intCmp, int_beq])
      · exact go _ (.bool _) h rfl (by simp [binOp, Op.intCmp, bne, int_beq])
      · exact go _ (.bool _) h rfl (by simp [binOp, Op.intCmp])
      · exact go _ (.bool _) h rfl (by simp [binOp, Op.intCmp])
      · exact go _ (.bool _) h rfl (by simp [binOp, Op.intCmp])
      · exact go _ (.bool _) h rfl (by simp [binOp, Op.intCmp])
      · exact h.elim
  · rename_i p
    split at h
    case h_2 => exact h.elim
    rename_i q
    have hx' : a.eval y = .bool p := hx
    have hi' : a.eval z = .bool q := hi
    split at h
    case h_2 => exact h.elim
    rename_i hTt
    have h2 := ((hT t).resolve_left (by rw [hTt]; simp)).2
    rw [hTt] at h2
    have hg : ∀ op, eqGuard op t y z (.bool p) (.bool q) = pure () := fun op => eqGuard_agg_free (by simp) (by simp)
    split at h
    · refine qpost_val C (x := .c (.bool (p == q))) (v := .bool (p == q)) ?_ rfl h
      simp [execOp, ho, hx', hi', hg, binOp, run_equal_bool h2]
    · refine qpost_val C (x := .c (.bool (!(p == q)))) (v := .bool (!(p == q))) ?_ rfl h
      simp [execOp, ho, hx', hi', hg, binOp, run_equal_bool h2]
    · exact h.elim
  · rename_i p
    split at h
    case h_2 => exact h.elim
    rename_i q
    have hx' : a.eval y = .string p := hx
    have hi' : a.eval z = .string q := hi
    have hg : ∀ op, eqGuard op t y z (.string p) (.string q) = pure () := fun op => eqGuard_agg_free (by simp) (by simp)
    split at h
    · refine qpost_val C (x := .c (.bool (p.toList == q.toList))) (v := .bool (p.toList == q.toList)) ?_ rfl h
      simp [execOp, ho, hx', hi', hg, binOp, Op.stringOp]
    · refine qpost_val C (x := .c (.bool (!(p.toList == q.toList)))) (v := .bool (!(p.toList == q.toList))) ?_ rfl h
      simp [execOp, ho, hx', hi', hg, binOp, Op.stringOp]
    · exact h.elim
  · split at h
    case h_2 => exact h.elim
    have hx' : a.eval y = .slice none 0 0 := hx
    have hi' : a.eval z = .slice none 0 0 := hi
    split at h
    case h_2 => exact h.elim
    rename_i e k bytes zz hTt
    have h2 := ((hT t).resolve_left (by rw [hTt]; simp)).2
    rw [hTt] at h2
    have hg : ∀ op, eqGuard op t y z (.slice none 0 0) (.slice none 0 0) = pure () := fun op => eqGuard_agg_free (by simp) (by simp)
    split at h
    · refine qpost_val C (x := .c (.bool true)) (v := .bool true) ?_ rfl h
      simp [execOp, ho, hx', hi', hg, binOp, run_equal_sl h2.1]
    · refine qpost_val C (x := .c (.bool false)) (v := .bool false) ?_ rfl h
      simp [execOp, ho, hx', hi', hg, binOp, run_equal_sl h2.1]
    · exact h.elim
  · rename_i α k cell xs
    split at h
    case h_2 => exact h.elim
    obtain ⟨A, c, hx', h1, _, h3⟩ := hx
    have hi' : a.eval z = .slice none 0 0 := hi
    split at h
    case h_2 => exact h.elim
    rename_i e k bytes zz hTt
    have h2 := ((hT t).resolve_left (by rw [hTt]; simp)).2
    rw [hTt] at h2
    obtain ⟨hne, h⟩ := h
    obtain ⟨b, off, rfl, _⟩ := h3 hne
    have hg : ∀ op, eqGuard op t y z (.slice (some ⟨b, off, none⟩) xs.length c) (.slice none 0 0) = pure () := fun op => eqGuard_agg_free (by simp) (by simp)
    split at h
    · refine qpost_val C (x := .c (.bool false)) (v := .bool false) ?_ rfl h
      simp [execOp, ho, hx', hi', hg, binOp, run_equal_sl h2.1]
    · refine qpost_val C (x := .c (.bool true)) (v := .bool true) ?_ rfl h
      simp [execOp, ho, hx', hi', hg, binOp, run_equal_sl h2.1]
    · exact h.elim
  · exact h.elim

theorem sound_un (C : Core w0 X0 F m w) {op : UnOp} {t : TypeId} {y : Operand} {x : AVal} (ho : o.op = .unOp op t y)
    (hx : VRel w (Bad X0 F m) F m x (a.eval y)) (h : qun op x Φ) : o.wp P a w (QPost w0 X0 F m w o a Φ) Q := by
  unfold qun at h
  split at h
  · split at h
    · rename_i b
      have hx' : a.eval y = .bool b := hx
      exact qpost_val C (x := .c (.bool (!b))) (v := .bool (!b)) (by simp [execOp, ho, hx', Op.unary]) rfl h
    · exact h.elim
  · split at h
    · rename_i k n
      have hx' : a.eval y = .int k n := hx
      exact qpost_val C (x := .c (.int k (k.wrap (0 - n)))) (v := .int k (k.wrap (0 - n))) (by simp [execOp, ho, hx', Op.unary, Op.intArith]) rfl h
    · exact h.elim
  · exact h.elim

theorem sound_len (hT : TyAll P T) (C : Core w0 X0 F m w) (hr : ∀ r p, F.row r = some p → rk r = some p) {t : TypeId} {y : Operand} {x : AVal} (ho : o.op = .call { callee := .builtin .len, args := #[y], argTypes := #[t] })
    (hx : VRel w (Bad X0 F m) F m x (a.eval y)) (h : qlen (T t) rk x Φ) : o.wp P a w (QPost w0 X0 F m w o a Φ) Q := by
  unfold qlen at h
  split at h
  · rename_i e k bytes z hTt
    have h2 := ((hT t).resolve_left (by rw [hTt]; simp)).2
    rw [hTt] at h2
    split at h
    · rename_i xs
      obtain ⟨A, c, hx', h1, h3, _⟩ := hx
      refine qpost_val C (x := .c (i64 xs.length)) (v := .int .i64 xs.length) ?_ rfl (h h3)
      simp [execOp, ho, resolve, invoke, builtin, hx', Builtin.len_, run_underlying h2.1, goInt]
    · have hx' : a.eval y = .slice none 0 0 := hx
      refine qpost_val C (x := .c (i64 0)) (v := .int .i64 0) ?_ rfl h
      simp [execOp, ho, resolve, invoke, builtin, hx', Builtin.len_, run_underlying h2.1, goInt]
    · rename_i r ver
      obtain ⟨ver', R, hrow, hle, hv⟩ := hx
      rw [hr r _ hrow] at h
      simp only at h
      split at h
      case h_2 => exact h.elim
      rename_i hbeq
      have hv := hv (Nat.eq_of_beq_eq_true hbeq)
      rcases C.row r ver' R hrow with ⟨he, hnil⟩ | ⟨g, o1, c, cur, hrv, hg, hh, h3, h4, h5, h6⟩
      · refine qpost_val C (x := .c (i64 R.xs.length)) (v := .int .i64 R.xs.length) ?_ rfl (h (by rw [hnil]; simp))
        simp [execOp, ho, resolve, invoke, builtin, hv, he, hnil, Builtin.len_, run_underlying h2.1, goInt]
      · refine qpost_val C (x := .c (i64 R.xs.length)) (v := .int .i64 R.xs.length) ?_ rfl (h (Nat.le_trans h3 h4))
        simp [execOp, ho, resolve, invoke, builtin, hv, hrv, Builtin.len_, run_underlying h2.1, goInt]
    · exact h.elim
  · rename_i hTt
    have h2 := ((hT t).resolve_left (by rw [hTt]; simp)).2
    rw [hTt] at h2
    split at h
    · rename_i s
      have hx' : a.eval y = .string s := hx
      refine qpost_val C (x := .c (i64 s.size)) (v := .int .i64 s.size) ?_ rfl h
      simp [execOp, ho, resolve, invoke, builtin, hx', Builtin.len_, run_underlying h2, goInt]
    · exact h.elim
  · exact h.elim

theorem sound_move (C : Core w0 X0 F m w) {y : Operand} {x : AVal} (ho : o.op = .move y ∨ o.op = .assign y) (hx : VRel w (Bad X0 F m) F m x (a.eval y)) (h : Φ x .no) : o.wp P a w (QPost w0 X0 F m w o a Φ) Q := by
  refine qpost_val C (x := x) (v := a.eval y) ?_ hx h
  rcases ho with ho | ho <;> simp [execOp, ho]

theorem sound_pick (C : Core w0 X0 F m w) {c p q : Operand} {t : Bool} {x y : AVal} (ho : o.op = .pick c p q) (hc : a.eval c = .bool t) (hp : VRel w (Bad X0 F m) F m x (a.eval p)) (hq : VRel w (Bad X0 F m) F m y (a.eval q))
    (h : acond t (Φ x .no) (Φ y .no)) : o.wp P a w (QPost w0 X0 F m w o a Φ) Q := by
  cases t with
  | true => exact qpost_val C (x := x) (v := a.eval p) (by simp [execOp, ho, hc, asBool]) hp h
  | false => exact qpost_val C (x := y) (v := a.eval q) (by simp [execOp, ho, hc, asBool]) hq h

theorem sound_extract (C : Core w0 X0 F m w) {y : Operand} {i : Nat} {l : List Part} {x : Part} (ho : o.op = .extract y i) (hx : VRel w (Bad X0 F m) F m (.tup l) (a.eval y)) (hi : l[i]? = some x)
    (h : Φ (.p x) .no) : o.wp P a w (QPost w0 X0 F m w o a Φ) Q := by
  obtain ⟨vs, he, hall⟩ := hx
  obtain ⟨v, hv, hr⟩ := hall.get i hi
  exact qpost_val C (x := .p x) (v := v) (by simp [execOp, ho, he, Instr.extract, hv]) hr h

theorem sound_conv (hT : TyAll P T) (C : Core w0 X0 F m w) {s t : TypeId} {y : Operand} {k k' : IntKind} {n : Int} (ho : o.op = .convert s t y) (hs : T s = .int k') (ht : T t = .int k) (hx : a.eval y = .int k' n)
    (h : Φ (.c (.int k (k.wrap n))) .no) : o.wp P a w (QPost w0 X0 F m w o a Φ) Q := by
  have h2 := ((hT t).resolve_left (by rw [ht]; simp)).2
  have h1 := ((hT s).resolve_left (by rw [hs]; simp)).2
  rw [ht] at h2
  rw [hs] at h1
  exact qpost_val C (x := .c (.int k (k.wrap n))) (v := .int k (k.wrap n)) (by simp [execOp, ho, hx, convert, run_underlying h2, run_underlying h1, Conv.intToInt]) rfl h
end
end Go.Fx

namespace Go.Fx
open Go.RowKit
set_option linter.unusedVariables false

/-! ### Cells of a value -/
def solid (rk : LookR) : Cell → Bool
  | .c _ => true
  | .lptr .. => true
  | .clo .. => true
  | .own r ver | .optr r ver _ _ => match rk r with
    | some (ver', _) => Nat.beq ver ver'
    | none => false
  | .any => false

def cellsOf (rk : LookR) : AVal → Option (List Cell)
  | .p (.one x) => match solid rk x with
    | true => some [x]
    | false => none
  | .p (.agg l) => some l
  | .tup _ => none

def setFrom {α : Type _} (l : List α) (off : Nat) : List α → List α
  | [] => l
  | c :: cs => setFrom (l.set off c) (off + 1) cs

def afill (place : Nat → Option (Nat × Nat)) (cells : List Cell) : List (Nat × List Cell) → Option (List Cell)
  | [] => some cells
  | (i, cs) :: rest => match place i with
    | some (off, size) => match Nat.beq cs.length size with
      | true => match Nat.ble (off + size) cells.length with
        | true => afill place (setFrom cells off cs) rest
        | false => none
      | false => none
    | none => none

def partsOf (rk : LookR) (ρ : Operand → AVal) : List (Nat × Operand) → Option (List (Nat × List Cell))
  | [] => some []
  | (i, x) :: rest => match cellsOf rk (ρ x) with
    | some cs => match partsOf rk ρ rest with
      | some l => some ((i, cs) :: l)
      | none => none
    | none => none

def placeS (T : TypeId → Ty) (fs : List (Nat × Nat)) (i : Nat) : Option (Nat × Nat) :=
  match fs[i]? with
  | some (ft, off) => match T ft with
    | .no => none
    | u => some (off, u.size)
  | none => none

def qbox (T : Ty) (rk : LookR) (d : Nat) (x : AVal) (Φ : AVal → NObj → Prop) : Prop :=
  match cellsOf rk x with
  | some cs => Φ (.p (.one (.lptr d 0))) (.loc d cs)
  | none => False

def qalloc (T : Ty) (d : Nat) (Φ : AVal → NObj → Prop) : Prop :=
  match T with
  | .no => False
  | _ => Φ (.p (.one (.lptr d 0))) (.loc d (T.zero.map cOf))

def qbuild (T : TypeId → Ty) (rk : LookR) (ρ : Operand → AVal) (t : TypeId) (parts : List (Nat × Operand)) (Φ : AVal → NObj → Prop) : Prop :=
  match T t with
  | .st fs z => match partsOf rk ρ parts with
    | some ps => match afill (placeS T fs) (z.map cOf) ps with
      | some l => Φ (.p (.agg l)) .no
      | none => False
    | none => False
  | .ar n e ek z => match partsOf rk ρ parts with
    | some ps => match afill (fun i => some (i * ek, ek)) (z.map cOf) ps with
      | some l => Φ (.p (.agg l)) .no
      | none => False
    | none => False
  | _ => False

/-- A row's cells, one behind the other. -/
def rowCells (k : Nat) {α : Type} (cell : α → Nat → CVal) : List α → List Cell
  | [] => []
  | x :: xs => refCells (cell x) 0 k ++ rowCells k cell xs

def qslit (T : TypeId → Ty) (rk : LookR) (ρ : Operand → AVal) (d : Nat) (t : TypeId) (len : Nat) (parts : List (Nat × Operand)) (Φ : AVal → NObj → Prop) : Prop :=
  match T t with
  | .sl e k _ z => match partsOf rk ρ parts with
    | some ps => match afill (fun i => some (i * k, k)) (List.replicate (len * k) Cell.any) ps with
      | some l => ∃ (α : Type) (cell : α → Nat → CVal) (xs : List α), xs.length = len ∧ (1 ≤ k ∧ len * k ≤ 16777216) ∧ rowCells k cell xs = l ∧ Φ (.p (.one (.own d 0))) (.rows [(d, ⟨α, k, cell, e, xs⟩)])
      | none => False
    | none => False
  | _ => False

/-- What make puts into an element's cells reads as told. -/
def ZeroOk (z : List Value) (cell : Nat → CVal) : Prop := ∀ i u, z[i]? = some u → ∀ (w : World) (X : Nat → Prop), Rep w X (cell i) u
theorem zok1 {v : Value} {c : CVal} (h : ∀ (w : World) (X : Nat → Prop), Rep w X c v) : ZeroOk [v] (fun _ => c) := fun i u hu w X => by
  cases i with
  | zero => simp at hu; subst hu; exact h w X
  | succ i => simp at hu
theorem rep_nil_sl {w : World} {X : Nat → Prop} {α : Type} {k : Nat} {cell : α → Nat → CVal} : Rep w X (.sl α k cell []) (.slice none 0 0) := ⟨none, 0, rfl, Nat.le_refl _, by simp, fun h => absurd rfl h⟩

def qmake (T : TypeId → Ty) (d : Nat) (t : TypeId) (n c : AVal) (Φ : AVal → NObj → Prop) : Prop :=
  match T t with
  | .sl e k bytes z => match n with
    | .p (.one (.c (.int _ n))) => match c with
      | .p (.one (.c (.int _ c))) => c = n ∧ 0 ≤ n ∧ bytes * n ≤ 281474976710656 ∧ n ≤ 9223372036854775807 ∧ 1 ≤ k ∧
          ∃ (α : Type) (cell : α → Nat → CVal) (x : α), ZeroOk z (cell x) ∧ Φ (.p (.one (.own d 0))) (.rows [(d, ⟨α, k, cell, e, List.replicate n.toNat x⟩)])
      | _ => False
    | _ => False
  | _ => False

/-- x[lo:hi] of what is only read. -/
def bnd (d : Int) : Option AVal → Option Int
  | none => some d
  | some (.p (.one (.c (.int _ n)))) => some n
  | _ => none

def qslice (T : Ty) (x : AVal) (lo hi : Option AVal) (Φ : AVal → NObj → Prop) : Prop :=
  match T with
  | .sl e k _ _ => match x with
    | .p (.one (.c (.sl α k' cell xs))) => match Nat.beq k k' with
      | true => match bnd 0 lo with
        | some l => match bnd xs.length hi with
          | some h => 0 ≤ l ∧ l ≤ h ∧ h ≤ xs.length ∧ Φ (.c (.sl α k' cell ((xs.take h.toNat).drop l.toNat))) .no
          | none => False
        | none => False
      | false => False
    | _ => False
  | _ => False

/-! ### Contracts -/
inductive Av : Type 1
  | one (x : CVal)
  | agg (l : List CVal)

inductive RC : Type 1
  | c (x : CVal)
  | row (j : Nat) (R : Row)
inductive Rp : Type 1
  | one (x : RC)
  | agg (l : List RC)
inductive Rv : Type 1
  | p (x : Rp)
  | tup (l : List Rp)
abbrev Rv.c (x : CVal) : Rv := .p (.one (.c x))
abbrev Rv.row (R : Row) : Rv := .p (.one (.row 0 R))

def RC.a (ids : Nat → Nat) : RC → Cell
  | .c x => .c x
  | .row j R => .own (ids j) 0
def Rp.a (ids : Nat → Nat) : Rp → Part
  | .one x => .one (x.a ids)
  | .agg l => .agg (l.map (RC.a ids))
def Rv.a (ids : Nat → Nat) : Rv → AVal
  | .p x => .p (x.a ids)
  | .tup l => .tup (l.map (Rp.a ids))

def RC.rows (ids : Nat → Nat) : RC → List (Nat × Row)
  | .c _ => []
  | .row j R => [(ids j, R)]
def cat {α : Type _} {β : Type _} (f : α → List β) : List α → List β
  | [] => []
  | a :: l => f a ++ cat f l
def Rp.rows (ids : Nat → Nat) : Rp → List (Nat × Row)
  | .one x => x.rows ids
  | .agg l => cat (RC.rows ids) l
def Rv.rows (ids : Nat → Nat) : Rv → List (Nat × Row)
  | .p x => x.rows ids
  | .tup l => cat (Rp.rows ids) l

def ARep (w : World) (X : Nat → Prop) : Av → Value → Prop
  | .one x, v => Rep w X x v
  | .agg l, v => ∃ vs : List Value, v = .agg vs.toArray ∧ All2 (Rep w X) l vs

def RX (X : Nat → Prop) (L : List (Nat × Row)) (vo : Nat → Value) (b : Nat) : Prop := X b ∨ ∃ r R, lget L r = some R ∧ (vo r).ownBlock = some b

/-- What a call hands back: new rows (their places numbered), and what reads as told. -/
def RvRep (base : Nat) (w : World) (X : Nat → Prop) (rv : Rv) (v : Value) : Prop :=
  ∃ vo : Nat → Value,
    (∀ r R, lget (rv.rows id) r = some R → RowRel w (RX X (rv.rows id) vo) base R (vo r)) ∧
    (∀ r r' R R' b, lget (rv.rows id) r = some R → lget (rv.rows id) r' = some R' → (vo r).ownBlock = some b → (vo r').ownBlock = some b → r = r') ∧
    VRel w (RX X (rv.rows id) vo) ⟨fun _ => none, fun r => (lget (rv.rows id) r).map fun R => (0, R)⟩ ⟨fun _ => 0, vo⟩ (rv.a id) v

def Enters (P : Program) (g : FuncId) : Prop := ∀ (args : Array Value) (w : World), (callFunc g args).run P w = .ok (.enter g args) w

/-- THE CONTRACT of a function: called with what reads as args it hands back what reads as rv; what was there is as it was. -/
def Ct (P : Program) (g : FuncId) (args : List Av) (rv : Rv) : Prop :=
  Enters P g ∧ ∀ (w : World) (X : Nat → Prop) (vs : List Value), (∀ b, X b → b < w.heap.size) → All2 (ARep w X) args vs →
    Calls P g vs.toArray w fun e w' => Below w.heap.size w w' ∧ ∃ v, e = .returned v ∧ RvRep w.heap.size w' X rv v

/-- A contract whose results read nothing of what was there. -/
def Cf (P : Program) (g : FuncId) (args : List Av) (rv : Rv) : Prop :=
  Enters P g ∧ ∀ (w : World) (X : Nat → Prop) (vs : List Value), (∀ b, X b → b < w.heap.size) → All2 (ARep w X) args vs →
    Calls P g vs.toArray w fun e w' => Below w.heap.size w w' ∧ ∃ v, e = .returned v ∧ RvRep w.heap.size w' (fun b => b < w.heap.size) rv v

def FlatRC : RC → Prop
  | .c x => Flat x
  | .row _ R => ∀ x i, Flat (R.cell x i)
def FlatRp : Rp → Prop
  | .one x => FlatRC x
  | .agg l => ∀ x ∈ l, FlatRC x
def FlatRv : Rv → Prop
  | .p x => FlatRp x
  | .tup l => ∀ x ∈ l, FlatRp x

/-! ### Arguments -/
def toC0 (rk : LookR) : Cell → Option CVal
  | .c x => some x
  | .own r ver => match rk r with
    | some (ver', R) => match Nat.beq ver ver' with
      | true => some (.sl R.α R.k R.cell R.xs)
      | false => none
    | none => none
  | _ => none
def toCs (rk : LookR) : List Cell → Option (List CVal)
  | [] => some []
  | x :: l => match toC0 rk x with
    | some y => match toCs rk l with
      | some ys => some (y :: ys)
      | none => none
    | none => none
def refOf (rk : LookR) (lk : Look) (l : Nat) : Option CVal :=
  match lk l with
  | some cs => match toCs rk cs with
    | some ys => some (.ref ys.length fun i => ys.getD i .nil)
    | none => none
  | none => none
def refsOf (rk : LookR) (lk : Look) : List Nat → Option (List CVal)
  | [] => some []
  | l :: ls => match refOf rk lk l with
    | some y => match refsOf rk lk ls with
      | some ys => some (y :: ys)
      | none => none
    | none => none
def toC (rk : LookR) (lk : Look) : Cell → Option CVal
  | .c x => some x
  | .own r ver => toC0 rk (.own r ver)
  | .lptr l 0 => refOf rk lk l
  | .clo f ls => match refsOf rk lk ls with
    | some ys => some (.fn f ys.length fun i => ys.getD i .nil)
    | none => none
  | _ => none
def toCl (rk : LookR) (lk : Look) : List Cell → Option (List CVal)
  | [] => some []
  | x :: l => match toC rk lk x with
    | some y => match toCl rk lk l with
      | some ys => some (y :: ys)
      | none => none
    | none => none
def toAv (rk : LookR) (lk : Look) : AVal → Option Av
  | .p (.one x) => match toC rk lk x with
    | some y => some (.one y)
    | none => none
  | .p (.agg l) => match toCl rk lk l with
    | some ys => some (.agg ys)
    | none => none
  | .tup _ => none
def toAvs (rk : LookR) (lk : Look) (ρ : Operand → AVal) : List Operand → Option (List Av)
  | [] => some []
  | x :: l => match toAv rk lk (ρ x) with
    | some y => match toAvs rk lk ρ l with
      | some ys => some (y :: ys)
      | none => none
    | none => none
/-- Nothing of the caller's own goes in. -/
def plainC : Cell → Bool
  | .c _ => true
  | _ => false
def allb {α : Type _} (f : α → Bool) : List α → Bool
  | [] => true
  | a :: l => match f a with
    | true => allb f l
    | false => false
def plainA : AVal → Bool
  | .p (.one x) => plainC x
  | .p (.agg l) => allb plainC l
  | .tup _ => false

def capsL (caps : Nat → CVal) : Nat → Nat → List Av
  | _, 0 => []
  | i, n + 1 => .one (caps i) :: capsL caps (i + 1) n

/-- Whom a call enters, and what it hands on beside the arguments. -/
def callee (rk : LookR) (lk : Look) : AVal → Option (FuncId × List Av × Bool)
  | .p (.one (.c (.fn f n caps))) => some (f, capsL caps 0 n, true)
  | .p (.one (.clo f ls)) => match refsOf rk lk ls with
    | some ys => some (f, ys.map .one, match ls with | [] => true | _ => false)
    | none => none
  | _ => none

def ids (d j : Nat) : Nat := d + 1000 * j

def qcall (P : Program) (rk : LookR) (lk : Look) (ρ : Operand → AVal) (d : Nat) (f : Operand) (args : List Operand) (Φ : AVal → NObj → Prop) : Prop :=
  match callee rk lk (ρ f) with
  | some (g, more, pl) => match toAvs rk lk ρ args with
    | some as => match pl && allb (fun x => plainA (ρ x)) args with
      | true => ∃ rv, Ct P g (as ++ more) rv ∧ Φ (rv.a (ids d)) (.rows (rv.rows (ids d)))
      | false => ∃ rv, Ct P g (as ++ more) rv ∧ (FlatRv rv ∨ Cf P g (as ++ more) rv) ∧ Φ (rv.a (ids d)) (.rows (rv.rows (ids d)))
    | none => False
  | none => False

/-! ### Soundness -/
section
variable {P : Program} {T : TypeId → Ty} {w0 w : World} {X0 : Nat → Prop} {F : Mem} {m : Map} {a : Act} {o : Oper} {Q : Exit → Act → World → Prop} {lk : Look} {rk : LookR} {Φ : AVal → NObj → Prop}

theorem solid_one (C : Core w0 X0 F m w) (hr : ∀ r p, F.row r = some p → rk r = some p) {x : Cell} {v : Value} (hs : solid rk x = true) (h : CRel w (Bad X0 F m) F m x v) : v.oneCell' = true := by
  cases x with
  | any => simp [solid] at hs
  | c x => exact Rep.one h
  | lptr l off => obtain ⟨_, rfl⟩ := h; rfl
  | clo f ls => obtain ⟨rfl, _⟩ := h; rfl
  | own r ver =>
    obtain ⟨ver', R, hrow, hle, hv⟩ := h
    simp only [solid, hr r _ hrow] at hs
    rw [hv (Nat.eq_of_beq_eq_true hs)]
    rcases C.row r ver' R hrow with ⟨he, _⟩ | ⟨g, o1, c, cur, he, _⟩ <;> rw [he] <;> rfl
  | optr r ver i off =>
    obtain ⟨ver', R, hrow, hle, hv⟩ := h
    simp only [solid, hr r _ hrow] at hs
    obtain ⟨g, o1, n, c, _, rfl⟩ := hv (Nat.eq_of_beq_eq_true hs)
    rfl

theorem cells_one {v : Value} (h : v.oneCell' = true) : v.cells = #[v] := by cases v <;> first | rfl | (simp [Value.oneCell'] at h)

theorem cellsOf_rel (C : Core w0 X0 F m w) (hr : ∀ r p, F.row r = some p → rk r = some p) {x : AVal} {cs : List Cell} {v : Value} (he : cellsOf rk x = some cs) (h : VRel w (Bad X0 F m) F m x v) :
    All2 (CRel w (Bad X0 F m) F m) cs v.cells.toList := by
  unfold cellsOf at he
  split at he
  · split at he
    · rename_i hs
      cases he
      rw [cells_one (solid_one C hr hs h)]
      exact ⟨h, trivial⟩
    · cases he
  · cases he
    obtain ⟨vs, rfl, hall⟩ := h
    simpa [Value.cells] using hall
  · cases he

theorem setFrom_rel {α : Type _} {β : Type _} {R : α → β → Prop} : ∀ {cs : List α} {us : List β} (off : Nat) {l : List α} {k : List β}, All2 R l k → All2 R cs us → All2 R (setFrom l off cs) (setFrom k off us)
  | [], [], _, _, _, h, _ => h
  | _ :: _, _ :: _, off, _, _, h, hh => setFrom_rel (off + 1) (h.set off hh.1) hh.2
  | [], _ :: _, _, _, _, _, hh => hh.elim
  | _ :: _, [], _, _, _, _, hh => hh.elim

theorem fold_set (off : Nat) : ∀ (us : List Value) (j : Nat) (vs : Array Value), (us.zipIdx j).foldl (fun cs x => cs.setIfInBounds (off + x.2) x.1) vs = (setFrom vs.toList (off + j) us).toArray
  | [], _, _ => by simp [setFrom]
  | u :: us, j, vs => by
    rw [List.zipIdx_cons, List.foldl_cons, fold_set off us (j + 1)]
    simp [setFrom, Nat.add_assoc]

theorem fill_rel {R : Cell → Value → Prop} {pA pC : Nat → Option (Nat × Nat)} (hp : ∀ i p, pA i = some p → pC i = some p) :
    ∀ {ps : List (Nat × List Cell)} {qs : List (Nat × Value)} {cs cs' : List Cell} {vs : Array Value},
      All2 (fun (p : Nat × List Cell) (q : Nat × Value) => p.1 = q.1 ∧ All2 R p.2 q.2.cells.toList) ps qs → All2 R cs vs.toList → afill pA cs ps = some cs' →
      ∃ vs', Instr.fill pC vs qs = some vs' ∧ All2 R cs' vs'.toList
  | [], [], cs, cs', vs, _, h, he => by cases he; exact ⟨vs, rfl, h⟩
  | [], _ :: _, _, _, _, hh, _, _ => hh.elim
  | _ :: _, [], _, _, _, hh, _, _ => hh.elim
  | (i, c) :: ps, (i', v) :: qs, cs, cs', vs, hh, h, he => by
    obtain ⟨⟨hii, hc⟩, hrest⟩ := hh
    simp only at hii hc
    subst hii
    unfold afill at he
    split at he
    case h_2 => cases he
    rename_i off size hpi
    split at he
    case h_2 => cases he
    rename_i hlen
    split at he
    case h_2 => cases he
    rename_i hle
    have hlen := Nat.eq_of_beq_eq_true hlen
    have hle := Nat.le_of_ble_eq_true hle
    have e1 := hc.length
    have e2 := h.length
    simp only [Array.length_toList] at e1 e2
    have hset : All2 R (setFrom cs off c) (v.cells.zipIdx.foldl (fun cs x => cs.setIfInBounds (off + x.2) x.1) vs).toList := by
      rw [← Array.foldl_toList, Array.toList_zipIdx, fold_set off v.cells.toList 0 vs]
      simpa using setFrom_rel off h hc
    obtain ⟨vs', h1, h2⟩ := fill_rel hp hrest hset he
    refine ⟨vs', ?_, h2⟩
    unfold Instr.fill
    rw [hp i _ hpi]
    have c1 : ¬ (v.cells.size ≠ size ∨ off + v.cells.size > vs.size) := by omega
    simp only [Bool.or_eq_true, decide_eq_true_eq]
    simp only [ne_eq] at c1
    rw [if_neg c1]
    exact h1

theorem partsOf_rel (C : Core w0 X0 F m w) (hr : ∀ r p, F.row r = some p → rk r = some p) {ρ : Operand → AVal} : ∀ {parts : List (Nat × Operand)} {ps : List (Nat × List Cell)},
    (∀ x, x ∈ parts.map (·.2) → VRel w (Bad X0 F m) F m (ρ x) (a.eval x)) → partsOf rk ρ parts = some ps →
    All2 (fun (p : Nat × List Cell) (q : Nat × Value) => p.1 = q.1 ∧ All2 (CRel w (Bad X0 F m) F m) p.2 q.2.cells.toList) ps (parts.map fun x => (x.1, a.eval x.2))
  | [], ps, _, he => by cases he; trivial
  | (i, x) :: rest, ps, hρ, he => by
    unfold partsOf at he
    split at he
    case h_2 => cases he
    rename_i cs hcs
    split at he
    case h_2 => cases he
    rename_i l hl
    cases he
    exact ⟨⟨rfl, cellsOf_rel C hr hcs (hρ x (by simp))⟩, partsOf_rel C hr (fun y hy => hρ y (by simp at hy ⊢; exact .inr hy)) hl⟩

theorem all2_cOf (w : World) (X : Nat → Prop) (F : Mem) (m : Map) : ∀ z : List Value, All2 (CRel w X F m) (z.map cOf) z
  | [] => trivial
  | v :: z => ⟨crel_cOf w X F m v, all2_cOf w X F m z⟩

theorem qpost_loc (C : Core w0 X0 F m w) (l : Nat) (cs : List Cell) (vs : List Value) (t : TypeId) (hl : F.loc l = none) (hcs : All2 (CRel w (Bad X0 F m) F m) cs vs)
    (hrun : (execOp a.eval o).run P w = .ok (.value (.pointer (some ⟨w.heap.size, 0, none⟩))) (w.alloc (.cells vs.toArray t))) (h : Φ (.p (.one (.lptr l 0))) (.loc l cs)) :
    o.wp P a w (QPost w0 X0 F m w o a Φ) Q := by
  obtain ⟨C', g⟩ := core_newLoc C l cs vs t hl hcs
  unfold Oper.wp
  rw [hrun]
  refine ⟨_, _, _, _, h, rfl, C', g, ⟨cs, by simp [Mem.add]⟩, by simp [Map.setL]⟩

theorem sound_box (C : Core w0 X0 F m w) (hr : ∀ r p, F.row r = some p → rk r = some p) {t : TypeId} {y : Operand} {x : AVal} {d : Nat} (ho : o.op = .box t y) (hf : ∀ x n, Φ x n → Fresh F n)
    (hx : VRel w (Bad X0 F m) F m x (a.eval y)) (h : qbox (T t) rk d x Φ) : o.wp P a w (QPost w0 X0 F m w o a Φ) Q := by
  unfold qbox at h
  split at h
  case h_2 => exact h.elim
  rename_i cs hcs
  refine qpost_loc C d cs (a.eval y).cells.toList t (hf _ _ h) (cellsOf_rel C hr hcs hx) ?_ h
  simp [execOp, ho, Instr.box, newVar, newRow]

theorem zval_cells {T : Ty} (hn : T ≠ .no) : (zval T).cells = T.zero.toArray := by
  unfold zval
  cases hA : T.agg with
  | true => rfl
  | false =>
    cases T with
    | no => exact absurd rfl hn
    | st => simp [Ty.agg] at hA
    | ar => simp [Ty.agg] at hA
    | _ => rfl

theorem sound_alloc (hT : TyAll P T) (C : Core w0 X0 F m w) {t : TypeId} {d : Nat} (ho : o.op = .alloc t) (hf : ∀ x n, Φ x n → Fresh F n) (h : qalloc (T t) d Φ) : o.wp P a w (QPost w0 X0 F m w o a Φ) Q := by
  have hn : T t ≠ .no := by intro e; rw [e] at h; exact h.elim
  have h' : Φ (.p (.one (.lptr d 0))) (.loc d ((T t).zero.map cOf)) := by
    unfold qalloc at h
    split at h
    · exact h.elim
    · exact h
  obtain ⟨i, hi, hz, _⟩ := tyinfo (hT t) hn
  refine qpost_loc C d _ (T t).zero t (hf _ _ h') (all2_cOf _ _ _ _ _) ?_ h'
  simp [execOp, ho, Instr.alloc, zeroValue, typeInfo, hi, hz, newVar, newRow, zval_cells hn]

theorem sound_build (hT : TyAll P T) (C : Core w0 X0 F m w) (hr : ∀ r p, F.row r = some p → rk r = some p) {ρ : Operand → AVal} {t : TypeId} {parts : Array (Nat × Operand)} (ho : o.op = .build t parts)
    (hρ : ∀ x, x ∈ parts.toList.map (·.2) → VRel w (Bad X0 F m) F m (ρ x) (a.eval x)) (h : qbuild T rk ρ t parts.toList Φ) : o.wp P a w (QPost w0 X0 F m w o a Φ) Q := by
  have key : ∀ (cells : Array Value) (l : List Cell), P.built t (parts.toList.map fun x => (x.1, a.eval x.2)) = some cells → All2 (CRel w (Bad X0 F m) F m) l cells.toList → Φ (.p (.agg l)) .no → o.wp P a w (QPost w0 X0 F m w o a Φ) Q := by
    intro cells l hb hall h
    refine qpost_val C (x := .p (.agg l)) (v := .agg cells) ?_ ⟨cells.toList, by simp, hall⟩ h
    have := run_build (P := P) w t (parts.map fun x => (x.1, a.eval x.2)) cells (by simpa using hb)
    simp [execOp, ho, this]
  unfold qbuild at h
  split at h
  case h_3 => exact h.elim
  · rename_i fs z hTt
    have hn : T t ≠ .no := by rw [hTt]; simp
    have h2 := ((hT t).resolve_left hn).2
    obtain ⟨i, hi, hz, _⟩ := tyinfo (hT t) hn
    rw [hTt] at h2 hz
    obtain ⟨fl, hu, hfl, hsz⟩ := h2
    split at h
    case h_2 => exact h.elim
    rename_i ps hps
    split at h
    case h_2 => exact h.elim
    rename_i l hl
    have hpl : ∃ places : List (Nat × Nat), fl.toList.mapM (fun f => (P.info? f.type).map fun i => (f.offset, i.size)) = some places ∧ ∀ (j ft off : Nat), fs[j]? = some (ft, off) → ∃ ii, P.info? ft = some ii ∧ places[j]? = some (off, ii.size) := by
      clear hl hps h hu hTt hz
      generalize fl.toList = fll at hfl
      induction fll generalizing fs with
      | nil => subst hfl; exact ⟨[], rfl, fun j ft off h => by simp at h⟩
      | cons f fll ih =>
        subst hfl
        simp only [List.map_cons, List.all_cons, Bool.and_eq_true] at hsz
        obtain ⟨places, hp, hq⟩ := ih _ hsz.2 rfl
        cases hfi : P.info? f.type with
        | none => simp [hfi] at hsz
        | some ii =>
          refine ⟨(f.offset, ii.size) :: places, by simp [List.mapM_cons, hfi, hp], fun j ft off hj => ?_⟩
          cases j with
          | zero => simp at hj; obtain ⟨rfl, rfl⟩ := hj; exact ⟨ii, hfi, rfl⟩
          | succ j => exact hq j ft off (by simpa using hj)
    obtain ⟨places, hp, hq⟩ := hpl
    have hplace : ∀ j p, placeS T fs j = some p → places.toArray[j]? = some p := by
      intro j p hj
      unfold placeS at hj
      split at hj
      case h_2 => cases hj
      rename_i ft off hfs
      obtain ⟨ii, hii, hpj⟩ := hq j ft off hfs
      have hTn : T ft ≠ .no := by intro e; rw [e] at hj; cases hj
      obtain ⟨i2, hi2, _, hs2⟩ := tyinfo (hT ft) hTn
      rw [hii] at hi2
      cases hi2
      have : p = (off, (T ft).size) := by
        split at hj
        · cases hj
        · cases hj; rfl
      simp [hpj, this, hs2]
    obtain ⟨vs', hfill, hall⟩ := fill_rel (vs := (zval (Ty.st fs z)).cells) hplace (partsOf_rel C hr hρ hps) (by rw [zval_cells (by simp)]; simpa [Ty.zero] using all2_cOf w _ F m z) hl
    refine key vs' l ?_ hall h
    unfold Program.built
    simp only [hi, hu, hz, hp]
    exact hfill
  · rename_i n e ek z hTt
    have hn : T t ≠ .no := by rw [hTt]; simp
    have h2 := ((hT t).resolve_left hn).2
    obtain ⟨i, hi, hz, _⟩ := tyinfo (hT t) hn
    rw [hTt] at h2 hz
    obtain ⟨hu, hinfo⟩ := h2
    obtain ⟨ei, hei, hee⟩ := Option.map_eq_some_iff.1 hinfo
    split at h
    case h_2 => exact h.elim
    rename_i ps hps
    split at h
    case h_2 => exact h.elim
    rename_i l hl
    obtain ⟨vs', hfill, hall⟩ := fill_rel (vs := (zval (Ty.ar n e ek z)).cells) (pC := fun i => some (i * ek, ek)) (fun _ _ h => h) (partsOf_rel C hr hρ hps) (by rw [zval_cells (by simp)]; simpa [Ty.zero] using all2_cOf w _ F m z) hl
    refine key vs' l ?_ hall h
    unfold Program.built
    simp only [hi, hu, hz, hei, hee]
    exact hfill
end
end Go.Fx

namespace Go.Fx
open Go.RowKit
set_option linter.unusedVariables false

def lptrs : List AVal → Option (List Nat)
  | [] => some []
  | .p (.one (.lptr l 0)) :: rest => match lptrs rest with
    | some ls => some (l :: ls)
    | none => none
  | _ => none
def cvals : List AVal → Option (List CVal)
  | [] => some []
  | .p (.one (.c x)) :: rest => match cvals rest with
    | some ls => some (x :: ls)
    | none => none
  | _ => none

def qfunc (f : Fn) (first : List AVal) (caps : List AVal) (Φ : AVal → NObj → Prop) : Prop :=
  match f with
  | .func g => match first with
    | [] => match lptrs caps with
      | some ls => Φ (.p (.one (.clo g ls))) .no
      | none => match cvals caps with
        | some ys => Φ (.c (.fn g ys.length fun i => ys.getD i .nil)) .no
        | none => False
    | _ => False
  | _ => False

section
variable {P : Program} {T : TypeId → Ty} {w0 w : World} {X0 : Nat → Prop} {F : Mem} {m : Map} {a : Act} {o : Oper} {Q : Exit → Act → World → Prop} {lk : Look} {rk : LookR} {Φ : AVal → NObj → Prop}

theorem fresh_row {d : Nat} {R : Row} (h : Fresh F (.rows [(d, R)])) : F.row d = none := h d R (by simp [lget_cons])

theorem lget_one {β : Type _} (d : Nat) (v : β) (r : Nat) {u : β} (h : lget [(d, v)] r = some u) : r = d ∧ u = v := by
  rw [lget_cons] at h
  split at h
  · rename_i e; cases h; exact ⟨e.symm, rfl⟩
  · cases h

/-- A new row in a new block. -/
theorem qpost_row (C : Core w0 X0 F m w) (d : Nat) (R : Row) (cur : Array Value) (c : Nat) (hl : F.row d = none) (hlen : R.xs.length ≤ c) (hc : c ≤ maxI) (hsz : c * R.k ≤ cur.size)
    (hel : ∀ j x, R.xs[j]? = some x → ∀ i, i < R.k → ∃ u, cur[j * R.k + i]? = some u ∧ Rep w (Bad X0 F m) (R.cell x i) u)
    (hrun : (execOp a.eval o).run P w = .ok (.value (.slice (some ⟨w.heap.size, 0, none⟩) R.xs.length c)) (w.alloc (.cells cur R.e))) (h : Φ (.p (.one (.own d 0))) (.rows [(d, R)])) :
    o.wp P a w (QPost w0 X0 F m w o a Φ) Q := by
  have hbl : Below w.heap.size w (w.alloc (.cells cur R.e)) := (Below.refl _ _).alloc (Nat.le_refl _) _
  obtain ⟨C', g⟩ := core_newRows C hbl [(d, R)] (fun _ => .slice (some ⟨w.heap.size, 0, none⟩) R.xs.length c) (fun r R' h => by obtain ⟨rfl, rfl⟩ := lget_one d R r h; exact hl) (fun r R' h' => by
    obtain ⟨rfl, rfl⟩ := lget_one d R r h'
    refine .inr ⟨w.heap.size, 0, c, cur, rfl, Nat.le_refl _, heap_alloc w _, hlen, hc, by omega, fun j x hj i hi => ?_⟩
    obtain ⟨u, hu, hru⟩ := hel j x hj i hi
    refine ⟨u, by rw [Nat.zero_add]; exact hu, Rep.mono (fun b hb hn => ⟨fun hx => ?_, hbl.block b hb⟩) hbl.size hru⟩
    rcases hx with hx | ⟨r', R2, _, hb'⟩
    · exact hn hx
    · simp [Value.ownBlock] at hb'
      omega) (fun r r' R1 R2 b h1 h2 _ _ => by rw [(lget_one d R r h1).1, (lget_one d R r' h2).1])
  unfold Oper.wp
  rw [hrun]
  refine ⟨_, _, _, _, h, rfl, C', g, 0, R, ?_, Nat.le_refl _, fun _ => ?_⟩
  · simp [Mem.add, lget_cons]
  · simp [Map.addRows, lget_cons]

theorem refCells_get (cell : Nat → CVal) : ∀ n off i, i < n → (refCells cell off n)[i]? = some (.c (cell (off + i)))
  | 0, _, _, h => by omega
  | n + 1, off, 0, _ => rfl
  | n + 1, off, i + 1, h => by
    have := refCells_get cell n (off + 1) i (by omega)
    simp only [refCells, List.getElem?_cons_succ, this]
    rw [show off + 1 + i = off + (i + 1) by omega]

theorem rowCells_get (k : Nat) {α : Type} (cell : α → Nat → CVal) : ∀ (xs : List α) j x, xs[j]? = some x → ∀ i, i < k → (rowCells k cell xs)[j * k + i]? = some (.c (cell x i))
  | [], j, x, h, _, _ => by simp at h
  | y :: ys, 0, x, h, i, hi => by
    have hxy : y = x := by simpa using h
    subst hxy
    have h2 := refCells_get (cell y) k 0 i hi
    simp only [rowCells, Nat.zero_mul, Nat.zero_add] at h2 ⊢
    rw [List.getElem?_append_left (by rw [refCells_len]; exact hi)]
    exact h2
  | y :: ys, j + 1, x, h, i, hi => by
    have h2 := rowCells_get k cell ys j x (by simpa using h) i hi
    have e : (j + 1) * k = j * k + k := Nat.succ_mul j k
    simp only [rowCells]
    rw [List.getElem?_append_right (by rw [refCells_len]; omega), refCells_len, show (j + 1) * k + i - k = j * k + i by omega]
    exact h2

theorem all2_any (vs : List Value) : All2 (CRel w (Bad X0 F m) F m) (List.replicate vs.length Cell.any) vs := by
  induction vs with
  | nil => trivial
  | cons v vs ih => exact ⟨trivial, ih⟩

theorem sound_slit (hT : TyAll P T) (C : Core w0 X0 F m w) (hr : ∀ r p, F.row r = some p → rk r = some p) {ρ : Operand → AVal} {t len d : Nat} {parts : Array (Nat × Operand)} (ho : o.op = .buildSlice t len parts) (hf : ∀ x n, Φ x n → Fresh F n)
    (hρ : ∀ x, x ∈ parts.toList.map (·.2) → VRel w (Bad X0 F m) F m (ρ x) (a.eval x)) (h : qslit T rk ρ d t len parts.toList Φ) : o.wp P a w (QPost w0 X0 F m w o a Φ) Q := by
  unfold qslit at h
  split at h
  case h_2 => exact h.elim
  rename_i e k bytes z hTt
  have hn : T t ≠ .no := by rw [hTt]; simp
  have h2 := ((hT t).resolve_left hn).2
  rw [hTt] at h2
  obtain ⟨hu, hinfo, hzl⟩ := h2
  obtain ⟨ei, hei, hee⟩ := Option.map_eq_some_iff.1 hinfo
  simp only [Prod.mk.injEq] at hee
  obtain ⟨ze, hze, hzc⟩ := Option.map_eq_some_iff.1 hee.1
  split at h
  case h_2 => exact h.elim
  rename_i ps hps
  split at h
  case h_2 => exact h.elim
  rename_i l hl
  obtain ⟨α, cell, xs, hlen, ⟨hk1, hk2⟩, hcells, h⟩ := h
  have hstart : ∃ vs0 : Array Value, vs0 = (Array.range (len * k)).map ((if len * k = 0 then #[] else ze.cells)[· % (if len * k = 0 then #[] else ze.cells).size]!) := ⟨_, rfl⟩
  obtain ⟨vs0, hvs0⟩ := hstart
  have hvl : vs0.toList.length = len * k := by rw [hvs0]; simp
  obtain ⟨vs', hfill, hall⟩ := fill_rel (vs := vs0) (pC := fun i => some (i * k, k)) (fun _ _ h => h) (partsOf_rel C hr hρ hps) (by rw [← hvl]; exact all2_any _) hl
  have hlc := hall.length
  have hsz : vs'.size = len * k := by
    have e1 : ∀ (xs : List α), (rowCells k cell xs).length = xs.length * k := fun xs => by
      induction xs with
      | nil => simp [rowCells]
      | cons x xs ih => simp [rowCells, refCells_len, ih, Nat.succ_mul]; omega
    rw [← hcells, e1, hlen] at hlc
    simpa using hlc.symm
  refine qpost_row C d ⟨α, k, cell, e, xs⟩ vs' len (fresh_row (hf _ _ h)) (by show xs.length ≤ len; omega) ?_ (by show len * k ≤ vs'.size; omega) (fun j x hj i hi => ?_) ?_ h
  · have : len ≤ len * k := Nat.le_mul_of_pos_right _ hk1
    show len ≤ maxI
    simp only [maxI]; omega
  · have hg := rowCells_get k cell xs j x hj i hi
    rw [hcells] at hg
    obtain ⟨u, hu, hru⟩ := hall.get _ hg
    exact ⟨u, by simpa using hu, hru⟩
  · show (execOp a.eval o).run P w = .ok (.value (.slice (some ⟨w.heap.size, 0, none⟩) xs.length len)) (w.alloc (.cells vs' e))
    rw [hlen]
    have hf2 : Instr.fill (fun i => some (i * ei.size, ei.size)) ((Array.range (len * ei.size)).map ((if len * k = 0 then #[] else ze.cells)[· % (if len * k = 0 then #[] else ze.cells).size]!)) (parts.map fun x => (x.1, a.eval x.2)).toList = some vs' := by
      rw [hee.2.1, ← hvs0]; simpa using hfill
    have hk3 : ¬ 2 ^ 24 < len * k := by omega
    by_cases h0 : len * k = 0
    · simp only [h0, if_true] at hf2
      simp [execOp, ho, Instr.buildSlice, run_underlying hu, sizeOf, typeInfo, hei, hee.2.1, h0]
      simp only [hee.2.1, h0] at hf2
      simp at hf2
      simp [hf2, newRow]
    · simp only [h0, if_false] at hf2
      have := run_buildSlice_any (P := P) w t e len (parts.map fun x => (x.1, a.eval x.2)) vs' ei ze hu hei hze (by rw [hee.2.1]; exact hk3) (by rw [hee.2.1]; exact h0) hf2
      simp [execOp, ho, this]
where
  run_buildSlice_any {P : Program} (w : World) (t e : TypeId) (len : Nat) (parts : Array (Nat × Value)) (cells : Array Value) (ie : TypeInfo) (z : Value)
    (hu : P.underlying t = some (.slice e)) (hie : P.info? e = some ie) (hz : ie.zero = some z) (hsmall : ¬ 2 ^ 24 < len * ie.size) (hpos : ¬ len * ie.size = 0)
    (h : Instr.fill (fun i => some (i * ie.size, ie.size)) ((Array.range (len * ie.size)).map (z.cells[· % z.cells.size]!)) parts.toList = some cells) :
    (Instr.buildSlice t len parts).run P w = .ok (.slice (some ⟨w.heap.size, 0, none⟩) len len) (w.alloc (.cells cells e)) := by
    simp [Instr.buildSlice, run_underlying hu, sizeOf, typeInfo, zeroValue, hie, hz, hsmall, hpos, h, newRow]

theorem sound_make (hT : TyAll P T) (C : Core w0 X0 F m w) {t d : Nat} {y z : Operand} {x n : AVal} (ho : o.op = .makeSlice t y z) (hf : ∀ x n, Φ x n → Fresh F n)
    (hx : VRel w (Bad X0 F m) F m x (a.eval y)) (hn : VRel w (Bad X0 F m) F m n (a.eval z)) (h : qmake T d t x n Φ) : o.wp P a w (QPost w0 X0 F m w o a Φ) Q := by
  unfold qmake at h
  split at h
  case h_2 => exact h.elim
  rename_i e k bytes zl hTt
  have hnn : T t ≠ .no := by rw [hTt]; simp
  have h2 := ((hT t).resolve_left hnn).2
  rw [hTt] at h2
  obtain ⟨hu, hinfo, hzl⟩ := h2
  obtain ⟨ei, hei, hee⟩ := Option.map_eq_some_iff.1 hinfo
  simp only [Prod.mk.injEq] at hee
  obtain ⟨ze, hze, hzc⟩ := Option.map_eq_some_iff.1 hee.1
  split at h
  case h_2 => exact h.elim
  rename_i k1 nn
  split at h
  case h_2 => exact h.elim
  rename_i k2 cc
  obtain ⟨rfl, h0, hb, h63, hk, α, cell, xv, hcell, h⟩ := h
  have hx' : a.eval y = .int k1 cc := hx
  have hn' : a.eval z = .int k2 cc := hn
  have hrun := run_make (P := P) w t e ei ze hu hei hze k1 k2 cc cc h0 (Int.le_refl _) (by rw [hee.2.2]; exact hb) h63
  rw [hzc, hee.2.1] at hrun
  refine qpost_row C d ⟨α, k, cell, e, List.replicate cc.toNat xv⟩ (madeCells zl.toArray (cc.toNat * k)) cc.toNat (fresh_row (hf _ _ h)) (by simp) (by show cc.toNat ≤ maxI; simp only [maxI]; omega) (by show cc.toNat * k ≤ _; rw [size_madeCells]; exact Nat.le_refl _) (fun j x hj i hi => ?_) ?_ h
  · have hj' := List.getElem?_eq_some_iff.1 hj
    obtain ⟨hjl, hjx⟩ := hj'
    simp at hjl hjx
    subst hjx
    have hi : i < k := hi
    have hlt : j * k + i < cc.toNat * k := by
      have : j * k + k ≤ cc.toNat * k := by rw [← Nat.succ_mul]; exact Nat.mul_le_mul_right _ (by omega)
      omega
    have hil : i < zl.length := by omega
    refine ⟨zl[i], ?_, hcell i _ (List.getElem?_eq_getElem hil) w _⟩
    show (madeCells zl.toArray (cc.toNat * k))[j * k + i]? = some zl[i]
    unfold madeCells
    have hmod : (j * k + i) % zl.length = i := by rw [hzl, Nat.mul_comm, Nat.mul_add_mod]; exact Nat.mod_eq_of_lt hi
    rw [Array.getElem?_eq_getElem (by simpa using hlt)]
    simp only [Array.getElem_map, Array.getElem_range, List.size_toArray, hmod]
    simp [hil]
  · show _ = Result.ok (Next.value (.slice (some ⟨w.heap.size, 0, none⟩) (List.replicate cc.toNat xv).length cc.toNat)) (w.alloc (.cells _ e))
    rw [List.length_replicate]
    simp [execOp, ho, hx', hn', hrun]

theorem run_bound {v : Value} {n : Int} {y : Nat} {code : BoundsCode} (hv : ∃ k, v = .int k n) (h0 : 0 ≤ n) (h1 : n ≤ y) : (Instr.sliceBound v y code).run P w = .ok n.toNat w := by
  obtain ⟨k, rfl⟩ := hv
  have : 0 ≤ n ∧ n ≤ (y : Int) := ⟨h0, h1⟩
  simp [Instr.sliceBound, asIntOf, this]

theorem bnd_some {d n : Int} {x : AVal} {v : Value} (h : bnd d (some x) = some n) (hx : VRel w (Bad X0 F m) F m x v) : ∃ k, v = .int k n := by
  unfold bnd at h
  split at h
  · rename_i e; cases e
  · rename_i k n' e
    cases e
    cases h
    exact ⟨_, hx⟩
  · cases h

theorem sound_slice (hT : TyAll P T) (C : Core w0 X0 F m w) {t : Nat} {y : Operand} {lo hi : Option Operand} {ρ : Operand → AVal} (ho : o.op = .slice t y lo hi none)
    (hx : VRel w (Bad X0 F m) F m (ρ y) (a.eval y)) (hlo : ∀ x, lo = some x → VRel w (Bad X0 F m) F m (ρ x) (a.eval x)) (hhi : ∀ x, hi = some x → VRel w (Bad X0 F m) F m (ρ x) (a.eval x))
    (h : qslice (T t) (ρ y) (lo.map ρ) (hi.map ρ) Φ) : o.wp P a w (QPost w0 X0 F m w o a Φ) Q := by
  unfold qslice at h
  split at h
  case h_2 => exact h.elim
  rename_i e k bytes zl hTt
  have hnn : T t ≠ .no := by rw [hTt]; simp
  have h2 := ((hT t).resolve_left hnn).2
  rw [hTt] at h2
  obtain ⟨hu, hinfo, hzl⟩ := h2
  obtain ⟨ei, hei, hee⟩ := Option.map_eq_some_iff.1 hinfo
  simp only [Prod.mk.injEq] at hee
  split at h
  case h_2 => exact h.elim
  rename_i α k' cell xs hxe
  rw [hxe] at hx
  obtain ⟨A, c, he, h1, h63, h3⟩ := hx
  split at h
  case h_2 => exact h.elim
  rename_i hk
  have hk := Nat.eq_of_beq_eq_true hk
  subst hk
  split at h
  case h_2 => exact h.elim
  rename_i l hl
  split at h
  case h_2 => exact h.elim
  rename_i hh hhe
  obtain ⟨h0, hlh, hhn, h⟩ := h
  have hb : (Instr.sliceBounds true xs.length c (lo.map a.eval) (hi.map a.eval) none).run P w = .ok (l.toNat, hh.toNat, c) w := by
    unfold Instr.sliceBounds
    have hH : ∀ (code : BoundsCode) (x : Operand), hi = some x → (Instr.sliceBound (a.eval x) c code).run P w = .ok hh.toNat w := fun code x hx => by
      subst hx
      exact run_bound (bnd_some hhe (hhi x rfl)) (by omega) (by omega)
    have hL : ∀ (code : BoundsCode) (x : Operand), lo = some x → (Instr.sliceBound (a.eval x) hh.toNat code).run P w = .ok l.toNat w := fun code x hx => by
      subst hx
      exact run_bound (bnd_some hl (hlo x rfl)) (by omega) (by omega)
    cases hi with
    | none =>
      have e2 : hh = xs.length := by simpa [bnd] using hhe.symm
      cases lo with
      | none =>
        have e1 : l = 0 := by simpa [bnd] using hl.symm
        simp [e1, e2]
      | some x => simp [e2] at hL ⊢; simp [hL]
    | some x =>
      cases lo with
      | none =>
        have e1 : l = 0 := by simpa [bnd] using hl.symm
        simp [e1, hH _ x rfl]
      | some x' => simp [hH _ x rfl, hL _ x' rfl]
  have hlen : ((xs.take hh.toNat).drop l.toNat).length = hh.toNat - l.toNat := by rw [List.length_drop, List.length_take]; omega
  refine qpost_val C (x := .c (.sl α k cell ((xs.take hh.toNat).drop l.toNat))) (v := .slice (if c = l.toNat then A else A.map (·.add (l.toNat * ei.size))) (hh.toNat - l.toNat) (c - l.toNat)) ?_ ?_ h
  · simp [execOp, ho, Instr.sliceAt, run_underlying hu, Instr.slice, he, hb, sizeOf, typeInfo, hei]
  · rw [hee.2.1]
    refine ⟨_, c - l.toNat, by rw [hlen], by omega, by omega, fun hne => ?_⟩
    have hpos : 0 < hh.toNat - l.toNat := by rw [← hlen]; exact List.length_pos_iff.2 hne
    obtain ⟨b, off, rfl, hb', hbl, hcell⟩ := h3 (by intro e; subst e; simp at hhn; omega)
    refine ⟨b, off + l.toNat * k, by rw [if_neg (by omega)]; simp [add_mk], hb', hbl, fun j x hj i hi => ?_⟩
    rw [List.getElem?_drop, List.getElem?_take] at hj
    split at hj
    · obtain ⟨u, hu', hru⟩ := hcell _ x hj i hi
      refine ⟨u, ?_, hru⟩
      rw [← hu']
      congr 2
      rw [Nat.add_mul]
      omega
    · cases hj

theorem sound_func (C : Core w0 X0 F m w) {f : Fn} {first caps : Array Operand} {ρ : Operand → AVal} (ho : o.op = .makeFunc f first caps)
    (hρ : ∀ x, x ∈ caps.toList → VRel w (Bad X0 F m) F m (ρ x) (a.eval x)) (h : qfunc f (first.toList.map ρ) (caps.toList.map ρ) Φ) : o.wp P a w (QPost w0 X0 F m w o a Φ) Q := by
  unfold qfunc at h
  split at h
  case h_2 => exact h.elim
  rename_i g
  split at h
  case h_2 => exact h.elim
  rename_i hfirst
  have hfirst : first = #[] := by
    have : first.toList = [] := by simpa using hfirst
    exact Array.toList_eq_nil_iff.1 this
  subst hfirst
  have hrun : ∀ vs : List Value, caps.toList.map a.eval = vs → (execOp a.eval o).run P w = .ok (.value (.func (.func g) #[] vs.toArray)) w := by
    intro vs hvs
    have e1 : caps.map a.eval = vs.toArray := by rw [← hvs]; apply Array.ext'; simp
    simp [execOp, ho, Instr.makeFunc, e1]
  split at h
  · rename_i ls hls
    have key : ∀ (cl : List Operand) (ls : List Nat), (∀ x, x ∈ cl → VRel w (Bad X0 F m) F m (ρ x) (a.eval x)) → lptrs (cl.map ρ) = some ls →
        cl.map a.eval = ls.map (fun l => Value.pointer (some ⟨m.lb l, 0, none⟩)) ∧ ∀ l ∈ ls, ∃ cs, F.loc l = some cs := by
      intro cl
      induction cl with
      | nil => intro ls _ h; cases h; exact ⟨rfl, by simp⟩
      | cons x cl ih =>
        intro ls hρ h
        have hx := hρ x (by simp)
        simp only [List.map_cons] at h
        unfold lptrs at h
        split at h
        · rename_i e; cases e
        · rename_i l rest hl
          obtain ⟨hl1, hl2⟩ := List.cons.inj hl
          split at h
          case h_2 => cases h
          rename_i ls' hls'
          cases h
          rw [hl1] at hx
          obtain ⟨hcs, hv⟩ := hx
          obtain ⟨h1, h2⟩ := ih ls' (fun y hy => hρ y (by simp [hy])) (by rw [hl2]; exact hls')
          refine ⟨by simp [hv, h1], fun y hy => ?_⟩
          rcases List.mem_cons.1 hy with rfl | hy
          · exact hcs
          · exact h2 y hy
        · cases h
    obtain ⟨h1, h2⟩ := key caps.toList ls hρ hls
    exact qpost_val C (x := .p (.one (.clo g ls))) (hrun _ h1) ⟨rfl, h2⟩ h
  · split at h
    case h_2 => exact h.elim
    rename_i ys hys
    have key : ∀ (cl : List Operand) (ys : List CVal), (∀ x, x ∈ cl → VRel w (Bad X0 F m) F m (ρ x) (a.eval x)) → cvals (cl.map ρ) = some ys → All2 (Rep w (Bad X0 F m)) ys (cl.map a.eval) := by
      intro cl
      induction cl with
      | nil => intro ys _ h; cases h; trivial
      | cons x cl ih =>
        intro ys hρ h
        have hx := hρ x (by simp)
        simp only [List.map_cons] at h
        unfold cvals at h
        split at h
        · rename_i e; cases e
        · rename_i y rest hl
          obtain ⟨hl1, hl2⟩ := List.cons.inj hl
          split at h
          case h_2 => cases h
          rename_i ys' hys'
          cases h
          rw [hl1] at hx
          exact ⟨hx, ih ys' (fun y hy => hρ y (by simp [hy])) (by rw [hl2]; exact hys')⟩
        · cases h
    have h1 := key caps.toList ys hρ hys
    refine qpost_val C (x := .c (.fn g ys.length fun i => ys.getD i .nil)) (hrun _ rfl) ⟨_, rfl, h1.length.symm, fun i u hu => ?_⟩ h
    have hi : i < ys.length := by have := (List.getElem?_eq_some_iff.1 hu).1; have := h1.length; omega
    obtain ⟨v, hv, hr⟩ := h1.get i (List.getElem?_eq_getElem hi)
    rw [hu] at hv
    cases hv
    simpa [List.getD_eq_getElem?_getD, List.getElem?_eq_getElem hi] using hr
end
end Go.Fx

namespace Go.Fx
open Go.RowKit
set_option linter.unusedVariables false

section
variable {P : Program} {T : TypeId → Ty} {w0 w w1 : World} {X0 : Nat → Prop} {F : Mem} {m : Map} {a : Act} {o : Oper} {Q : Exit → Act → World → Prop} {lk : Look} {rk : LookR} {Φ : AVal → NObj → Prop}

theorem rep_false {X : Nat → Prop} {x : CVal} {v : Value} (h : Rep w X x v) : Rep w (fun _ => False) x v := h.sub fun _ hb => hb.elim

theorem toC0_rel (C : Core w0 X0 F m w) (hr : ∀ r p, F.row r = some p → rk r = some p) {x : Cell} {y : CVal} {v : Value} (he : toC0 rk x = some y) (h : CRel w (Bad X0 F m) F m x v) : Rep w (fun _ => False) y v := by
  cases x with
  | c x => cases he; exact rep_false h
  | own r ver =>
    obtain ⟨ver', R, hrow, hle, hv⟩ := h
    simp only [toC0, hr r _ hrow] at he
    split at he
    · rename_i hb
      cases he
      rw [hv (Nat.eq_of_beq_eq_true hb)]
      exact row_rep (C.row r ver' R hrow) _ fun _ hb => hb.elim
    · cases he
  | _ => simp [toC0] at he

theorem toCs_rel (C : Core w0 X0 F m w) (hr : ∀ r p, F.row r = some p → rk r = some p) : ∀ {cs : List Cell} {ys : List CVal} {vs : List Value}, toCs rk cs = some ys → All2 (CRel w (Bad X0 F m) F m) cs vs → All2 (Rep w fun _ => False) ys vs
  | [], ys, [], he, _ => by cases he; trivial
  | [], _, _ :: _, _, h => h.elim
  | _ :: _, _, [], _, h => h.elim
  | x :: cs, ys, v :: vs, he, h => by
    unfold toCs at he
    split at he
    case h_2 => cases he
    rename_i y hy
    split at he
    case h_2 => cases he
    rename_i ys' hys
    cases he
    exact ⟨toC0_rel C hr hy h.1, toCs_rel C hr hys h.2⟩

theorem refOf_rel (C : Core w0 X0 F m w) (hl : ∀ l cs, F.loc l = some cs → lk l = some cs) (hr : ∀ r p, F.row r = some p → rk r = some p) {l : Nat} {y : CVal} {cs : List Cell} (hcs : F.loc l = some cs) (he : refOf rk lk l = some y) :
    Rep w (fun _ => False) y (.pointer (some ⟨m.lb l, 0, none⟩)) := by
  unfold refOf at he
  rw [hl l cs hcs] at he
  simp only at he
  split at he
  case h_2 => cases he
  rename_i ys hys
  cases he
  obtain ⟨_, vs, t, hh, hall⟩ := C.loc l cs hcs
  have h2 := toCs_rel C hr hys hall
  refine ⟨_, _, rfl, fun h => h, (Array.getElem?_eq_some_iff.1 hh).1, fun i hi => ?_⟩
  obtain ⟨u, hu, hru⟩ := h2.get i (List.getElem?_eq_getElem hi)
  refine ⟨u, by rw [cell_of_row w _ _ vs t (0, 0) hh]; simpa using hu, ?_⟩
  simpa [List.getD_eq_getElem?_getD, List.getElem?_eq_getElem hi] using hru

theorem refsOf_rel (C : Core w0 X0 F m w) (hl : ∀ l cs, F.loc l = some cs → lk l = some cs) (hr : ∀ r p, F.row r = some p → rk r = some p) : ∀ {ls : List Nat} {ys : List CVal}, (∀ l ∈ ls, ∃ cs, F.loc l = some cs) → refsOf rk lk ls = some ys →
    All2 (Rep w fun _ => False) ys (ls.map fun l => Value.pointer (some ⟨m.lb l, 0, none⟩))
  | [], ys, _, he => by cases he; trivial
  | l :: ls, ys, hm, he => by
    unfold refsOf at he
    split at he
    case h_2 => cases he
    rename_i y hy
    split at he
    case h_2 => cases he
    rename_i ys' hys
    cases he
    obtain ⟨cs, hcs⟩ := hm l (by simp)
    exact ⟨refOf_rel C hl hr hcs hy, refsOf_rel C hl hr (fun x hx => hm x (by simp [hx])) hys⟩

theorem toC_rel (C : Core w0 X0 F m w) (hl : ∀ l cs, F.loc l = some cs → lk l = some cs) (hr : ∀ r p, F.row r = some p → rk r = some p) {x : Cell} {y : CVal} {v : Value} (he : toC rk lk x = some y) (h : CRel w (Bad X0 F m) F m x v) : Rep w (fun _ => False) y v := by
  cases x with
  | c x => cases he; exact rep_false h
  | own r ver => exact toC0_rel C hr (by simpa only [toC] using he) h
  | lptr l off =>
    cases off with
    | succ n => simp [toC] at he
    | zero =>
      obtain ⟨⟨cs, hcs⟩, rfl⟩ := h
      exact refOf_rel C hl hr hcs he
  | clo f ls =>
    simp only [toC] at he
    split at he
    case h_2 => cases he
    rename_i ys hys
    cases he
    obtain ⟨rfl, hm⟩ := h
    have h1 := refsOf_rel C hl hr hm hys
    refine ⟨_, rfl, h1.length.symm, fun i u hu => ?_⟩
    have hi : i < ys.length := by have := (List.getElem?_eq_some_iff.1 hu).1; have := h1.length; omega
    obtain ⟨v, hv, hr'⟩ := h1.get i (List.getElem?_eq_getElem hi)
    rw [hu] at hv
    cases hv
    simpa [List.getD_eq_getElem?_getD, List.getElem?_eq_getElem hi] using hr'
  | _ => simp [toC] at he

theorem toCl_rel (C : Core w0 X0 F m w) (hl : ∀ l cs, F.loc l = some cs → lk l = some cs) (hr : ∀ r p, F.row r = some p → rk r = some p) : ∀ {cs : List Cell} {ys : List CVal} {vs : List Value}, toCl rk lk cs = some ys → All2 (CRel w (Bad X0 F m) F m) cs vs → All2 (Rep w fun _ => False) ys vs
  | [], ys, [], he, _ => by cases he; trivial
  | [], _, _ :: _, _, h => h.elim
  | _ :: _, _, [], _, h => h.elim
  | x :: cs, ys, v :: vs, he, h => by
    unfold toCl at he
    split at he
    case h_2 => cases he
    rename_i y hy
    split at he
    case h_2 => cases he
    rename_i ys' hys
    cases he
    exact ⟨toC_rel C hl hr hy h.1, toCl_rel C hl hr hys h.2⟩

theorem toCl_plain : ∀ {cs : List Cell} {ys : List CVal} {vs : List Value}, allb plainC cs = true → toCl rk lk cs = some ys → All2 (CRel w (Bad X0 F m) F m) cs vs → All2 (Rep w (Bad X0 F m)) ys vs
  | [], ys, [], _, he, _ => by cases he; trivial
  | [], _, _ :: _, _, _, h => h.elim
  | _ :: _, _, [], _, _, h => h.elim
  | x :: cs, ys, v :: vs, hp, he, h => by
    unfold allb at hp
    split at hp
    case h_2 => cases hp
    rename_i hx
    unfold toCl at he
    split at he
    case h_2 => cases he
    rename_i y hy
    split at he
    case h_2 => cases he
    rename_i ys' hys
    cases he
    refine ⟨?_, toCl_plain hp hys h.2⟩
    cases x with
    | c x => cases hy; exact h.1
    | _ => simp [plainC] at hx

theorem toAv_rel (C : Core w0 X0 F m w) (hl : ∀ l cs, F.loc l = some cs → lk l = some cs) (hr : ∀ r p, F.row r = some p → rk r = some p) {x : AVal} {y : Av} {v : Value} (he : toAv rk lk x = some y) (h : VRel w (Bad X0 F m) F m x v) : ARep w (fun _ => False) y v := by
  unfold toAv at he
  split at he
  · split at he
    case h_2 => cases he
    rename_i hy
    cases he
    exact toC_rel C hl hr hy h
  · split at he
    case h_2 => cases he
    rename_i hy
    cases he
    obtain ⟨vs, rfl, hall⟩ := h
    exact ⟨vs, rfl, toCl_rel C hl hr hy hall⟩
  · cases he

theorem toAv_plain {x : AVal} {y : Av} {v : Value} (hp : plainA x = true) (he : toAv rk lk x = some y) (h : VRel w (Bad X0 F m) F m x v) : ARep w (Bad X0 F m) y v := by
  unfold toAv at he
  split at he
  · rename_i x
    split at he
    case h_2 => cases he
    rename_i hy
    cases he
    cases x with
    | c x => cases hy; exact h
    | _ => simp [plainA, plainC] at hp
  · split at he
    case h_2 => cases he
    rename_i hy
    cases he
    obtain ⟨vs, rfl, hall⟩ := h
    exact ⟨vs, rfl, toCl_plain hp hy hall⟩
  · cases he

theorem toAvs_rel (C : Core w0 X0 F m w) (hl : ∀ l cs, F.loc l = some cs → lk l = some cs) (hr : ∀ r p, F.row r = some p → rk r = some p) {ρ : Operand → AVal} : ∀ {args : List Operand} {as : List Av}, (∀ x ∈ args, VRel w (Bad X0 F m) F m (ρ x) (a.eval x)) → toAvs rk lk ρ args = some as →
    All2 (ARep w fun _ => False) as (args.map a.eval) ∧ (allb (fun x => plainA (ρ x)) args = true → All2 (ARep w (Bad X0 F m)) as (args.map a.eval))
  | [], as, _, he => by cases he; exact ⟨trivial, fun _ => trivial⟩
  | x :: args, as, hρ, he => by
    unfold toAvs at he
    split at he
    case h_2 => cases he
    rename_i y hy
    split at he
    case h_2 => cases he
    rename_i ys hys
    cases he
    obtain ⟨h1, h2⟩ := toAvs_rel C hl hr (fun z hz => hρ z (by simp [hz])) hys
    refine ⟨⟨toAv_rel C hl hr hy (hρ x (by simp)), h1⟩, fun hp => ?_⟩
    unfold allb at hp
    split at hp
    case h_2 => cases hp
    rename_i hx
    exact ⟨toAv_plain hx hy (hρ x (by simp)), h2 hp⟩

theorem capsL_rel {X : Nat → Prop} {caps : Nat → CVal} : ∀ (n i : Nat) (vs : List Value), vs.length = n → (∀ j u, vs[j]? = some u → Rep w X (caps (i + j)) u) → All2 (ARep w X) (capsL caps i n) vs
  | 0, _, [], _, _ => trivial
  | 0, _, _ :: _, h, _ => by simp at h
  | n + 1, _, [], h, _ => by simp at h
  | n + 1, i, v :: vs, h, hh => ⟨hh 0 v rfl, capsL_rel n (i + 1) vs (by simpa using h) fun j u hu => by rw [Nat.add_assoc, Nat.add_comm 1 j]; exact hh (j + 1) u (by simpa using hu)⟩

theorem ids_inj {d i j : Nat} (h : ids d i = ids d j) : i = j := by unfold ids at h; omega

theorem cat_map {α β γ : Type _} (f : α → List β) (g : β → γ) : ∀ l : List α, (cat f l).map g = cat (fun a => (f a).map g) l
  | [] => rfl
  | a :: l => by simp [cat, cat_map f g l]

theorem cat_congr {α β : Type _} {f g : α → List β} (h : ∀ a, f a = g a) (l : List α) : cat f l = cat g l := by rw [show f = g from funext h]

theorem rows_ids (d : Nat) (rv : Rv) : rv.rows (ids d) = (rv.rows id).map fun x => (ids d x.1, x.2) := by
  have h1 : ∀ x : RC, x.rows (ids d) = (x.rows id).map fun x => (ids d x.1, x.2) := fun x => by cases x <;> rfl
  have h2 : ∀ x : Rp, x.rows (ids d) = (x.rows id).map fun x => (ids d x.1, x.2) := fun x => by
    cases x with
    | one x => exact h1 x
    | agg l => show cat _ l = (cat _ l).map _; rw [cat_map]; exact cat_congr h1 l
  cases rv with
  | p x => exact h2 x
  | tup l => show cat _ l = (cat _ l).map _; rw [cat_map]; exact cat_congr h2 l

theorem lget_ids (d j : Nat) : ∀ L : List (Nat × Row), lget (L.map fun x => (ids d x.1, x.2)) (ids d j) = lget L j
  | [] => rfl
  | (k, R) :: L => by
    simp only [List.map_cons]
    rw [lget_cons, lget_cons, lget_ids d j L]
    by_cases e : k = j
    · subst e; simp
    · rw [if_neg e, if_neg fun h => e (ids_inj h)]

theorem lget_ids_inv (d r : Nat) : ∀ (L : List (Nat × Row)) {R : Row}, lget (L.map fun x => (ids d x.1, x.2)) r = some R → ∃ j, r = ids d j ∧ lget L j = some R := by
  intro L R h
  have hm := lget_mem h
  obtain ⟨⟨j, R'⟩, _, he⟩ := List.mem_map.1 hm
  simp only [Prod.mk.injEq] at he
  obtain ⟨rfl, rfl⟩ := he
  exact ⟨j, rfl, by rw [lget_ids] at h; exact h⟩

theorem sound_call (C : Core w0 X0 F m w) (hl : ∀ l cs, F.loc l = some cs → lk l = some cs) (hr : ∀ r p, F.row r = some p → rk r = some p) {ρ : Operand → AVal} {d : Nat} {f : Operand} {args : Array Operand} {ts : Array TypeId}
    (ho : o.op = .call { callee := .value f, args, argTypes := ts }) (hf : ∀ x n, Φ x n → Fresh F n) (hfo : VRel w (Bad X0 F m) F m (ρ f) (a.eval f)) (hρ : ∀ x ∈ args.toList, VRel w (Bad X0 F m) F m (ρ x) (a.eval x))
    (h : qcall P rk lk ρ d f args.toList Φ) : o.wp P a w (QPost w0 X0 F m w o a Φ) Q := by
  unfold qcall at h
  split at h
  case h_2 => exact h.elim
  rename_i g more pl hcal
  split at h
  case h_2 => exact h.elim
  rename_i as has
  obtain ⟨hA1, hA2⟩ := toAvs_rel C hl hr hρ has
  -- whom it enters
  have hcallee : ∃ caps : List Value, a.eval f = .func (.func g) #[] caps.toArray ∧ All2 (ARep w fun _ => False) more caps ∧ (pl = true → All2 (ARep w (Bad X0 F m)) more caps) := by
    generalize ρ f = y at hcal hfo
    unfold callee at hcal
    split at hcal
    · rename_i f' n caps
      simp only [Option.some.injEq, Prod.mk.injEq] at hcal
      obtain ⟨rfl, rfl, rfl⟩ := hcal
      obtain ⟨vs, he, hlen, hv⟩ := hfo
      exact ⟨vs, he, capsL_rel _ 0 vs hlen fun j u hu => by rw [Nat.zero_add]; exact rep_false (hv j u hu), fun _ => capsL_rel _ 0 vs hlen fun j u hu => by rw [Nat.zero_add]; exact hv j u hu⟩
    · rename_i f' ls
      split at hcal
      case h_2 => cases hcal
      rename_i ys hys
      simp only [Option.some.injEq, Prod.mk.injEq] at hcal
      obtain ⟨rfl, rfl, rfl⟩ := hcal
      obtain ⟨he, hm⟩ := hfo
      have h1 := refsOf_rel C hl hr hm hys
      have hmap : ∀ {X : Nat → Prop} {ys : List CVal} {vs : List Value}, All2 (Rep w X) ys vs → All2 (ARep w X) (ys.map .one) vs := by
        intro X ys
        induction ys with
        | nil => intro vs h; cases vs <;> exact h
        | cons y ys ih => intro vs h; cases vs with
          | nil => exact h
          | cons v vs => exact ⟨h.1, ih h.2⟩
      refine ⟨_, he, hmap h1, fun hp => ?_⟩
      cases ls with
      | nil => cases hys; trivial
      | cons => cases hp
    · cases hcal
  obtain ⟨caps, hfe, hM1, hM2⟩ := hcallee
  -- the call
  have hgo : ∀ (X Y : Nat → Prop) (rv : Rv), (∀ b, Y b → b < w.heap.size) → All2 (ARep w X) (as ++ more) (args.toList.map a.eval ++ caps) → Enters P g →
      Calls P g (args.toList.map a.eval ++ caps).toArray w (fun e w' => Below w.heap.size w w' ∧ ∃ v, e = .returned v ∧ RvRep w.heap.size w' Y rv v) → ((∀ b, Bad X0 F m b → Y b) ∨ FlatRv rv) →
      Φ (rv.a (ids d)) (.rows (rv.rows (ids d))) → o.wp P a w (QPost w0 X0 F m w o a Φ) Q := by
    rintro X0' X rv hX hall hent hcalls hor hΦ
    have hrun : (execOp a.eval o).run P w = .ok (.enter g (args.toList.map a.eval ++ caps).toArray) w := by
      have e1 : args.map a.eval ++ caps.toArray = (args.toList.map a.eval ++ caps).toArray := by apply Array.ext'; simp
      simp only [execOp, ho, resolve, hfe, Deferred.ofValue, Sem.run_bind, Sem.run_pure, Result.andThen_ok, invoke, Array.empty_append]
      rw [e1]
      exact hent _ _
    unfold Oper.wp
    rw [hrun]
    refine hcalls.mono fun e w' hR => ?_
    obtain ⟨hbel, v, rfl, vo, hrow, hsep, hval⟩ := hR
    show QPost w0 X0 F m w o a Φ (a.put o.dst v) w'
    -- flat results read whatever is shut out
    have hfr := hf _ _ hΦ
    have hrx : ∀ b, RX X (rv.rows id) vo b → (b < w.heap.size ∧ X b) ∨ ∃ r R, lget (rv.rows id) r = some R ∧ (vo r).ownBlock = some b := fun b hb => hb.imp (fun h => ⟨hX b h, h⟩) id
    let vo' : Nat → Value := fun r => vo ((r - d) / 1000)
    have hvo' : ∀ j, vo' (ids d j) = vo j := fun j => by
      show vo ((d + 1000 * j - d) / 1000) = vo j
      congr 1; omega
    have hL := rows_ids d rv
    have hRX : ∀ b, (Bad X0 F m b ∨ ∃ r' R', lget (rv.rows (ids d)) r' = some R' ∧ (vo' r').ownBlock = some b) → (∀ b, Bad X0 F m b → X b) → RX X (rv.rows id) vo b := by
      rintro b (hb | ⟨r', R', hr', hb⟩) hX'
      · exact .inl (hX' b hb)
      · rw [hL] at hr'
        obtain ⟨j, rfl, hj⟩ := lget_ids_inv d r' _ hr'
        exact .inr ⟨j, R', hj, by rw [← hvo' j]; exact hb⟩
    have flatRow : FlatRv rv → ∀ r R, lget (rv.rows id) r = some R → ∀ x i, Flat (R.cell x i) := by
      intro hfl r R hrR
      have hmem := lget_mem hrR
      have h1 : ∀ x : RC, FlatRC x → ∀ p ∈ x.rows id, ∀ y i, Flat (p.2.cell y i) := fun x hx p hp => by
        cases x with
        | c x => simp [RC.rows] at hp
        | row j R => simp [RC.rows] at hp; subst hp; exact hx
      have hcat : ∀ {α : Type _} (f : α → List (Nat × Row)) (l : List α) (p : Nat × Row), p ∈ cat f l → ∃ a ∈ l, p ∈ f a := by
        intro α f l p
        induction l with
        | nil => intro h; simp [cat] at h
        | cons a l ih =>
          intro h
          simp only [cat, List.mem_append] at h
          rcases h with h | h
          · exact ⟨a, by simp, h⟩
          · obtain ⟨b, hb, h⟩ := ih h; exact ⟨b, by simp [hb], h⟩
      have h2 : ∀ x : Rp, FlatRp x → ∀ p ∈ x.rows id, ∀ y i, Flat (p.2.cell y i) := fun x hx p hp => by
        cases x with
        | one x => exact h1 x hx p hp
        | agg l => obtain ⟨c, hc, hp⟩ := hcat _ l p hp; exact h1 c (hx c hc) p hp
      cases rv with
      | p x => exact h2 x hfl _ hmem
      | tup l => obtain ⟨c, hc, hp⟩ := hcat _ l _ hmem; exact h2 c (hfl c hc) _ hp
    obtain ⟨C', gr⟩ := core_newRows C hbel (rv.rows (ids d)) vo' hfr (fun r R hrR => by
      rw [hL] at hrR
      obtain ⟨j, rfl, hj⟩ := lget_ids_inv d r _ hrR
      rw [hvo' j]
      rcases hrow j R hj with hn | ⟨g0, o1, c, cur, he, h1, h2, h3, h4, h5, h6⟩
      · exact .inl hn
      · refine .inr ⟨g0, o1, c, cur, he, h1, h2, h3, h4, h5, fun jj x hjj i hi => ?_⟩
        obtain ⟨u, hu, hru⟩ := h6 jj x hjj i hi
        refine ⟨u, hu, ?_⟩
        rcases hor with hX' | hfl
        · exact hru.sub fun b hb => hRX b hb hX'
        · exact flatRow hfl j R hj x i _ _ _ _ _ hru) (fun r r' R R' b h1 h2 hb hb' => by
      rw [hL] at h1 h2
      obtain ⟨j, rfl, hj⟩ := lget_ids_inv d r _ h1
      obtain ⟨j', rfl, hj'⟩ := lget_ids_inv d r' _ h2
      rw [hvo' j] at hb
      rw [hvo' j'] at hb'
      rw [hsep j j' R R' b hj hj' hb hb'])
    refine ⟨rv.a (ids d), .rows (rv.rows (ids d)), v, m.addRows (rv.rows (ids d)) vo', hΦ, rfl, C', gr, ?_⟩
    -- the value
    obtain ⟨F', hF'⟩ : ∃ F' : Mem, F' = F.add (.rows (rv.rows (ids d))) := ⟨_, rfl⟩
    obtain ⟨m', hm'⟩ : ∃ m' : Map, m' = m.addRows (rv.rows (ids d)) vo' := ⟨_, rfl⟩
    rw [← hF', ← hm'] at gr ⊢
    have hsub : (∀ b, Bad X0 F m b → X b) → ∀ b, Bad X0 F' m' b → RX X (rv.rows id) vo b := by
      rintro hX' b (hb | hb)
      · exact .inl (hX' b (.inl hb))
      · rcases hb with ⟨l, cs, h1, h2⟩ | ⟨r, ver, R, h1, h2⟩
        · refine .inl ?_
          refine hX' b (.inr (.inl ⟨l, cs, ?_, ?_⟩))
          · rw [hF'] at h1; exact h1
          · rw [hm'] at h2; exact h2
        · cases hg : lget (rv.rows (ids d)) r with
          | none =>
            refine .inl ?_
            refine hX' b (.inr (.inr ⟨r, ver, R, ?_, ?_⟩))
            · rw [hF'] at h1; simpa [Mem.add, hg] using h1
            · rw [hm'] at h2; simpa [Map.addRows, hg] using h2
          | some R' =>
            refine hRX b (.inr ⟨r, R', hg, ?_⟩) hX'
            rw [hm'] at h2; simpa [Map.addRows, hg] using h2
    have hcell : ∀ (x : RC) (u : Value), FlatRC x ∨ (∀ b, Bad X0 F m b → X b) → CRel w' (RX X (rv.rows id) vo) ⟨fun _ => none, fun r => (lget (rv.rows id) r).map fun R => (0, R)⟩ ⟨fun _ => 0, vo⟩ (x.a id) u →
        CRel w' (Bad X0 F' m') F' m' (x.a (ids d)) u := by
      intro x u hx h
      cases x with
      | c x =>
        rcases hx with hx | hx
        · exact hx _ _ _ _ _ h
        · exact Rep.sub (hsub hx) h
      | row j R =>
        obtain ⟨ver', R', h1, h2, h3⟩ := h
        obtain ⟨R2, h4, h5⟩ := Option.map_eq_some_iff.1 h1
        simp only [Prod.mk.injEq] at h5
        obtain ⟨rfl, rfl⟩ := h5
        have h6 : lget (rv.rows (ids d)) (ids d j) = some R2 := by rw [hL, lget_ids]; exact h4
        refine ⟨0, R2, ?_, Nat.le_refl _, fun _ => ?_⟩
        · rw [hF']; simp [Mem.add, h6]
        · rw [h3 rfl, hm']; simp [Map.addRows, h6, hvo']
    have hcells : ∀ (l : List RC) (us : List Value), (∀ x ∈ l, FlatRC x) ∨ (∀ b, Bad X0 F m b → X b) → All2 (CRel w' (RX X (rv.rows id) vo) ⟨fun _ => none, fun r => (lget (rv.rows id) r).map fun R => (0, R)⟩ ⟨fun _ => 0, vo⟩) (l.map (RC.a id)) us →
        All2 (CRel w' (Bad X0 F' m') F' m') (l.map (RC.a (ids d))) us := by
      intro l
      induction l with
      | nil => intro us _ h; cases us <;> exact h
      | cons x l ih => intro us hx h; cases us with
        | nil => exact h
        | cons u us => exact ⟨hcell x u (hx.imp (fun h => h x (by simp)) id) h.1, ih us (hx.imp (fun h y hy => h y (by simp [hy])) id) h.2⟩
    have hpart : ∀ (x : Rp) (u : Value), FlatRp x ∨ (∀ b, Bad X0 F m b → X b) → PRel w' (RX X (rv.rows id) vo) ⟨fun _ => none, fun r => (lget (rv.rows id) r).map fun R => (0, R)⟩ ⟨fun _ => 0, vo⟩ (x.a id) u →
        PRel w' (Bad X0 F' m') F' m' (x.a (ids d)) u := by
      intro x u hx h
      cases x with
      | one x => exact hcell x u hx h
      | agg l => obtain ⟨us, rfl, h⟩ := h; exact ⟨us, rfl, hcells l us hx h⟩
    have hparts : ∀ (l : List Rp) (us : List Value), (∀ x ∈ l, FlatRp x) ∨ (∀ b, Bad X0 F m b → X b) → All2 (PRel w' (RX X (rv.rows id) vo) ⟨fun _ => none, fun r => (lget (rv.rows id) r).map fun R => (0, R)⟩ ⟨fun _ => 0, vo⟩) (l.map (Rp.a id)) us →
        All2 (PRel w' (Bad X0 F' m') F' m') (l.map (Rp.a (ids d))) us := by
      intro l
      induction l with
      | nil => intro us _ h; cases us <;> exact h
      | cons x l ih => intro us hx h; cases us with
        | nil => exact h
        | cons u us => exact ⟨hpart x u (hx.imp (fun h => h x (by simp)) id) h.1, ih us (hx.imp (fun h y hy => h y (by simp [hy])) id) h.2⟩
    have hor' : FlatRv rv ∨ (∀ b, Bad X0 F m b → X b) := hor.symm
    generalize hrvv : rv = rv2 at hval hor' ⊢
    cases rv2 with
    | p x => subst hrvv; exact hpart x v hor' hval
    | tup l => subst hrvv; obtain ⟨us, rfl, h⟩ := hval; exact ⟨us, rfl, hparts l us hor' h⟩
  have happ : ∀ {X : Nat → Prop}, All2 (ARep w X) as (args.toList.map a.eval) → All2 (ARep w X) more caps → All2 (ARep w X) (as ++ more) (args.toList.map a.eval ++ caps) := fun h1 h2 => h1.append h2
  split at h
  · rename_i hp
    rw [Bool.and_eq_true] at hp
    obtain ⟨rv, hct, hΦ⟩ := h
    have hlt : ∀ b, Bad X0 F m b → b < w.heap.size := fun b hb => by
      rcases hb with hb | hb
      · exact C.xlt b hb
      · exact (C.own_ge hb).2
    have hall := happ (hA2 hp.2) (hM2 hp.1)
    exact hgo (Bad X0 F m) (Bad X0 F m) rv hlt hall hct.1 (hct.2 w _ _ hlt hall) (.inl fun b hb => hb) hΦ
  · obtain ⟨rv, hct, hfl, hΦ⟩ := h
    have hall : All2 (ARep w fun _ => False) (as ++ more) (args.toList.map a.eval ++ caps) := happ hA1 hM1
    rcases hfl with hfl | hcf
    · exact hgo (fun _ => False) (fun _ => False) rv (fun b hb => hb.elim) hall hct.1 (hct.2 w _ _ (fun b hb => hb.elim) hall) (.inr hfl) hΦ
    · refine hgo (fun _ => False) (fun b => b < w.heap.size) rv (fun b hb => hb) hall hct.1 (hcf.2 w _ _ (fun b hb => hb.elim) hall) (.inl fun b hb => ?_) hΦ
      rcases hb with hb | hb
      · exact C.xlt b hb
      · exact (C.own_ge hb).2
end
end Go.Fx

namespace Go.Fx
open Go.RowKit
set_option linter.unusedVariables false

/-- '==' of structs and arrays, told beside. -/
def EqAgg (P : Program) (t : TypeId) (xs ys : List CVal) (r : Bool) : Prop :=
  ∀ (w : World) (X : Nat → Prop) (vx vy : List Value) (op : BinOp) (y z : Operand), All2 (Rep w X) xs vx → All2 (Rep w X) ys vy →
    (eqGuard op t y z (.agg vx.toArray) (.agg vy.toArray)).run P w = .ok () w ∧ (Op.equal t (.agg vx.toArray) (.agg vy.toArray)).run P w = .ok r w

def cvs : List Cell → Option (List CVal)
  | [] => some []
  | .c x :: l => match cvs l with
    | some ys => some (x :: ys)
    | none => none
  | _ => none
def nlen (rk : LookR) : AVal → Option Nat
  | .p (.one (.c (.sl _ _ _ xs))) => some xs.length
  | .p (.one (.own r ver)) => match rk r with
    | some (ver', R) => match Nat.beq ver ver' with
      | true => some R.xs.length
      | false => none
    | none => none
  | _ => none
def qnil (op : BinOp) (n : Nat) (Φ : AVal → NObj → Prop) : Prop :=
  match op with
  | .eql => ∀ t : Bool, (n ≠ 0 → t = false) → Φ (.c (.bool t)) .no
  | .neq => ∀ t : Bool, (n ≠ 0 → t = true) → Φ (.c (.bool t)) .no
  | _ => False
def qeqa (P : Program) (op : BinOp) (t : TypeId) (l l' : List Cell) (Φ : AVal → NObj → Prop) : Prop :=
  match cvs l with
  | some xs => match cvs l' with
    | some ys => match op with
      | .eql => ∃ r, EqAgg P t xs ys r ∧ Φ (.c (.bool r)) .no
      | .neq => ∃ r, EqAgg P t xs ys r ∧ Φ (.c (.bool (!r))) .no
      | _ => False
    | none => False
  | none => False
def qbinY (op : BinOp) (T : Ty) (rk : LookR) (x y : AVal) (Φ : AVal → NObj → Prop) : Prop :=
  match y with
  | .p (.one (.c .nil)) => match nlen rk x with
    | some n => match T with
      | .sl .. => qnil op n Φ
      | _ => False
    | none => qbin op T x y Φ
  | _ => qbin op T x y Φ
def qbinX (P : Program) (op : BinOp) (t : TypeId) (T : Ty) (rk : LookR) (x y : AVal) (Φ : AVal → NObj → Prop) : Prop :=
  match x with
  | .p (.agg l) => match y with
    | .p (.agg l') => qeqa P op t l l' Φ
    | _ => False
  | _ => qbinY op T rk x y Φ

def qop (P : Program) (T : TypeId → Ty) (lk : Look) (rk : LookR) (ρ : Operand → AVal) (d : Nat) (o : Op) (Φ : AVal → NObj → Prop) : Prop :=
  match o with
  | .move x => Φ (ρ x) .no
  | .assign x => Φ (ρ x) .no
  | .pick c p q => match ρ c with
    | .p (.one (.c (.bool t))) => acond t (Φ (ρ p) .no) (Φ (ρ q) .no)
    | _ => False
  | .alloc t => qalloc (T t) d Φ
  | .box t x => qbox (T t) rk d (ρ x) Φ
  | .build t parts => qbuild T rk ρ t parts.toList Φ
  | .buildSlice t len parts => qslit T rk ρ d t len parts.toList Φ
  | .load t x => match T t with
    | .no => False
    | u => qload u lk rk (ρ x) Φ
  | .binOp op t x y _ => qbinX P op t (T t) rk (ρ x) (ρ y) Φ
  | .unOp op _ x => qun op (ρ x) Φ
  | .convert s t x => match T s with
    | .int _ => match T t with
      | .int k => match ρ x with
        | .p (.one (.c (.int _ n))) => ∃ z, k.wrap n = z ∧ Φ (.c (.int k z)) .no
        | _ => False
      | _ => False
    | _ => False
  | .fieldAddr t x f => qfield (T t) rk (ρ x) f Φ
  | .field t x f => qfieldv T t (ρ x) f Φ
  | .indexAddr t x i => qidx (T t) rk (ρ x) (ρ i) Φ
  | .index t x i => qindexv T t (ρ x) (ρ i) Φ
  | .extract x i => match ρ x with
    | .tup l => match l[i]? with
      | some y => Φ (.p y) .no
      | none => False
    | _ => False
  | .makeSlice t n c => qmake T d t (ρ n) (ρ c) Φ
  | .slice t x lo hi mx => match mx with
    | none => qslice (T t) (ρ x) (lo.map ρ) (hi.map ρ) Φ
    | some _ => False
  | .makeFunc f first caps => qfunc f (first.toList.map ρ) (caps.toList.map ρ) Φ
  | .call c => match c.callee with
    | .value f => qcall P rk lk ρ d f c.args.toList Φ
    | .builtin b => match b with
      | .len => match c.args.toList with
        | [x] => match c.argTypes.toList with
          | [t] => qlen (T t) rk (ρ x) Φ
          | _ => False
        | _ => False
      | .min => match c.args.toList with
        | [x, y] => match ρ x with
          | .p (.one (.c (.int k p))) => match ρ y with
            | .p (.one (.c (.int k' q))) => k = k' ∧ Φ (.c (.int k (min p q))) .no
            | _ => False
          | _ => False
        | _ => False
      | .max => match c.args.toList with
        | [x, y] => match ρ x with
          | .p (.one (.c (.int k p))) => match ρ y with
            | .p (.one (.c (.int k' q))) => k = k' ∧ Φ (.c (.int k (max p q))) .no
            | _ => False
          | _ => False
        | _ => False
      | _ => False
    | _ => False
  | .nilCheck x => match ρ x with
    | .p (.one (.c (.fn f n caps))) => Φ (.c (.fn f n caps)) .no
    | .p (.one (.clo f ls)) => Φ (.p (.one (.clo f ls))) .no
    | .p (.one (.lptr l o)) => Φ (.p (.one (.lptr l o))) .no
    | .p (.one (.c (.ref k cell))) => Φ (.c (.ref k cell)) .no
    | _ => False
  | _ => False

section
variable {P : Program} {T : TypeId → Ty} {w0 w : World} {X0 : Nat → Prop} {F : Mem} {m : Map} {a : Act} {o : Oper} {Q : Exit → Act → World → Prop} {lk : Look} {rk : LookR} {Φ : AVal → NObj → Prop}

theorem cvs_rel {X : Nat → Prop} {G : Mem} : ∀ {l : List Cell} {xs : List CVal} {vs : List Value}, cvs l = some xs → All2 (CRel w X G m) l vs → All2 (Rep w X) xs vs
  | [], xs, [], h, _ => by cases h; trivial
  | [], _, _ :: _, _, hh => hh.elim
  | .c x :: l, xs, [], _, hh => hh.elim
  | .c x :: l, xs, v :: vs, h, hh => by
    unfold cvs at h
    split at h
    · rename_i ys hy
      cases h
      exact ⟨hh.1, cvs_rel hy hh.2⟩
    · cases h
  | .any :: _, _, _, h, _ => by simp [cvs] at h
  | .lptr .. :: _, _, _, h, _ => by simp [cvs] at h
  | .optr .. :: _, _, _, h, _ => by simp [cvs] at h
  | .own .. :: _, _, _, h, _ => by simp [cvs] at h
  | .clo .. :: _, _, _, h, _ => by simp [cvs] at h

theorem sound_binX (hT : TyAll P T) (C : Core w0 X0 F m w) (hr : ∀ r p, F.row r = some p → rk r = some p) {op : BinOp} {t t' : TypeId} {y z : Operand} {x i : AVal} (ho : o.op = .binOp op t y z t')
    (hx : VRel w (Bad X0 F m) F m x (a.eval y)) (hi : VRel w (Bad X0 F m) F m i (a.eval z)) (h : qbinX P op t (T t) rk x i Φ) : o.wp P a w (QPost w0 X0 F m w o a Φ) Q := by
  unfold qbinX at h
  split at h
  · rename_i l
    split at h
    case h_2 => exact h.elim
    rename_i l'
    obtain ⟨vx, hx', hx⟩ := hx
    obtain ⟨vy, hy', hy⟩ := hi
    unfold qeqa at h
    split at h
    case h_2 => exact h.elim
    rename_i xs hxs
    split at h
    case h_2 => exact h.elim
    rename_i ys hys
    have h1 := cvs_rel hxs hx
    have h2 := cvs_rel hys hy
    split at h
    · obtain ⟨r, he, h⟩ := h
      have hg := fun op => (he w _ vx vy op y z h1 h2).1
      have hq := (he w _ vx vy .eql y z h1 h2).2
      exact qpost_val C (x := .c (.bool r)) (v := .bool r) (by simp [execOp, ho, hx', hy', hg, binOp, hq]) rfl h
    · obtain ⟨r, he, h⟩ := h
      have hg := fun op => (he w _ vx vy op y z h1 h2).1
      have hq := (he w _ vx vy .eql y z h1 h2).2
      exact qpost_val C (x := .c (.bool (!r))) (v := .bool (!r)) (by simp [execOp, ho, hx', hy', hg, binOp, hq]) rfl h
    · exact h.elim
  · unfold qbinY at h
    split at h
    · split at h
      · rename_i n hn
        split at h
        case h_2 => exact h.elim
        rename_i e k bytes zz hTt
        have h2 := ((hT t).resolve_left (by rw [hTt]; simp)).2
        rw [hTt] at h2
        have hi' : a.eval z = .slice none 0 0 := hi
        have hval : ∃ A c, a.eval y = .slice A n c ∧ (n ≠ 0 → A.isNone = false) := by
          unfold nlen at hn
          split at hn
          · cases hn
            obtain ⟨A, c, hv, _, _, h3⟩ := hx
            refine ⟨A, c, hv, fun h0 => ?_⟩
            obtain ⟨b, off, rfl, _⟩ := h3 (fun e => h0 (by rw [e]; rfl))
            rfl
          · split at hn
            case h_2 => cases hn
            rename_i ver' R hR
            split at hn
            case h_2 => cases hn
            rename_i hb
            cases hn
            obtain ⟨v0, R0, h1, _, h3⟩ := hx
            have h4 := hr _ _ h1
            rw [hR] at h4
            cases h4
            rw [h3 (Nat.eq_of_beq_eq_true hb)]
            rcases C.row _ _ _ h1 with ⟨hv, h0⟩ | ⟨g, o1, c, cur, hv, _⟩
            · rw [hv, h0]
              exact ⟨none, 0, rfl, fun h => absurd rfl h⟩
            · exact ⟨_, c, hv, fun _ => rfl⟩
          · cases hn
        obtain ⟨A, c, hv, hA⟩ := hval
        have hg : ∀ op, eqGuard op t y z (.slice A n c) (.slice none 0 0) = pure () := fun op => eqGuard_agg_free (by simp) (by simp)
        unfold qnil at h
        split at h
        · refine qpost_val C (x := .c (.bool A.isNone)) (v := .bool A.isNone) ?_ rfl (h A.isNone hA)
          simp [execOp, ho, hv, hi', hg, binOp, run_equal_slice_nil w t e A n c h2.1]
        · refine qpost_val C (x := .c (.bool (!A.isNone))) (v := .bool (!A.isNone)) ?_ rfl (h (!A.isNone) (fun h0 => by rw [hA h0]; rfl))
          simp [execOp, ho, hv, hi', hg, binOp, run_equal_slice_nil w t e A n c h2.1]
        · exact h.elim
      · exact sound_bin hT C ho hx hi h
    · exact sound_bin hT C ho hx hi h

theorem sound_q (hT : TyAll P T) (C : Core w0 X0 F m w) (hl : ∀ l cs, F.loc l = some cs → lk l = some cs) (hr : ∀ r p, F.row r = some p → rk r = some p) {ρ : Operand → AVal} (d : Nat)
    (hρ : ∀ x ∈ o.op.operands.toList, VRel w (Bad X0 F m) F m (ρ x) (a.eval x)) (hf : ∀ x n, Φ x n → Fresh F n) (h : qop P T lk rk ρ d o.op Φ) : o.wp P a w (QPost w0 X0 F m w o a Φ) Q := by
  cases ho : o.op with
  | move x => rw [ho] at h hρ; exact sound_move C (.inl ho) (hρ x (by simp [Op.operands])) h
  | assign x => rw [ho] at h hρ; exact sound_move C (.inr ho) (hρ x (by simp [Op.operands])) h
  | pick c p q =>
    rw [ho] at h hρ
    have hc := hρ c (by simp [Op.operands])
    simp only [qop] at h
    split at h
    case h_2 => exact h.elim
    rename_i t he
    rw [he] at hc
    exact sound_pick C ho hc (hρ p (by simp [Op.operands])) (hρ q (by simp [Op.operands])) h
  | alloc t => rw [ho] at h; exact sound_alloc hT C ho hf h
  | box t x => rw [ho] at h hρ; exact sound_box (T := T) C hr ho hf (hρ x (by simp [Op.operands])) h
  | build t parts => rw [ho] at h hρ; exact sound_build hT C hr ho (fun x hx => hρ x (by simpa [Op.operands] using hx)) h
  | buildSlice t len parts => rw [ho] at h hρ; exact sound_slit hT C hr ho hf (fun x hx => hρ x (by simpa [Op.operands] using hx)) h
  | load t x =>
    rw [ho] at h hρ
    simp only [qop] at h
    split at h
    · exact h.elim
    · rename_i hn
      exact sound_load hT C hl hr ho hn (hρ x (by simp [Op.operands])) h
  | binOp op t x y t' => rw [ho] at h hρ; exact sound_binX hT C hr ho (hρ x (by simp [Op.operands])) (hρ y (by simp [Op.operands])) h
  | unOp op t x => rw [ho] at h hρ; exact sound_un C ho (hρ x (by simp [Op.operands])) h
  | convert s t x =>
    rw [ho] at h hρ
    have hx := hρ x (by simp [Op.operands])
    simp only [qop] at h
    split at h
    case h_2 => exact h.elim
    rename_i k1 hs
    split at h
    case h_2 => exact h.elim
    rename_i k ht
    split at h
    case h_2 => exact h.elim
    rename_i k2 n he
    rw [he] at hx
    have hx' : a.eval x = .int k2 n := hx
    have h2 := ((hT t).resolve_left (by rw [ht]; simp)).2
    have h1 := ((hT s).resolve_left (by rw [hs]; simp)).2
    rw [ht] at h2
    rw [hs] at h1
    obtain ⟨z, rfl, h⟩ := h
    exact qpost_val C (x := .c (.int k (k.wrap n))) (v := .int k (k.wrap n)) (by simp [execOp, ho, hx', convert, run_underlying h2, run_underlying h1, Conv.intToInt]) rfl h
  | fieldAddr t x f => rw [ho] at h hρ; exact sound_field hT C hr ho (hρ x (by simp [Op.operands])) h
  | field t x f => rw [ho] at h hρ; exact sound_fieldv hT C ho (hρ x (by simp [Op.operands])) h
  | indexAddr t x i => rw [ho] at h hρ; exact sound_idx hT C hr ho (hρ x (by simp [Op.operands])) (hρ i (by simp [Op.operands])) h
  | index t x i => rw [ho] at h hρ; exact sound_indexv hT C ho (hρ x (by simp [Op.operands])) (hρ i (by simp [Op.operands])) h
  | extract x i =>
    rw [ho] at h hρ
    have hx := hρ x (by simp [Op.operands])
    simp only [qop] at h
    split at h
    case h_2 => exact h.elim
    rename_i l he
    split at h
    case h_2 => exact h.elim
    rename_i y hy
    rw [he] at hx
    exact sound_extract C ho hx hy h
  | makeSlice t n c => rw [ho] at h hρ; exact sound_make hT C ho hf (hρ n (by simp [Op.operands])) (hρ c (by simp [Op.operands])) h
  | slice t x lo hi mx =>
    rw [ho] at h hρ
    simp only [qop] at h
    split at h
    case h_2 => exact h.elim
    exact sound_slice hT C ho (hρ x (by simp [Op.operands])) (fun y hy => hρ y (by subst hy; simp [Op.operands])) (fun y hy => hρ y (by subst hy; simp [Op.operands])) h
  | makeFunc f first caps => rw [ho] at h hρ; exact sound_func C ho (fun x hx => hρ x (by simp [Op.operands] at hx ⊢; exact .inr hx)) h
  | nilCheck x =>
    rw [ho] at h hρ
    have hx := hρ x (by simp [Op.operands])
    simp only [qop] at h
    split at h
    · rename_i f n caps he
      rw [he] at hx
      obtain ⟨vs, hv, _⟩ := id hx
      exact qpost_val C (x := .c (.fn f n caps)) (v := a.eval x) (by simp [execOp, ho, hv]) hx h
    · rename_i f ls he
      rw [he] at hx
      obtain ⟨hv, _⟩ := id hx
      exact qpost_val C (x := .p (.one (.clo f ls))) (v := a.eval x) (by simp [execOp, ho, hv]) hx h
    · rename_i l off he
      rw [he] at hx
      obtain ⟨_, hv⟩ := id hx
      exact qpost_val C (x := .p (.one (.lptr l off))) (v := a.eval x) (by simp [execOp, ho, hv]) hx h
    · rename_i k cell he
      rw [he] at hx
      obtain ⟨b, off, hv, _⟩ := id hx
      exact qpost_val C (x := .c (.ref k cell)) (v := a.eval x) (by simp [execOp, ho, hv]) hx h
    · exact h.elim
  | call c =>
    rw [ho] at h hρ
    obtain ⟨cal, args, ts⟩ := c
    cases cal with
    | value f => exact sound_call C hl hr ho hf (hρ f (by simp [Op.operands, Call.operands])) (fun x hx => hρ x (by simp [Op.operands, Call.operands]; simp at hx; exact .inr hx)) h
    | invoke r n => exact h.elim
    | builtin b =>
      have hops : ∀ x ∈ args.toList, VRel w (Bad X0 F m) F m (ρ x) (a.eval x) := fun x hx => hρ x (by simpa [Op.operands, Call.operands] using hx)
      cases b with
      | len =>
        simp only [qop] at h
        split at h
        case h_2 => exact h.elim
        rename_i x hx
        split at h
        case h_2 => exact h.elim
        rename_i t ht
        have ea : args = #[x] := Array.toList_inj.1 (by simpa using hx)
        have et : ts = #[t] := Array.toList_inj.1 (by simpa using ht)
        subst ea et
        exact sound_len hT C hr ho (hops x (by simp)) h
      | min =>
        simp only [qop] at h
        split at h
        case h_2 => exact h.elim
        rename_i x y hx
        have ea : args = #[x, y] := Array.toList_inj.1 (by simpa using hx)
        subst ea
        have h1 := hops x (by simp)
        have h2 := hops y (by simp)
        split at h
        case h_2 => exact h.elim
        rename_i k p he
        rw [he] at h1
        split at h
        case h_2 => exact h.elim
        rename_i k' q he'
        rw [he'] at h2
        obtain ⟨rfl, h⟩ := h
        have h1' : a.eval x = .int k p := h1
        have h2' : a.eval y = .int k q := h2
        refine qpost_val C (x := .c (.int k (min p q))) (v := .int k (min p q)) ?_ rfl h
        have e : (if q < p then q else p) = min p q := by rw [Int.min_def]; split <;> split <;> omega
        simp [execOp, ho, resolve, invoke, builtin, h1', h2', Builtin.min_, Builtin.min2, e]
      | max =>
        simp only [qop] at h
        split at h
        case h_2 => exact h.elim
        rename_i x y hx
        have ea : args = #[x, y] := Array.toList_inj.1 (by simpa using hx)
        subst ea
        have h1 := hops x (by simp)
        have h2 := hops y (by simp)
        split at h
        case h_2 => exact h.elim
        rename_i k p he
        rw [he] at h1
        split at h
        case h_2 => exact h.elim
        rename_i k' q he'
        rw [he'] at h2
        obtain ⟨rfl, h⟩ := h
        have h1' : a.eval x = .int k p := h1
        have h2' : a.eval y = .int k q := h2
        refine qpost_val C (x := .c (.int k (max p q))) (v := .int k (max p q)) ?_ rfl h
        have e : (if p < q then q else p) = max p q := by rw [Int.max_def]; split <;> split <;> omega
        simp [execOp, ho, resolve, invoke, builtin, h1', h2', Builtin.max_, Builtin.max2, e]
      | _ => exact h.elim
  | _ => rw [ho] at h; exact h.elim
end
end Go.Fx
