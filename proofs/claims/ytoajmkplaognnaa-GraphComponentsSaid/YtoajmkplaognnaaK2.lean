/- The engine, part 9: append, whatever the row. The engine, part 10: states, steps, writers. The engine, part 11: writers. The engine, part 12: writers, their soundness. The engine, part 13: a step, whatever it is; a region in text order; a state that says less; the walk over code. The engine, part 14: the contract of a function from the walk over its body. -/
import Derived.Test.YtoajmkplaognnaaK1
import Derived.ArgAppend
import Derived.Laws.IdiomCopy
import Derived.Tactics
import Derived.Scope
set_option linter.unusedVariables false
set_option linter.unusedSimpArgs false
set_option linter.unusedSectionVars false
namespace Go.Fx
open Go.RowKit
set_option linter.unusedVariables false

section
variable {P : Program} {w : World}

theorem setCells_keep (g : Nat) : ∀ (vs : List Value) (o : Nat) (w : World), (w.setCells g o vs).os = w.os ∧ (w.setCells g o vs).tape = w.tape ∧ (w.setCells g o vs).output = w.output ∧ (w.setCells g o vs).heap.size = w.heap.size ∧ ∀ b, b ≠ g → (w.setCells g o vs).heap[b]? = w.heap[b]?
  | [], _, _ => ⟨rfl, rfl, rfl, rfl, fun _ _ => rfl⟩
  | v :: vs, o, w => by
    obtain ⟨h1, h2, h3, h4, h5⟩ := setCells_keep g vs (o + 1) (w.setCell ⟨g, o, none⟩ v)
    exact ⟨h1, h2, h3, by rw [World.setCells, h4]; simp, fun b hb => by rw [World.setCells, h5 b hb]; exact Below.heap_setCell _ _ _ _ hb⟩

theorem setFrom_length {α : Type _} : ∀ (cs l : List α) (off : Nat), (setFrom l off cs).length = l.length
  | [], _, _ => rfl
  | c :: cs, l, off => by rw [setFrom, setFrom_length]; simp

theorem setFrom_get {α : Type _} : ∀ (cs l : List α) (off j : Nat), off + cs.length ≤ l.length → (setFrom l off cs)[j]? = if off ≤ j ∧ j < off + cs.length then cs[j - off]? else l[j]?
  | [], l, off, j, h => by
    simp only [setFrom, List.length_nil, Nat.add_zero]
    rw [if_neg (by omega)]
  | c :: cs, l, off, j, h => by
    simp only [List.length_cons] at h
    rw [setFrom, setFrom_get cs _ (off + 1) j (by simp; omega)]
    by_cases h1 : off + 1 ≤ j ∧ j < off + 1 + cs.length
    · rw [if_pos h1, if_pos (by simp; omega), show j - off = (j - (off + 1)) + 1 by omega]
      simp
    · rw [if_neg h1, List.getElem?_set]
      by_cases h2 : off = j
      · subst h2
        rw [if_pos rfl, if_pos (by omega), if_pos (by simp)]
        simp
      · rw [if_neg h2, if_neg (by simp; omega)]

theorem setCells_row {g : Nat} {e : TypeId} : ∀ (vs : List Value) (o : Nat) (w : World) (cur : Array Value), w.heap[g]? = some (.cells cur e (0, 0)) → o + vs.length ≤ cur.size →
    (w.setCells g o vs).heap[g]? = some (.cells (setFrom cur.toList o vs).toArray e (0, 0))
  | [], o, w, cur, hg, _ => by simpa [World.setCells, setFrom] using hg
  | v :: vs, o, w, cur, hg, hl => by
    have h1 : (w.setCell ⟨g, o, none⟩ v).heap[g]? = some (.cells (cur.setIfInBounds o v) e (0, 0)) := by
      simp [World.setCell, Array.getElem?_modify, hg]
    have h2 := setCells_row vs (o + 1) _ _ h1 (by simp at hl ⊢; omega)
    rw [World.setCells, h2]
    simp [setFrom]

/-- A row by its cells. -/
def RawRow (w : World) (base : Nat) (e k : Nat) (v : Value) (n : Nat) (cells : List Value) : Prop :=
  cells.length = n * k ∧ ((v = .slice none 0 0 ∧ n = 0) ∨
  ∃ g o c cur, v = .slice (some ⟨g, o, none⟩) n c ∧ base ≤ g ∧ w.heap[g]? = some (.cells cur e (0, 0)) ∧ n ≤ c ∧ c ≤ maxI ∧ o + c * k ≤ cur.size ∧ ∀ j, j < n * k → cur[o + j]? = cells[j]?)

/-- What is appended: m elements, their cells. -/
def Src (w : World) (k : Nat) (x : Value) (m : Nat) (news : List Value) : Prop :=
  news.length = m * k ∧ (∀ u ∈ news, u.oneCell' = true) ∧ ∃ A c, x = .slice A m c ∧ (0 < m → ∃ ad, A = some ad ∧ ∀ j u, news[j]? = some u → w.cell? (ad.add j) = some u)

theorem run_append_raw (t ty e : TypeId) (i : TypeInfo) (z : Value) (k : Nat) (base : Nat) (ht : P.underlying t = some (.slice e)) (hi : P.info? e = some i) (hz : i.zero = some z) (hk : i.size = k) (hzs : z.cells.size = k) (hk0 : 0 < k)
    (v : Value) (n : Nat) (xs : List Value) (hv : RawRow w base e k v n xs) (x : Value) (m : Nat) (news : List Value) (hx : Src w k x m news)
    (h63 : n + m ≤ maxI) (hb : (n + m) * i.bytes ≤ 140737488355328) (hbase : base ≤ w.heap.size) :
    ∃ v' w', (Builtin.append_ #[t, t] ty #[v, x]).run P w = .ok v' w' ∧ RawRow w' base e k v' (n + m) (xs ++ news) ∧ w.grownBy w' v.ownBlock ∧ (v'.ownBlock = v.ownBlock ∨ v'.ownBlock = some w.heap.size) := by
  obtain ⟨hnl, h1, A, c, rfl, hA⟩ := hx
  have hlen : (xs ++ news).length = (n + m) * k := by rw [List.length_append, hv.1, hnl, Nat.add_mul]
  by_cases hm : m = 0
  · -- nothing is appended
    subst hm
    have hn0 : news = [] := List.eq_nil_of_length_eq_zero (by simpa using hnl)
    subst hn0
    rcases hv.2 with ⟨rfl, rfl⟩ | ⟨g, o, cc, cur, rfl, hg, hh, h3, h4, h5, h6⟩
    · refine ⟨.slice none 0 0, w, ?_, ⟨hlen, .inl ⟨rfl, rfl⟩⟩, World.grownBy.refl w _, .inl rfl⟩
      cases A <;> simp [Builtin.append_, run_underlying ht, sizeOf, typeInfo, hi, Builtin.lenOf, Builtin.firstCells, loadCells, loadCellsFrom]
    · refine ⟨.slice (some ⟨g, o, none⟩) n cc, w, ?_, ⟨hlen, .inr ⟨g, o, cc, cur, rfl, hg, hh, h3, h4, h5, by simpa using h6⟩⟩, World.grownBy.refl w _, .inl rfl⟩
      cases A <;> simp [Builtin.append_, run_underlying ht, sizeOf, typeInfo, hi, Builtin.lenOf, Builtin.firstCells, h3, loadCells, loadCellsFrom, storeCells]
  · obtain ⟨ad, rfl, hnews⟩ := hA (by omega)
    have fromNew : ∀ (v' : Value) (w' : World), w'.ownsRow w.heap.size e k v' (n + m) (xs ++ news) → v' ≠ .slice none 0 0 → RawRow w' base e k v' (n + m) (xs ++ news) := by
      intro v' w' hown hne
      refine ⟨hlen, .inr ?_⟩
      rcases hown.2 with ⟨h, _⟩ | ⟨g, cap, cur, he, hbg, hg, hnc, hcm, hcs, htake⟩
      · exact absurd h hne
      · refine ⟨g, 0, cap, cur, he, by omega, hg, hnc, hcm, by omega, fun j hj => ?_⟩
        rw [Nat.zero_add, ← htake, List.getElem?_take, if_pos hj]
        simp
    rcases hv.2 with ⟨rfl, rfl⟩ | ⟨g, o, cc, cur, rfl, hg, hh, h3, h4, h5, h6⟩
    · have hxs : xs = [] := List.eq_nil_of_length_eq_zero (by simpa using hv.1)
      subst hxs
      obtain ⟨v', w', hr, hown, hgr, hnil, hat⟩ := run_append_own_at (P := P) w w.heap.size t ty e i z k i.bytes ht hi hz hk rfl hzs hk0 (.slice none 0 0) 0 [] (World.ownsRow_nil w _ _ _) ad m c news (by rw [hnl]) hnews h1 (by simpa [maxLen] using h63) hb (Nat.le_refl _)
      refine ⟨v', w', hr, fromNew v' w' hown ?_, hgr, hat⟩
      intro e
      exact hm (hnil.1 e).2
    · by_cases hroom : n + m ≤ cc
      · have hfit : o + n * k + news.length ≤ cur.size := by
          have : (n + m) * k ≤ cc * k := Nat.mul_le_mul_right _ hroom
          rw [Nat.add_mul] at this
          rw [hnl]; omega
        have hr := run_append_room_cells (P := P) w t ty e i ht hi g o n cc ad m c news (by rw [hnl, hk]) hnews h1 hroom
          (fun j hj => by rw [hk, cell_of_row w g _ cur e (0, 0) hh]; simp; omega) (fun j hj => by simp [World.frozen?, hh])
        rw [hk] at hr
        obtain ⟨s1, s2, s3, s4, s5⟩ := setCells_keep g news (o + n * k) w
        have hrow := setCells_row news (o + n * k) w cur hh hfit
        refine ⟨_, _, hr, ⟨hlen, .inr ⟨g, o, cc, _, rfl, hg, hrow, hroom, h4, by rw [List.size_toArray, setFrom_length]; simpa using h5, fun j hj => ?_⟩⟩, ⟨s1, s2, s3, by rw [s4]; exact Nat.le_refl _, fun b _ hb => s5 b (fun e => hb (by simp [Value.ownBlock, e]))⟩, .inl rfl⟩
        rw [List.getElem?_toArray, setFrom_get _ _ _ _ (by simpa using hfit)]
        by_cases hj2 : j < n * k
        · rw [if_neg (by omega), List.getElem?_append_left (by rw [hv.1]; exact hj2)]
          simpa using h6 j hj2
        · have : (n + m) * k = n * k + m * k := Nat.add_mul _ _ _
          rw [if_pos (by rw [hnl]; omega), List.getElem?_append_right (by rw [hv.1]; omega), hv.1]
          congr 1; omega
      · have holds : ∀ j u, xs[j]? = some u → w.cell? ((⟨g, o, none⟩ : Addr).add j) = some u := fun j u hu => by
          have hj : j < n * k := by rw [← hv.1]; exact (List.getElem?_eq_some_iff.1 hu).1
          rw [add_mk, cell_of_row w g _ cur e (0, 0) hh, h6 j hj]; exact hu
        obtain ⟨v', w', hr, hown, hgr⟩ := run_append_arg_grows (P := P) w t ty e i z k i.bytes ht hi hz hk rfl hzs hk0 ⟨g, o, none⟩ n cc xs hv.1 holds ad m c news (by rw [hnl]) hnews (by omega) (by simpa [maxLen] using h63) hb
        have hne : v' ≠ .slice none 0 0 := by
          rintro rfl
          rcases hown.2 with ⟨_, h0⟩ | ⟨g', _, _, he, _⟩
          · omega
          · cases he
        refine ⟨v', w', hr, fromNew v' w' hown hne, ⟨hgr.os, hgr.tape, hgr.output, hgr.size, fun b hb _ => hgr.block b hb (by simp)⟩, ?_⟩
        rcases hown.2 with ⟨he, _⟩ | ⟨g', cap, cur', he, hge, hh', _⟩
        · exact absurd he hne
        · right
          rw [he]
          simp only [Value.ownBlock]
          -- the new block is the one just made
          by_cases hgw : g' = w.heap.size
          · rw [hgw]
          · exfalso
            have hr2 := run_append_grow (P := P) w t ty e i z ht hi hz ⟨g, o, none⟩ n cc xs (by rw [hv.1, hk]) holds ad m c news (by rw [hnl, hk]) hnews (by omega) (by have := h63; simp only [maxI] at this; omega) (growslice_fits (by omega) hb)
            rw [hr2] at hr
            injection hr with e1 _
            rw [← e1] at he
            injection he with e2
            injection e2 with e2
            injection e2 with e2
            exact hgw e2.symm

theorem raw_of_row {X : Nat → Prop} {base : Nat} {R : Row} {v : Value} (h : RowRel w X base R v) :
    ∃ cells, RawRow w base R.e R.k v R.xs.length cells ∧ ∀ j x, R.xs[j]? = some x → ∀ i, i < R.k → ∃ u, cells[j * R.k + i]? = some u ∧ Rep w X (R.cell x i) u := by
  rcases h with ⟨rfl, h0⟩ | ⟨g, o, c, cur, rfl, h1, h2, h3, h4, h5, h6⟩
  · exact ⟨[], ⟨by simp [h0], .inl ⟨rfl, by simp [h0]⟩⟩, fun j x hj => by simp [h0] at hj⟩
  · have hle : R.xs.length * R.k ≤ c * R.k := Nat.mul_le_mul_right _ h3
    refine ⟨(cur.toList.drop o).take (R.xs.length * R.k), ⟨?_, .inr ⟨g, o, c, cur, rfl, h1, h2, h3, h4, h5, fun j hj => ?_⟩⟩, fun j x hj i hi => ?_⟩
    · rw [List.length_take, List.length_drop, Array.length_toList]; omega
    · rw [List.getElem?_take, if_pos hj, List.getElem?_drop]; simp
    · obtain ⟨u, hu, hru⟩ := h6 j x hj i hi
      have hjl := (List.getElem?_eq_some_iff.1 hj).1
      have : j * R.k + R.k ≤ R.xs.length * R.k := by rw [← Nat.succ_mul]; exact Nat.mul_le_mul_right _ hjl
      refine ⟨u, ?_, hru⟩
      rw [List.getElem?_take, if_pos (by omega), List.getElem?_drop]
      simpa [Nat.add_assoc] using hu

theorem row_of_raw {X : Nat → Prop} {base : Nat} {R : Row} {v : Value} {cells : List Value} (h : RawRow w base R.e R.k v R.xs.length cells)
    (hc : ∀ j x, R.xs[j]? = some x → ∀ i, i < R.k → ∃ u, cells[j * R.k + i]? = some u ∧ Rep w X (R.cell x i) u) : RowRel w X base R v := by
  rcases h.2 with ⟨rfl, h0⟩ | ⟨g, o, c, cur, rfl, h1, h2, h3, h4, h5, h6⟩
  · exact .inl ⟨rfl, List.eq_nil_of_length_eq_zero h0⟩
  · refine .inr ⟨g, o, c, cur, rfl, h1, h2, h3, h4, h5, fun j x hj i hi => ?_⟩
    obtain ⟨u, hu, hru⟩ := hc j x hj i hi
    have hjl := (List.getElem?_eq_some_iff.1 hj).1
    have : j * R.k + R.k ≤ R.xs.length * R.k := by rw [← Nat.succ_mul]; exact Nat.mul_le_mul_right _ hjl
    refine ⟨u, ?_, hru⟩
    rw [Nat.add_assoc, h6 _ (by omega)]; exact hu

/-- What reads as a slice can be appended. -/
theorem src_of_rep {X : Nat → Prop} {α : Type} {k : Nat} {cell : α → Nat → CVal} {ys : List α} {x : Value} (h : Rep w X (.sl α k cell ys) x) :
    ∃ news, Src w k x ys.length news ∧ ∀ j y, ys[j]? = some y → ∀ i, i < k → ∃ u, news[j * k + i]? = some u ∧ Rep w X (cell y i) u := by
  obtain ⟨A, c, rfl, h1, h2, h3⟩ := h
  by_cases h0 : ys = []
  · subst h0
    exact ⟨[], ⟨by simp, by simp, A, c, rfl, fun h => by simp at h⟩, fun j y hj => by simp at hj⟩
  · obtain ⟨b, o, rfl, hb, hl, hc⟩ := h3 h0
    -- the cells, one behind the other
    have key : ∀ (ys' : List α) (st : Nat), (∀ j y, ys'[j]? = some y → ∀ i, i < k → ∃ u, w.cell? ⟨b, o + (st + j) * k + i, none⟩ = some u ∧ Rep w X (cell y i) u) →
        ∃ news : List Value, news.length = ys'.length * k ∧ (∀ u ∈ news, u.oneCell' = true) ∧ (∀ j u, news[j]? = some u → w.cell? ⟨b, o + st * k + j, none⟩ = some u) ∧ ∀ j y, ys'[j]? = some y → ∀ i, i < k → ∃ u, news[j * k + i]? = some u ∧ Rep w X (cell y i) u := by
      intro ys'
      induction ys' with
      | nil => intro st _; exact ⟨[], by simp, by simp, fun j u h => by simp at h, fun j y h => by simp at h⟩
      | cons y ys' ih =>
        intro st hh
        obtain ⟨vs, e1, e2, e3⟩ := cells_of_ref (F := ⟨fun _ => none, fun _ => none⟩) (m := ⟨fun _ => 0, fun _ => .nilFunc⟩) (w := w) (X := X) (b := b) (o := o + st * k) (cell := cell y) (k := k) (fun i hi => by simpa using hh 0 y rfl i hi) k 0 (by omega)
        obtain ⟨news, f1, f2, f3, f4⟩ := ih (st + 1) (fun j y' hj i hi => by
          have := hh (j + 1) y' (by simpa using hj) i hi
          rwa [show st + (j + 1) = st + 1 + j by omega] at this)
        have hvs : ∀ i, i < k → ∃ u, vs[i]? = some u ∧ Rep w X (cell y i) u := fun i hi => by
          obtain ⟨u, hu, hru⟩ := e3.get i (refCells_get (cell y) k 0 i hi)
          exact ⟨u, hu, by rw [Nat.zero_add] at hru; exact hru⟩
        refine ⟨vs ++ news, by simp [e1, f1, Nat.succ_mul]; omega, fun u hu => ?_, fun j u hu => ?_, fun j y' hj i hi => ?_⟩
        · rcases List.mem_append.1 hu with hu | hu
          · obtain ⟨i, hi, he⟩ := List.mem_iff_getElem.1 hu
            obtain ⟨u', hu', hru⟩ := hvs i (by omega)
            rw [List.getElem?_eq_getElem hi] at hu'
            cases hu'
            rw [← he]
            exact Rep.one hru
          · exact f2 u hu
        · by_cases hjk : j < k
          · rw [List.getElem?_append_left (by omega)] at hu
            simpa using e2 j u hu
          · rw [List.getElem?_append_right (by omega), e1] at hu
            have := f3 _ u hu
            rw [← this]
            congr 2
            rw [Nat.succ_mul]; omega
        · cases j with
          | zero =>
            obtain ⟨u, hu, hru⟩ := hvs i hi
            have hy : y = y' := by simpa using hj
            subst hy
            exact ⟨u, by rw [Nat.zero_mul, Nat.zero_add, List.getElem?_append_left (by omega)]; exact hu, hru⟩
          | succ j =>
            obtain ⟨u, hu, hru⟩ := f4 j y' (by simpa using hj) i hi
            refine ⟨u, ?_, hru⟩
            have : (j + 1) * k = j * k + k := Nat.succ_mul _ _
            rw [List.getElem?_append_right (by omega), e1, show (j + 1) * k + i - k = j * k + i by omega]
            exact hu
    obtain ⟨news, f1, f2, f3, f4⟩ := key ys 0 (fun j y hj i hi => by simpa using hc j y hj i hi)
    exact ⟨news, ⟨f1, f2, _, c, rfl, fun _ => ⟨_, rfl, fun j u hu => by rw [add_mk]; simpa using f3 j u hu⟩⟩, f4⟩
end
end Go.Fx

namespace Go.Fx
open Go.RowKit
set_option linter.unusedVariables false

structure St : Type 1 where
  fr : List AVal
  loc : List (Nat × List Cell)
  row : List (Nat × (Nat × Row))

def St.mem (s : St) : Mem := ⟨lget s.loc, lget s.row⟩

def fget : List AVal → Nat → AVal
  | [], _ => .any
  | x :: _, 0 => x
  | _ :: l, i + 1 => fget l i

def opd (fr : List AVal) : Operand → AVal
  | .tmp t => fget fr t
  | .const v => .p (.one (cOf v))
  | .func f => .c (.fn f 0 fun _ => .nil)
  | .global _ => .any

/-- Made plain before it goes on. -/
def forceL {α : Type _} : List α → (List α → Prop) → Prop
  | [], K => K []
  | x :: l, K => forceL l fun l' => K (x :: l')
def forceA (x : AVal) (K : AVal → Prop) : Prop :=
  match x with
  | .p (.one y) => K (.p (.one y))
  | .p (.agg l) => forceL l fun l' => K (.p (.agg l'))
  | .tup l => forceL l fun l' => K (.tup l')
def setK {α : Type _} : List α → Nat → α → (List α → Prop) → Prop
  | [], _, _, K => K []
  | _ :: l, 0, v, K => K (v :: l)
  | x :: l, i + 1, v, K => setK l i v fun l' => K (x :: l')

theorem forceL_iff {α : Type _} : ∀ (l : List α) (K : List α → Prop), forceL l K ↔ K l
  | [], K => Iff.rfl
  | x :: l, K => forceL_iff l _
theorem forceA_iff (x : AVal) (K : AVal → Prop) : forceA x K ↔ K x := by
  unfold forceA
  split
  · rfl
  · exact forceL_iff _ _
  · exact forceL_iff _ _
theorem setK_iff {α : Type _} : ∀ (l : List α) (i : Nat) (v : α) (K : List α → Prop), setK l i v K ↔ K (l.set i v)
  | [], _, _, _ => Iff.rfl
  | _ :: _, 0, _, _ => Iff.rfl
  | x :: l, i + 1, v, K => setK_iff l i v _

def lsetK {β : Type _} : List (Nat × β) → Nat → β → (List (Nat × β) → Prop) → Prop
  | [], _, _, _ => False
  | (k, u) :: t, l, v, K => match Nat.beq k l with
    | true => K ((k, v) :: t)
    | false => lsetK t l v fun t' => K ((k, u) :: t')

theorem lsetK_spec {β : Type _} : ∀ {L : List (Nat × β)} {l : Nat} {v : β} {K : List (Nat × β) → Prop}, lsetK L l v K → ∃ L', K L' ∧ ∀ x, lget L' x = if l = x then some v else lget L x
  | [], _, _, _, h => h.elim
  | (k, u) :: t, l, v, K, h => by
    unfold lsetK at h
    split at h
    · rename_i hb
      have hb := Nat.eq_of_beq_eq_true hb
      subst hb
      refine ⟨_, h, fun x => ?_⟩
      rw [lget_cons, lget_cons]
      by_cases e : k = x <;> simp [e]
    · rename_i hb
      have hb : k ≠ l := fun e => by subst e; simp at hb
      obtain ⟨L', h1, h2⟩ := lsetK_spec h
      refine ⟨_, h1, fun x => ?_⟩
      rw [lget_cons, lget_cons, h2 x]
      by_cases e : k = x
      · subst e; simp [Ne.symm hb]
      · simp [e]

def forceS (s : St) (K : St → Prop) : Prop :=
  match s with
  | ⟨fr, loc, row⟩ => forceL loc fun loc => forceL row fun row => K ⟨fr, loc, row⟩
theorem forceS_iff (s : St) (K : St → Prop) : forceS s K ↔ K s := by
  cases s
  show forceL _ _ ↔ _
  rw [forceL_iff, forceL_iff]

/-! ### What is new goes into the state -/
def addRows : List (Nat × Row) → St → (St → Prop) → Prop
  | [], s, K => K s
  | (r, R) :: rest, s, K => match lget s.row r with
    | none => addRows rest { s with row := (r, (0, R)) :: s.row } K
    | some _ => False
def addObj (s : St) (n : NObj) (K : St → Prop) : Prop :=
  match n with
  | .no => K s
  | .loc l cs => match lget s.loc l with
    | none => forceL cs fun cs' => K { s with loc := (l, cs') :: s.loc }
    | some _ => False
  | .rows L => addRows L s K

theorem addRows_spec : ∀ {L : List (Nat × Row)} {s : St} {K : St → Prop}, addRows L s K →
    (∀ r R, lget L r = some R → lget s.row r = none) ∧ ∃ s', K s' ∧ s'.fr = s.fr ∧ s'.loc = s.loc ∧ ∀ r, lget s'.row r = match lget L r with
      | some R => some (0, R)
      | none => lget s.row r
  | [], s, K, h => ⟨fun r R h => by simp [lget] at h, s, h, rfl, rfl, fun r => by simp [lget]⟩
  | (r, R) :: rest, s, K, h => by
    unfold addRows at h
    split at h
    case h_2 => exact h.elim
    rename_i hn
    obtain ⟨h1, s', h2, h3, h4, h5⟩ := addRows_spec h
    refine ⟨fun x R' hx => ?_, s', h2, h3, h4, fun x => ?_⟩
    · rw [lget_cons] at hx
      split at hx
      · rename_i e; subst e; exact hn
      · have := h1 x R' hx
        rw [lget_cons] at this
        split at this
        · cases this
        · exact this
    · rw [h5 x, lget_cons, lget_cons]
      by_cases e : r = x
      · subst e
        have : lget rest r = none := by
          cases hg : lget rest r with
          | none => rfl
          | some R' =>
            have := h1 r R' hg
            rw [lget_cons, if_pos rfl] at this
            cases this
        simp [this]
      · simp [e]

theorem addObj_spec {s : St} {n : NObj} {K : St → Prop} (h : addObj s n K) : Fresh s.mem n ∧ ∃ s', K s' ∧ s'.fr = s.fr ∧ s'.mem = s.mem.add n := by
  unfold addObj at h
  split at h
  · exact ⟨trivial, s, h, rfl, rfl⟩
  · split at h
    case h_2 => exact h.elim
    rename_i hn
    rw [forceL_iff] at h
    refine ⟨hn, _, h, rfl, ?_⟩
    show Mem.mk _ _ = _
    congr 1
    funext x
    rw [lget_cons]
    rfl
  · rename_i L
    obtain ⟨h1, s', h2, h3, h4, h5⟩ := addRows_spec h
    refine ⟨h1, s', h2, h3, ?_⟩
    show Mem.mk _ _ = _
    rw [h4]
    congr 1
    funext x
    exact h5 x

def setFr (s : St) (d : Option Nat) (x : AVal) (K : St → Prop) : Prop :=
  match d with
  | none => K s
  | some d => forceA x fun x' => setK s.fr d x' fun fr' => K { s with fr := fr' }

/-! ### The relation -/
def Rel (w0 : World) (X0 : Nat → Prop) (s : St) (m : Map) (a : Act) (w : World) : Prop :=
  Core w0 X0 s.mem m w ∧ All2 (VRel w (Bad X0 s.mem m) s.mem m) s.fr a.tmps.toList ∧ a.defers = []

/-- Behind a step: some state that fits, and what is still to be shown of it. -/
def SK (w0 : World) (X0 : Nat → Prop) (K : St → Prop) (a : Act) (w : World) : Prop := ∃ s m, Rel w0 X0 s m a w ∧ K s

section
variable {P : Program} {T : TypeId → Ty} {w0 w w1 : World} {X0 : Nat → Prop} {s s1 : St} {m m1 : Map} {a : Act} {o : Oper} {Q : Exit → Act → World → Prop} {K : St → Prop}

theorem fget_rel {X : Nat → Prop} {F : Mem} : ∀ {fr : List AVal} {vs : List Value} (t : Nat), All2 (VRel w X F m) fr vs → VRel w X F m (fget fr t) (vs.getD t undef)
  | [], [], t, _ => by simp [fget]; trivial
  | _ :: _, v :: _, 0, h => by simpa [fget] using h.1
  | _ :: _, _ :: _, t + 1, h => by simpa [fget] using fget_rel t h.2
  | [], _ :: _, _, h => h.elim
  | _ :: _, [], _, h => h.elim

theorem opd_rel {X : Nat → Prop} {F : Mem} {fr : List AVal} (h : All2 (VRel w X F m) fr a.tmps.toList) (x : Operand) : VRel w X F m (opd fr x) (a.eval x) := by
  cases x with
  | tmp t =>
    have := fget_rel t h
    simpa [opd, Act.eval, Array.getD_eq_getD_getElem?, List.getD_eq_getElem?_getD] using this
  | const v => exact crel_cOf _ _ _ _ v
  | global g => trivial
  | func f => exact ⟨[], rfl, rfl, fun i u h => by simp at h⟩

/-- The frame behind an operation that hands x to its slot. -/
theorem setFr_rel {w' : World} {m' : Map} {s' : St} {x : AVal} {v : Value} (hfr : s'.fr = s.fr) (g : Grow s.mem m w s'.mem m' w') (hx : ∀ b, X0 b → b < w.heap.size) (C : Core w0 X0 s'.mem m' w')
    (h : All2 (VRel w (Bad X0 s.mem m) s.mem m) s.fr a.tmps.toList) (hd : a.defers = []) (hv : VRel w' (Bad X0 s'.mem m') s'.mem m' x v) (dst : Option Tmp) (hK : setFr s' dst x K) : SK w0 X0 K (a.put dst v) w' := by
  have h' : All2 (VRel w' (Bad X0 s'.mem m') s'.mem m') s'.fr a.tmps.toList := by rw [hfr]; exact h.imp fun _ _ hh => g.vrel hx hh
  unfold setFr at hK
  split at hK
  · exact ⟨s', m', ⟨C, h', hd⟩, hK⟩
  · rename_i d
    rw [forceA_iff, setK_iff] at hK
    refine ⟨{ s' with fr := s'.fr.set d x }, m', ⟨C, ?_, hd⟩, hK⟩
    show All2 _ (s'.fr.set d x) (a.tmps.setIfInBounds d v).toList
    rw [Array.toList_setIfInBounds]
    exact h'.set d hv

def qstep (P : Program) (T : TypeId → Ty) (o : Oper) (s : St) (K : St → Prop) : Prop :=
  qop P T (lget s.loc) (lget s.row) (opd s.fr) (o.dst.getD 0) o.op fun x n => addObj s n fun s' => setFr s' o.dst x K

theorem sound_qstep (hT : TyAll P T) (R : Rel w0 X0 s m a w) (h : qstep P T o s K) : o.wp P a w (SK w0 X0 K) Q := by
  obtain ⟨C, hfr, hd⟩ := R
  have hq := sound_q (Q := Q) hT C (fun _ _ h => h) (fun _ _ h => h) (o.dst.getD 0) (fun x _ => opd_rel hfr x) (fun x n hh => (addObj_spec hh).1) h
  refine Oper.wp_mono (fun a' w' hp => ?_) hq
  obtain ⟨x, n, v, m', hΦ, rfl, C', g, hv⟩ := hp
  obtain ⟨_, s', hK, he, hm⟩ := addObj_spec hΦ
  rw [← hm] at C' g hv
  exact setFr_rel he g C.xlt C' hfr hd hv o.dst hK

/-! ### A row given up: it reads as a slice from now on -/
def relC (r ver : Nat) (R : Row) : Cell → Cell
  | .own r' v => match Nat.beq r r' with
    | true => match Nat.beq v ver with
      | true => .c (.sl R.α R.k R.cell R.xs)
      | false => .any
    | false => .own r' v
  | .optr r' v i o => match Nat.beq r r' with
    | true => .any
    | false => .optr r' v i o
  | x => x
def relP (r ver : Nat) (R : Row) : Part → Part
  | .one x => .one (relC r ver R x)
  | .agg l => .agg (l.map (relC r ver R))
def relA (r ver : Nat) (R : Row) : AVal → AVal
  | .p x => .p (relP r ver R x)
  | .tup l => .tup (l.map (relP r ver R))
def ldel {β : Type _} : List (Nat × β) → Nat → List (Nat × β)
  | [], _ => []
  | (k, v) :: t, r => match Nat.beq k r with
    | true => ldel t r
    | false => (k, v) :: ldel t r
theorem ldel_get {β : Type _} (r x : Nat) : ∀ L : List (Nat × β), lget (ldel L r) x = if r = x then none else lget L x
  | [] => by simp [ldel, lget]
  | (k, v) :: t => by
    unfold ldel
    split
    · rename_i hb
      have hb := Nat.eq_of_beq_eq_true hb
      subst hb
      rw [ldel_get k x t, lget_cons]
      by_cases e : k = x <;> simp [e]
    · rename_i hb
      have hb : k ≠ r := fun e => by subst e; simp at hb
      rw [lget_cons, lget_cons, ldel_get r x t]
      by_cases e : k = x
      · subst e; simp [Ne.symm hb]
      · simp [e]
def relSt (r : Nat) (s : St) (K : St → Prop) : Prop :=
  match lget s.row r with
  | some (ver, R) => forceL (s.fr.map (relA r ver R)) fun fr => forceL (s.loc.map fun x => (x.1, x.2.map (relC r ver R))) fun loc => forceL (ldel s.row r) fun row => K ⟨fr, loc, row⟩
  | none => False

theorem crel_rel (C : Core w0 X0 s.mem m w) {r ver : Nat} {R : Row} (hr : lget s.row r = some (ver, R)) {F' : Mem} (hl : ∀ l cs, lget s.loc l = some cs → ∃ cs', F'.loc l = some cs') (hrow : F'.row = (s.mem.delRow r).row)
    (hown : ∀ b, Own F' m b → Own (s.mem.delRow r) m b) {x : Cell} {v : Value} (h : CRel w (Bad X0 s.mem m) s.mem m x v) : CRel w (Bad X0 F' m) F' m (relC r ver R x) v := by
  have hbad : ∀ b, Bad X0 F' m b → Bad X0 (s.mem.delRow r) m b := fun b hb => hb.imp id (hown b)
  have hne : ∀ r' p, r ≠ r' → s.mem.row r' = some p → F'.row r' = some p := fun r' p e hp => by rw [hrow]; simp [Mem.delRow, e, hp]
  cases x with
  | any => trivial
  | c x => exact Rep.sub (fun b hb => bad_del (hbad b hb)) h
  | lptr l off => obtain ⟨⟨cs, hcs⟩, rfl⟩ := h; exact ⟨hl l cs hcs, rfl⟩
  | clo f ls => obtain ⟨rfl, h⟩ := h; exact ⟨rfl, fun l hl' => by obtain ⟨cs, hcs⟩ := h l hl'; exact hl l cs hcs⟩
  | own r' v' =>
    simp only [relC]
    split
    · rename_i hb
      have hb := Nat.eq_of_beq_eq_true hb
      subst hb
      split
      · rename_i hv
        have hv := Nat.eq_of_beq_eq_true hv
        subst hv
        obtain ⟨ver', R', h1, h2, h3⟩ := h
        rw [show s.mem.row r = lget s.row r from rfl, hr] at h1
        cases h1
        rw [h3 rfl]
        exact Rep.sub hbad (rep_del C hr)
      · trivial
    · rename_i hb
      have hb : r ≠ r' := fun e => by subst e; simp at hb
      obtain ⟨ver', R', h1, h2⟩ := h
      exact ⟨ver', R', hne r' _ hb h1, h2⟩
  | optr r' v' i off =>
    simp only [relC]
    split
    · trivial
    · rename_i hb
      have hb : r ≠ r' := fun e => by subst e; simp at hb
      obtain ⟨ver', R', h1, h2⟩ := h
      exact ⟨ver', R', hne r' _ hb h1, h2⟩

theorem all2_map {α β γ : Type _} {R : α → β → Prop} {R' : γ → β → Prop} {f : α → γ} (hf : ∀ a b, R a b → R' (f a) b) : ∀ {l : List α} {k : List β}, All2 R l k → All2 R' (l.map f) k
  | [], [], _ => trivial
  | _ :: _, _ :: _, h => ⟨hf _ _ h.1, all2_map hf h.2⟩
  | [], _ :: _, h => h.elim
  | _ :: _, [], h => h.elim

theorem lget_map {β γ : Type _} (f : β → γ) (l : Nat) : ∀ L : List (Nat × β), lget (L.map fun x => (x.1, f x.2)) l = (lget L l).map f
  | [] => rfl
  | (k, v) :: t => by
    simp only [List.map_cons]
    rw [lget_cons, lget_cons, lget_map f l t]
    split <;> rfl

theorem sound_rel (R0 : Rel w0 X0 s m a w) {r : Nat} (h : relSt r s K) : SK w0 X0 K a w := by
  obtain ⟨C, hfr, hd⟩ := R0
  unfold relSt at h
  split at h
  case h_2 => exact h.elim
  rename_i ver R hr
  rw [forceL_iff, forceL_iff, forceL_iff] at h
  obtain ⟨s', hs'⟩ : ∃ s' : St, s' = ⟨s.fr.map (relA r ver R), s.loc.map fun x => (x.1, x.2.map (relC r ver R)), ldel s.row r⟩ := ⟨_, rfl⟩
  rw [← hs'] at h
  have hloc : ∀ l, s'.mem.loc l = (lget s.loc l).map fun cs => cs.map (relC r ver R) := fun l => by rw [hs']; exact lget_map (fun cs => cs.map (relC r ver R)) l s.loc
  have hrow : s'.mem.row = (s.mem.delRow r).row := by
    rw [hs']; funext x; exact ldel_get r x s.row
  have hl : ∀ l cs, lget s.loc l = some cs → ∃ cs', s'.mem.loc l = some cs' := fun l cs hcs => ⟨_, by rw [hloc, hcs]; rfl⟩
  have hown : ∀ b, Own s'.mem m b → Own (s.mem.delRow r) m b := by
    rintro b (⟨l, cs, h1, h2⟩ | ⟨x, v, R', h1, h2⟩)
    · rw [hloc] at h1
      obtain ⟨cs', h3, _⟩ := Option.map_eq_some_iff.1 h1
      exact .inl ⟨l, cs', h3, h2⟩
    · exact .inr ⟨x, v, R', by rw [← hrow]; exact h1, h2⟩
  have hc := fun (x : Cell) (v : Value) (hh : CRel w (Bad X0 s.mem m) s.mem m x v) => crel_rel C hr hl hrow hown hh
  have hp : ∀ (x : Part) (v : Value), PRel w (Bad X0 s.mem m) s.mem m x v → PRel w (Bad X0 s'.mem m) s'.mem m (relP r ver R x) v := fun x v hh => by
    cases x with
    | one x => exact hc x v hh
    | agg l => obtain ⟨vs, rfl, hh⟩ := hh; exact ⟨vs, rfl, all2_map hc hh⟩
  have hv : ∀ (x : AVal) (v : Value), VRel w (Bad X0 s.mem m) s.mem m x v → VRel w (Bad X0 s'.mem m) s'.mem m (relA r ver R x) v := fun x v hh => by
    cases x with
    | p x => exact hp x v hh
    | tup l => obtain ⟨vs, rfl, hh⟩ := hh; exact ⟨vs, rfl, all2_map hp hh⟩
  have hrow' : ∀ x p, s'.mem.row x = some p → s.mem.row x = some p := fun x p hh => by
    rw [hrow] at hh
    by_cases e : r = x
    · simp [Mem.delRow, e] at hh
    · simpa [Mem.delRow, e] using hh
  have hbad : ∀ b, Bad X0 s'.mem m b → Bad X0 s.mem m b := fun b hb => bad_del (r := r) (hb.imp id (hown b))
  refine ⟨s', m, ⟨⟨C.below, C.x0, fun l cs hcs => ?_, fun x v R' hx => ?_, fun l l' cs cs' h1 h2 => ?_, fun l cs x v R' h1 h2 => ?_, fun x y v v' R' R2 b h1 h2 => C.sepRR x y v v' R' R2 b (hrow' _ _ h1) (hrow' _ _ h2)⟩, ?_, hd⟩, h⟩
  · rw [hloc] at hcs
    obtain ⟨cs0, h1, rfl⟩ := Option.map_eq_some_iff.1 hcs
    obtain ⟨h2, vs, t, h3, h4⟩ := C.loc l cs0 h1
    exact ⟨h2, vs, t, h3, all2_map hc h4⟩
  · rcases C.row x v R' (hrow' _ _ hx) with h1 | ⟨g0, o1, c, cur, he, h1, h2, h3, h4, h5, h6⟩
    · exact .inl h1
    · refine .inr ⟨g0, o1, c, cur, he, h1, h2, h3, h4, h5, fun j x hj i hi => ?_⟩
      obtain ⟨u, hu, hru⟩ := h6 j x hj i hi
      exact ⟨u, hu, hru.sub hbad⟩
  · rw [hloc] at h1 h2
    obtain ⟨c1, h1, _⟩ := Option.map_eq_some_iff.1 h1
    obtain ⟨c2, h2, _⟩ := Option.map_eq_some_iff.1 h2
    exact C.sepLL l l' c1 c2 h1 h2
  · rw [hloc] at h1
    obtain ⟨c1, h1, _⟩ := Option.map_eq_some_iff.1 h1
    exact C.sepLR l c1 x v R' h1 (hrow' _ _ h2)
  · rw [hs'] at hv ⊢
    exact all2_map hv hfr
end
end Go.Fx

namespace Go.Fx
open Go.RowKit
set_option linter.unusedVariables false

def SemStep (P : Program) (o : Oper) (s : St) (K : St → Prop) : Prop :=
  ∀ (w0 : World) (X0 : Nat → Prop) (m : Map) (a : Act) (w : World) (Q : Exit → Act → World → Prop), Rel w0 X0 s m a w → o.wp P a w (SK w0 X0 K) Q

def ownsC : List Cell → List Nat
  | [] => []
  | .own r _ :: l => r :: ownsC l
  | _ :: l => ownsC l
def ownsA : AVal → List Nat
  | .p (.one (.own r _)) => [r]
  | .p (.agg l) => ownsC l
  | _ => []
def ownsO (fr : List AVal) : List Operand → List Nat
  | [] => []
  | x :: l => match ownsA (opd fr x) with
    | [] => ownsO fr l
    | rs => rs ++ ownsO fr l
def relAll : List Nat → St → (St → Prop) → Prop
  | [], s, K => K s
  | r :: rest, s, K => match lget s.row r with
    | some _ => relSt r s fun s' => relAll rest s' K
    | none => relAll rest s K

def wstore (T : TypeId → Ty) (o : Oper) (t : Nat) (x v : Operand) (s : St) (K : St → Prop) : Prop :=
  match o.dst with
  | some _ => False
  | none => match T t with
    | .no => False
    | Tt => match opd s.fr x with
      | .p (.one (.lptr l off)) => match lget s.loc l with
        | some cs => match cellsOf (lget s.row) (opd s.fr v) with
          | some us => match allb (solid (lget s.row)) us with
            | true => match Nat.beq us.length Tt.size with
              | true => match Nat.ble (off + us.length) cs.length with
                | true => forceL (setFrom cs off us) fun cs' => lsetK s.loc l cs' fun loc' => K { s with loc := loc' }
                | false => False
              | false => False
            | false => False
          | none => False
        | none => False
      | .p (.one (.optr r ver i off)) => match lget s.row r with
        | some (ver', R) => match Nat.beq ver ver' with
          | true => match cellsOf (lget s.row) (opd s.fr v) with
            | some us => match allb plainC us with
              | true => match Nat.beq us.length Tt.size with
                | true => match Nat.ble (off + us.length) R.k with
                  | true => ∃ y y', R.xs[i]? = some y ∧ refCells (R.cell y') 0 R.k = setFrom (refCells (R.cell y) 0 R.k) off us ∧ lsetK s.row r (ver', { R with xs := R.xs.set i y' }) fun row' => K { s with row := row' }
                  | false => False
                | false => False
              | false => False
            | none => False
          | false => False
        | none => False
      | _ => False

def SrcIs (rk : LookR) (x : AVal) (R : Row) (ys : List R.α) : Prop :=
  match x with
  | .p (.one (.c (.sl α k cell zs))) => CVal.sl α k cell zs = .sl R.α R.k R.cell ys
  | .p (.one (.c .nil)) => ys = []
  | .p (.one (.own r ver)) => match rk r with
    | some (ver', R2) => match Nat.beq ver ver' with
      | true => R2 = { R with xs := ys }
      | false => False
    | none => False
  | _ => False

def wappend (T : TypeId → Ty) (o : Oper) (t t' : Nat) (x y : Operand) (s : St) (K : St → Prop) : Prop :=
  match Nat.beq t t' with
  | false => False
  | true => match T t with
    | .sl e k bytes _ => match Nat.ble 1 k with
      | false => False
      | true => match opd s.fr x with
        | .p (.one (.own r ver)) => match lget s.row r with
          | some (ver', R) => match Nat.beq ver ver' with
            | true => match Nat.beq R.e e with
              | true => match Nat.beq R.k k with
                | true => ∃ ys : List R.α, SrcIs (lget s.row) (opd s.fr y) R ys ∧ R.xs.length + ys.length ≤ 9223372036854775807 ∧ (R.xs.length + ys.length) * bytes ≤ 140737488355328 ∧
                    lsetK s.row r (ver' + 1, { R with xs := R.xs ++ ys }) fun row' => setFr { s with row := row' } o.dst (.p (.one (.own r (ver' + 1)))) K
                | false => False
              | false => False
            | false => False
          | none => False
        | .p (.one (.c .nil)) => match o.dst with
          | none => False
          | some d => match opd s.fr y with
            | .p (.one (.own r ver)) => match lget s.row r with
              | some (ver', R) => match Nat.beq ver ver' with
                | true => match Nat.beq R.e e with
                  | true => match Nat.beq R.k k with
                    | true => R.xs.length ≤ 9223372036854775807 ∧ R.xs.length * bytes ≤ 140737488355328 ∧ addRows [(d, R)] s fun s' => setFr s' o.dst (.p (.one (.own d 0))) K
                    | false => False
                  | false => False
                | false => False
              | none => False
            | .p (.one (.c (.sl α k' cell zs))) => match Nat.beq k' k with
              | true => zs.length ≤ 9223372036854775807 ∧ zs.length * bytes ≤ 140737488355328 ∧ addRows [(d, ⟨α, k', cell, e, zs⟩)] s fun s' => setFr s' o.dst (.p (.one (.own d 0))) K
              | false => False
            | _ => False
        | _ => False
    | _ => False

def wreslice (T : TypeId → Ty) (o : Oper) (t : Nat) (r ver : Nat) (lo hi : Option AVal) (s : St) (K : St → Prop) : Prop :=
  match T t with
  | .sl e k _ _ => match lget s.row r with
    | some (ver', R) => match Nat.beq ver ver' with
      | true => match Nat.beq R.k k with
        | true => match bnd 0 lo with
          | some l => match bnd R.xs.length hi with
            | some h => 0 ≤ l ∧ l ≤ h ∧ h ≤ R.xs.length ∧ lsetK s.row r (ver' + 1, { R with xs := (R.xs.take h.toNat).drop l.toNat }) fun row' => setFr { s with row := row' } o.dst (.p (.one (.own r (ver' + 1)))) K
            | none => False
          | none => False
        | false => False
      | false => False
    | none => False
  | _ => False

def wstep (P : Program) (T : TypeId → Ty) (o : Oper) (s : St) (K : St → Prop) : Prop :=
  match o.op with
  | .store t x v => match opd s.fr x with
    | .p (.one (.optr r _ _ _)) => relAll (ownsA (opd s.fr v)) s fun s' => wstore T o t x v s' K
    | _ => wstore T o t x v s K
  | .slice t x lo hi mx => match opd s.fr x with
    | .p (.one (.own r ver)) => match mx with
      | none => wreslice T o t r ver (lo.map (opd s.fr)) (hi.map (opd s.fr)) s K
      | some _ => False
    | _ => qstep P T o s K
  | .buildSlice t len parts => relAll (ownsO s.fr (parts.toList.map (·.2))) s fun s' => qstep P T o s' K
  | .call c => match c.callee with
    | .builtin b => match b with
      | .append => match c.args.toList with
        | [x, y] => match c.argTypes.toList with
          | [t, t'] => wappend T o t t' x y s K
          | _ => False
        | _ => False
      | _ => qstep P T o s K
    | .value f => match plainA (opd s.fr f) && allb (fun x => plainA (opd s.fr x)) c.args.toList with
      | true => qstep P T o s K
      | false => qstep P T o s K ∨ relAll (ownsO s.fr c.args.toList) s (fun s' => qstep P T o s' K) ∨ SemStep P o s K
    | _ => False
  | _ => qstep P T o s K

section
variable {P : Program} {T : TypeId → Ty} {w0 w w1 : World} {X0 : Nat → Prop} {s s1 : St} {m m1 : Map} {a : Act} {o : Oper} {Q : Exit → Act → World → Prop} {K : St → Prop}

theorem sound_relAll : ∀ {rs : List Nat} {s : St} {m : Map} {K : St → Prop}, Rel w0 X0 s m a w → relAll rs s K → SK w0 X0 K a w
  | [], s, m, K, R, h => ⟨s, m, R, h⟩
  | r :: rest, s, m, K, R, h => by
    unfold relAll at h
    split at h
    · obtain ⟨s', m', R', h'⟩ := sound_rel R h
      exact sound_relAll R' h'
    · exact sound_relAll R h

theorem mem_setLoc {l : Nat} {cs : List Cell} {L' : List (Nat × List Cell)} (h : ∀ x, lget L' x = if l = x then some cs else lget s.loc x) : (St.mem { s with loc := L' }) = s.mem.setLoc l cs := by
  show Mem.mk _ _ = Mem.mk _ _
  congr 1
  funext x
  exact h x
theorem mem_setRow {r ver : Nat} {R : Row} {L' : List (Nat × (Nat × Row))} (h : ∀ x, lget L' x = if r = x then some (ver, R) else lget s.row x) : (St.mem { s with row := L' }) = s.mem.setRow r ver R := by
  show Mem.mk _ _ = Mem.mk _ _
  congr 1
  funext x
  exact h x

theorem all2_one {R : Cell → Value → Prop} (h1 : ∀ x v, R x v → v.oneCell' = true) : ∀ {cs : List Cell} {vs : List Value}, All2 R cs vs → ∀ v ∈ vs, v.oneCell' = true
  | [], [], _, _, hv => by simp at hv
  | x :: cs, u :: vs, h, v, hv => by
    rcases List.mem_cons.1 hv with rfl | hv
    · exact h1 _ _ h.1
    · exact all2_one h1 h.2 v hv
  | [], _ :: _, h, _, _ => h.elim
  | _ :: _, [], h, _, _ => h.elim

/-- Cells that are stored have one cell each (an aggregate's cells too). -/
theorem store_one (C : Core w0 X0 s.mem m w) {x : AVal} {us : List Cell} {v : Value} (he : cellsOf (lget s.row) x = some us) (h : VRel w (Bad X0 s.mem m) s.mem m x v) (hsol : allb (solid (lget s.row)) us = true) : ∀ u ∈ v.cells.toList, u.oneCell' = true := by
  have hall := cellsOf_rel C (fun _ _ h => h) he h
  generalize v.cells.toList = vs at hall
  clear he h
  induction us generalizing vs with
  | nil => cases vs with
    | nil => intro u hu; simp at hu
    | cons => exact hall.elim
  | cons y us ih =>
    unfold allb at hsol
    split at hsol
    case h_2 => cases hsol
    rename_i hy
    cases vs with
    | nil => exact hall.elim
    | cons u vs =>
      intro z hz
      rcases List.mem_cons.1 hz with rfl | hz
      · exact solid_one C (fun _ _ h => h) hy hall.1
      · exact ih hsol vs hall.2 z hz
end
end Go.Fx

namespace Go.Fx
open Go.RowKit
set_option linter.unusedVariables false

section
variable {P : Program} {T : TypeId → Ty} {w0 w w1 : World} {X0 : Nat → Prop} {s s1 : St} {m m1 : Map} {a : Act} {o : Oper} {Q : Exit → Act → World → Prop} {K : St → Prop}

theorem plain_solid {rk : LookR} : ∀ {us : List Cell}, allb plainC us = true → allb (solid rk) us = true
  | [], _ => rfl
  | x :: us, h => by
    unfold allb at h ⊢
    split at h
    case h_2 => cases h
    rename_i hx
    cases x with
    | c x => simp only [solid]; exact plain_solid h
    | _ => simp [plainC] at hx

theorem run_store_cells {t : TypeId} (h : TyOk P t (T t)) (hn : T t ≠ .no) {g off : Nat} {cur : Array Value} {e : TypeId} (hh : w.heap[g]? = some (.cells cur e (0, 0))) (u : Value) (hs : u.cells.toList.length = (T t).size)
    (hfit : off + u.cells.toList.length ≤ cur.size) (h1 : ∀ q ∈ u.cells.toList, q.oneCell' = true) : (Instr.storeAt t (.pointer (some ⟨g, off, none⟩)) u).run P w = .ok () (w.setCells g off u.cells.toList) := by
  obtain ⟨i, hi, _, hsz⟩ := tyinfo h hn
  have hst := run_storeCells_cells (P := P) g off u.cells.toList 0 w (fun j hj => by rw [cell_of_row w g _ cur e (0, 0) hh]; simp at hfit hj ⊢; omega) (fun j _ => by simp [World.frozen?, hh]) h1
  simp only [Nat.add_zero] at hst
  have hc : u.cells.size = i.size := by rw [hsz, ← hs, Array.length_toList]
  simp [Instr.storeAt, Instr.sureAddr, storeVar, sizeOf, typeInfo, hi, hc, hst]

theorem rel_mem {s' : St} {m' : Map} {w' : World} (hfr : s'.fr = s.fr) (g : Grow s.mem m w s'.mem m' w') (C : Core w0 X0 s.mem m w) (C' : Core w0 X0 s'.mem m' w')
    (h : All2 (VRel w (Bad X0 s.mem m) s.mem m) s.fr a.tmps.toList) (hd : a.defers = []) : Rel w0 X0 s' m' a w' :=
  ⟨C', by rw [hfr]; exact h.imp fun _ _ hh => g.vrel C.xlt hh, hd⟩

theorem sound_wstore (hT : TyAll P T) (R0 : Rel w0 X0 s m a w) {t : Nat} {x v : Operand} (ho : o.op = .store t x v) (h : wstore T o t x v s K) : o.wp P a w (SK w0 X0 K) Q := by
  obtain ⟨C, hfr, hd⟩ := R0
  unfold wstore at h
  split at h
  · exact h.elim
  rename_i hdst
  split at h
  · exact h.elim
  rename_i hn
  have hx := opd_rel hfr x
  have hv := opd_rel hfr v
  have fin : ∀ w', (execOp a.eval o).run P w = .ok .skip w' → SK w0 X0 K a w' → o.wp P a w (SK w0 X0 K) Q := by
    intro w' hr hsk
    unfold Oper.wp
    rw [hr, Oper.upon_skip, hdst]
    exact hsk
  split at h
  case h_3 => exact h.elim
  · rename_i l off hxe
    rw [hxe] at hx
    obtain ⟨⟨cs0, hcs0⟩, hxp⟩ := hx
    split at h
    case h_2 => exact h.elim
    rename_i cs hcs
    split at h
    case h_2 => exact h.elim
    rename_i us hus
    split at h
    case h_2 => exact h.elim
    rename_i hsol
    split at h
    case h_2 => exact h.elim
    rename_i hlen
    split at h
    case h_2 => exact h.elim
    rename_i hfit
    rw [forceL_iff] at h
    obtain ⟨L', hK, hL⟩ := lsetK_spec h
    have hlen := Nat.eq_of_beq_eq_true hlen
    have hfit := Nat.le_of_ble_eq_true hfit
    have hcells := cellsOf_rel C (fun _ _ h => h) hus hv
    have hl1 := hcells.length
    obtain ⟨hge, vs, tt, hh, hall⟩ := C.loc l cs hcs
    have hl2 := hall.length
    have hrun := run_store_cells (P := P) (hT t) hn hh (a.eval v) (by rw [← hl1, hlen]) (by rw [← hl1, ← Array.length_toList, ← hl2]; exact hfit) (store_one C hus hv hsol)
    have hrow := setCells_row (a.eval v).cells.toList off w vs hh (by rw [← hl1, ← Array.length_toList, ← hl2]; exact hfit)
    obtain ⟨k1, k2, k3, k4, k5⟩ := setCells_keep (m.lb l) (a.eval v).cells.toList off w
    obtain ⟨C', g⟩ := core_setLoc (w1 := w.setCells (m.lb l) off (a.eval v).cells.toList) C l cs (setFrom cs off us) hcs _ tt hrow (by simpa using setFrom_rel off hall hcells) k4 k5 ⟨k1, k2, k3⟩
    rw [← mem_setLoc hL] at C' g
    refine fin _ (by simp [execOp, ho, hxp, hrun]) ⟨_, _, rel_mem (s := s) (s' := { s with loc := L' }) rfl g C C' hfr hd, hK⟩
  · rename_i r ver i off hxe
    rw [hxe] at hx
    obtain ⟨ver0, R0, hrow0, hle, hxp⟩ := hx
    split at h
    case h_2 => exact h.elim
    rename_i ver' R hr
    rw [show s.mem.row r = lget s.row r from rfl, hr] at hrow0
    simp only [Option.some.injEq, Prod.mk.injEq] at hrow0
    obtain ⟨e1, e2⟩ := hrow0
    subst e1 e2
    split at h
    case h_2 => exact h.elim
    rename_i hbeq
    obtain ⟨g0, o1, n, c, hrv, hxv⟩ := hxp (Nat.eq_of_beq_eq_true hbeq)
    split at h
    case h_2 => exact h.elim
    rename_i us hus
    split at h
    case h_2 => exact h.elim
    rename_i hpl
    split at h
    case h_2 => exact h.elim
    rename_i hlen
    split at h
    case h_2 => exact h.elim
    rename_i hfit
    obtain ⟨y, y', hy, hcells', h⟩ := h
    obtain ⟨L', hK, hL⟩ := lsetK_spec h
    have hlen := Nat.eq_of_beq_eq_true hlen
    have hfit := Nat.le_of_ble_eq_true hfit
    have hcells := cellsOf_rel C (fun _ _ h => h) hus hv
    have hl1 := hcells.length
    have hrr := C.row r ver' R hr
    rw [hrv] at hrr
    rcases hrr with ⟨h0, _⟩ | ⟨g1, o2, c1, cur, h0, hb, hh, h3, h4, h5, h6⟩
    · cases h0
    injection h0 with h0 h01 h02
    injection h0 with h0
    injection h0 with h0 h03
    subst h0 h03 h01 h02
    have hil : i < R.xs.length := (List.getElem?_eq_some_iff.1 hy).1
    have hik : i * R.k + R.k ≤ c * R.k := by rw [← Nat.succ_mul]; exact Nat.mul_le_mul_right _ (by omega)
    have hfit2 : o1 + i * R.k + off + (a.eval v).cells.toList.length ≤ cur.size := by omega
    have hrun := run_store_cells (P := P) (hT t) hn hh (a.eval v) (by rw [← hl1, hlen]) hfit2 (store_one C hus hv (plain_solid hpl))
    have hrow := setCells_row (a.eval v).cells.toList (o1 + i * R.k + off) w cur hh hfit2
    obtain ⟨k1, k2, k3, k4, k5⟩ := setCells_keep g0 (a.eval v).cells.toList (o1 + i * R.k + off) w
    obtain ⟨w1, hw1⟩ : ∃ w1, w1 = w.setCells g0 (o1 + i * R.k + off) (a.eval v).cells.toList := ⟨_, rfl⟩
    rw [← hw1] at hrun hrow k1 k2 k3 k4 k5
    have hbad : ∀ b, b < w.heap.size → ¬ Bad X0 s.mem m b → w1.heap[b]? = w.heap[b]? := fun b hb hn => k5 b (fun e => hn (.inr (.inr ⟨r, ver', R, hr, by rw [hrv, e]; rfl⟩)))
    have hmono : ∀ {x : CVal} {u : Value}, Rep w (Bad X0 s.mem m) x u → Rep w1 (fun b => Bad X0 s.mem m b ∨ (Value.slice (some { block := g0, off := o1 }) R.xs.length c).ownBlock = some b) x u := fun hru =>
      Rep.mono (fun b hb hn => ⟨fun hx => hx.elim hn fun hx => hn (.inr (.inr ⟨r, ver', R, hr, by rw [hrv]; exact hx⟩)), hbad b hb hn⟩) (by rw [k4]; exact Nat.le_refl _) hru
    have hR : RowRel w1 (fun b => Bad X0 s.mem m b ∨ (m.rv r).ownBlock = some b) w0.heap.size { R with xs := R.xs.set i y' } (m.rv r) := by
      rw [hrv]
      refine .inr ⟨g0, o1, c, _, by simp, hb, hrow, by simpa using h3, h4, by simpa [setFrom_length] using h5, fun j x hj i' hi' => ?_⟩
      simp only at hj hi' ⊢
      rw [List.getElem?_toArray, setFrom_get _ _ _ _ (by simpa using hfit2)]
      rw [List.getElem?_set] at hj
      split at hj
      · rename_i hij
        subst hij
        first | (rw [if_pos hil] at hj; cases hj) | cases hj
        -- the element that is written
        have hold : All2 (CRel w (Bad X0 s.mem m) s.mem m) (refCells (R.cell y) 0 R.k) ((cur.toList.drop (o1 + i * R.k)).take R.k) := by
          obtain ⟨vs, e1, e2, e3⟩ := cells_of_ref (F := s.mem) (m := m) (w := w) (X := Bad X0 s.mem m) (b := g0) (o := o1 + i * R.k) (cell := R.cell y) (k := R.k) (fun i' hi' => by
            obtain ⟨u, hu, hru⟩ := h6 i y hy i' hi'
            exact ⟨u, by rw [cell_of_row w _ _ cur R.e (0, 0) hh]; exact hu, hru⟩) R.k 0 (by omega)
          have : vs = (cur.toList.drop (o1 + i * R.k)).take R.k := by
            apply List.ext_getElem?
            intro j
            by_cases hj : j < R.k
            · rw [List.getElem?_take, if_pos hj, List.getElem?_drop]
              have h7 := e2 j _ (List.getElem?_eq_getElem (by omega))
              rw [Nat.add_zero, cell_of_row w _ _ cur R.e (0, 0) hh] at h7
              rw [List.getElem?_eq_getElem (by omega)]
              simpa using h7.symm
            · rw [List.getElem?_eq_none (by omega), List.getElem?_eq_none (by rw [List.length_take]; omega)]
          rw [← this]; exact e3
        have hnew := setFrom_rel off hold hcells
        rw [← hcells'] at hnew
        obtain ⟨u, hu, hru⟩ := hnew.get i' (refCells_get (R.cell y') R.k 0 i' hi')
        refine ⟨u, ?_, hmono (by rw [Nat.zero_add] at hru; exact hru)⟩
        have hlt : ((cur.toList.drop (o1 + i * R.k)).take R.k).length = R.k := by rw [List.length_take, List.length_drop, Array.length_toList]; omega
        rw [setFrom_get _ _ _ _ (by rw [hlt]; omega)] at hu
        by_cases hc : off ≤ i' ∧ i' < off + (a.eval v).cells.toList.length
        · rw [if_pos hc] at hu
          rw [if_pos (by omega), ← hu]
          congr 1; omega
        · rw [if_neg hc, List.getElem?_take, if_pos hi', List.getElem?_drop] at hu
          rw [if_neg (by omega)]
          exact hu
      · rename_i hij
        obtain ⟨u, hu, hru⟩ := h6 j x hj i' hi'
        refine ⟨u, ?_, hmono hru⟩
        have hne : ¬ (o1 + i * R.k + off ≤ o1 + j * R.k + i' ∧ o1 + j * R.k + i' < o1 + i * R.k + off + (a.eval v).cells.toList.length) := by
          rcases Nat.lt_or_gt_of_ne hij with hlt | hgt
          · have : i * R.k + R.k ≤ j * R.k := by rw [← Nat.succ_mul]; exact Nat.mul_le_mul_right _ hlt
            omega
          · have : j * R.k + R.k ≤ i * R.k := by rw [← Nat.succ_mul]; exact Nat.mul_le_mul_right _ hgt
            omega
        rw [if_neg hne]
        simpa using hu
    obtain ⟨C', g⟩ := core_setRow (w1 := w1) C r ver' ver' R { R with xs := R.xs.set i y' } (m.rv r) hr (.inr ⟨rfl, rfl, rfl⟩) (by rw [k4]; exact Nat.le_refl _) (fun b hb hn => k5 b fun e => hn (by rw [hrv, e]; rfl)) ⟨k1, k2, k3⟩ (fun b hb => .inl hb) hR
    rw [← mem_setRow hL] at C' g
    exact fin _ (by simp [execOp, ho, hxv, hrun]) ⟨_, _, rel_mem (s := s) (s' := { s with row := L' }) rfl g C C' hfr hd, hK⟩
theorem fin_val (dst : Option Tmp) (v : Value) (w' : World) (hr : (execOp a.eval o).run P w = .ok (.value v) w') (h : SK w0 X0 K (a.put o.dst v) w') : o.wp P a w (SK w0 X0 K) Q := by
  unfold Oper.wp
  rw [hr]
  exact h

/-- What an append reads. -/
theorem srcIs_src {w : World} (C : Core w0 X0 s.mem m w) {x : AVal} {v : Value} {R : Row} {ys : List R.α} (h : SrcIs (lget s.row) x R ys) (hv : VRel w (Bad X0 s.mem m) s.mem m x v) (X : Nat → Prop) (hX : ∀ b, X b → Bad X0 s.mem m b)
    (hx0 : ∀ b, X b → X0 b ∨ Own s.mem m b) :
    ∃ news, Src w R.k v ys.length news ∧ ∀ j y, ys[j]? = some y → ∀ i, i < R.k → ∃ u, news[j * R.k + i]? = some u ∧ Rep w (Bad X0 s.mem m) (R.cell y i) u := by
  unfold SrcIs at h
  split at h
  · have hv : Rep w (Bad X0 s.mem m) _ v := hv
    rw [h] at hv
    exact src_of_rep hv
  · subst h
    have hv : v = .slice none 0 0 := hv
    subst hv
    exact ⟨[], ⟨by simp, by simp, none, 0, rfl, fun h => by simp at h⟩, fun j y h => by simp at h⟩
  · rename_i r ver
    split at h
    case h_2 => exact h.elim
    rename_i ver' R2 hr
    split at h
    case h_2 => exact h.elim
    rename_i hb
    obtain ⟨ver0, R0, hrow0, _, hvv⟩ := hv
    rw [show s.mem.row r = lget s.row r from rfl, hr] at hrow0
    simp only [Option.some.injEq, Prod.mk.injEq] at hrow0
    obtain ⟨e1, e2⟩ := hrow0
    subst e1 e2
    rw [hvv (Nat.eq_of_beq_eq_true hb)]
    subst h
    have hrr := C.row r ver' _ hr
    -- its cells keep clear of what is shut out
    have hrep : Rep w (fun b => False) (.sl R.α R.k R.cell ys) (m.rv r) := row_rep hrr _ fun b hb => hb.elim
    rcases hrr with ⟨e, h0⟩ | ⟨g, o1, c, cur, e, h1, h2, h3, h4, h5, h6⟩
    · rw [e]
      have h0 : ys = [] := h0
      subst h0
      exact ⟨[], ⟨by simp, by simp, none, 0, rfl, fun h => by simp at h⟩, fun j y h => by simp at h⟩
    · obtain ⟨news, hs, hn⟩ := src_of_rep hrep
      refine ⟨news, hs, fun j y hj i hi => ?_⟩
      obtain ⟨u, hu, hru⟩ := h6 j y hj i hi
      refine ⟨u, ?_, hru⟩
      obtain ⟨hlen, _, A, c', e', hA⟩ := hs
      rw [e] at e'
      injection e' with e1 e2 e3
      have hjl := (List.getElem?_eq_some_iff.1 hj).1
      obtain ⟨ad, had, hcell⟩ := hA (by omega)
      rw [← e1] at had
      cases had
      have hlt : j * R.k + i < news.length := by
        rw [hlen]
        have : j * R.k + R.k ≤ ys.length * R.k := by rw [← Nat.succ_mul]; exact Nat.mul_le_mul_right _ hjl
        omega
      have := hcell (j * R.k + i) _ (List.getElem?_eq_getElem hlt)
      rw [add_mk, cell_of_row w _ _ cur R.e (0, 0) h2] at this
      rw [List.getElem?_eq_getElem hlt, ← this, ← hu]
      congr 1
      simp only
      omega
  · exact h.elim

theorem sl_info (hT : TyAll P T) {t e k bytes : Nat} {z : List Value} (h : T t = .sl e k bytes z) : P.underlying t = some (.slice e) ∧ ∃ i zv, P.info? e = some i ∧ i.zero = some zv ∧ zv.cells.size = k ∧ i.size = k ∧ i.bytes = bytes := by
  have h2 := ((hT t).resolve_left (by rw [h]; simp)).2
  rw [h] at h2
  obtain ⟨hu, hinfo, hzl⟩ := h2
  obtain ⟨ei, hei, hee⟩ := Option.map_eq_some_iff.1 hinfo
  simp only [Prod.mk.injEq] at hee
  obtain ⟨zv, hz, hzc⟩ := Option.map_eq_some_iff.1 hee.1
  exact ⟨hu, ei, zv, hei, hz, by rw [hzc]; simpa using hzl, hee.2.1, hee.2.2⟩

theorem sound_wappend (hT : TyAll P T) (R0 : Rel w0 X0 s m a w) {t t' : Nat} {x y : Operand} (ho : o.op = .call ⟨.builtin .append, #[x, y], #[t, t']⟩) (h : wappend T o t t' x y s K) : o.wp P a w (SK w0 X0 K) Q := by
  obtain ⟨C, hfr, hd⟩ := R0
  unfold wappend at h
  split at h
  · exact h.elim
  rename_i htt
  have htt := Nat.eq_of_beq_eq_true htt
  subst htt
  split at h
  case h_2 => exact h.elim
  rename_i e k bytes z hTt
  obtain ⟨hu, ei, zv, hei, hz, hzs, hsz, hby⟩ := sl_info hT hTt
  split at h
  · exact h.elim
  rename_i hk1
  have hk1 := Nat.le_of_ble_eq_true hk1
  have hx := opd_rel hfr x
  have hy := opd_rel hfr y
  have hexec : ∀ v' w', (Builtin.append_ #[t, t] o.type #[a.eval x, a.eval y]).run P w = .ok v' w' → (execOp a.eval o).run P w = .ok (.value v') w' := by
    intro v' w' hr
    simp [execOp, ho, resolve, invoke, builtin, hr]
  split at h
  case h_3 => exact h.elim
  · rename_i r ver hxe
    rw [hxe] at hx
    obtain ⟨ver0, R0, hrow0, hle, hxp⟩ := hx
    split at h
    case h_2 => exact h.elim
    rename_i ver' R hr
    rw [show s.mem.row r = lget s.row r from rfl, hr] at hrow0
    simp only [Option.some.injEq, Prod.mk.injEq] at hrow0
    obtain ⟨e1, e2⟩ := hrow0
    subst e1 e2
    split at h
    case h_2 => exact h.elim
    rename_i hbeq
    have hbeq := Nat.eq_of_beq_eq_true hbeq
    subst hbeq
    have hxv := hxp rfl
    split at h
    case h_2 => exact h.elim
    rename_i he
    have he := Nat.eq_of_beq_eq_true he
    subst he
    split at h
    case h_2 => exact h.elim
    rename_i hk
    have hk := Nat.eq_of_beq_eq_true hk
    subst hk
    obtain ⟨ys, hsrc, h63, hbytes, h⟩ := h
    obtain ⟨L', hK, hL⟩ := lsetK_spec h
    obtain ⟨cells, hraw, hcells⟩ := raw_of_row (C.row r ver R hr)
    obtain ⟨news, hS, hnews⟩ := srcIs_src C hsrc hy (Bad X0 s.mem m) (fun _ h => h) (fun _ h => h)
    obtain ⟨v', w', hrun, hraw', hg, hblk⟩ := run_append_raw (P := P) t o.type R.e ei zv R.k w0.heap.size hu hei hz hsz hzs hk1 (m.rv r) R.xs.length cells hraw (a.eval y) ys.length news hS h63 (by rw [hby]; exact hbytes) C.below.size
    rw [hxv] at hexec
    have hmono : ∀ {x : CVal} {u : Value}, Rep w (Bad X0 s.mem m) x u → Rep w' (fun b => Bad X0 s.mem m b ∨ v'.ownBlock = some b) x u := fun hru =>
      Rep.mono (fun b hb hn => ⟨fun hx => hx.elim hn fun hx => by
        rcases hblk with e1 | e1
        · exact hn (.inr (.inr ⟨r, ver, R, hr, by rw [← e1]; exact hx⟩))
        · rw [e1] at hx; cases hx; omega, hg.block b hb fun e1 => hn (.inr (.inr ⟨r, ver, R, hr, e1.symm⟩))⟩) hg.size hru
    have hR : RowRel w' (fun b => Bad X0 s.mem m b ∨ v'.ownBlock = some b) w0.heap.size { R with xs := R.xs ++ ys } v' := by
      refine row_of_raw (cells := cells ++ news) (by simpa using hraw') fun j x hj i hi => ?_
      simp only at hj hi ⊢
      have hcl : cells.length = R.xs.length * R.k := hraw.1
      by_cases hjl : j < R.xs.length
      · rw [List.getElem?_append_left hjl] at hj
        obtain ⟨u, hu, hru⟩ := hcells j x hj i hi
        have hlt := (List.getElem?_eq_some_iff.1 hu).1
        exact ⟨u, by rw [List.getElem?_append_left hlt]; exact hu, hmono hru⟩
      · rw [List.getElem?_append_right (by omega)] at hj
        obtain ⟨u, hu, hru⟩ := hnews _ x hj i hi
        have hjm : j * R.k = R.xs.length * R.k + (j - R.xs.length) * R.k := by rw [← Nat.add_mul]; congr 1; omega
        refine ⟨u, ?_, hmono hru⟩
        rw [List.getElem?_append_right (by rw [hcl]; omega), hcl, ← hu]
        congr 1; omega
    obtain ⟨C', g⟩ := core_setRow (w1 := w') C r ver (ver + 1) R { R with xs := R.xs ++ ys } v' hr (.inl (Nat.lt_succ_self _)) hg.size (fun b hb hn => hg.block b hb hn.symm) ⟨hg.os, hg.tape, hg.output⟩ (fun b hb => by
      rcases hblk with e1 | e1
      · left; rw [← e1]; exact hb
      · right; rw [e1] at hb; cases hb; exact Nat.le_refl _) hR
    rw [← mem_setRow hL] at C' g
    refine fin_val o.dst v' w' (hexec _ _ hrun) (setFr_rel (s := s) (s' := { s with row := L' }) rfl g C.xlt C' hfr hd ?_ o.dst hK)
    refine ⟨ver + 1, { R with xs := R.xs ++ ys }, ?_, Nat.le_refl _, fun _ => by simp [Map.setR]⟩
    show lget L' r = _
    rw [hL]; simp
  · rename_i hxe
    rw [hxe] at hx
    have hxv : a.eval x = .slice none 0 0 := hx
    rw [hxv] at hexec
    split at h
    · exact h.elim
    rename_i d hdst
    have key : ∀ (R : Row), R.e = e → R.k = k → SrcIs (lget s.row) (opd s.fr y) R R.xs → R.xs.length ≤ maxI → R.xs.length * bytes ≤ 140737488355328 → addRows [(d, R)] s (fun s' => setFr s' o.dst (.p (.one (.own d 0))) K) → o.wp P a w (SK w0 X0 K) Q := by
      intro R he hk hsrc h63 hbytes hA
      subst he hk
      obtain ⟨hfresh, s', hK, e1, e2, e3⟩ := addRows_spec hA
      obtain ⟨news, hS, hnews⟩ := srcIs_src C hsrc hy (Bad X0 s.mem m) (fun _ h => h) (fun _ h => h)
      obtain ⟨v', w', hrun, hraw', hg, hblk⟩ := run_append_raw (P := P) t o.type R.e ei zv R.k w.heap.size hu hei hz hsz hzs hk1 (.slice none 0 0) 0 [] ⟨by simp, .inl ⟨rfl, rfl⟩⟩ (a.eval y) R.xs.length news hS (by simpa using h63) (by rw [hby]; simpa using hbytes) (Nat.le_refl _)
      have hbl : Below w.heap.size w w' := ⟨hg.os, hg.tape, hg.output, hg.size, fun b hb => hg.block b hb (by simp [Value.ownBlock])⟩
      have hone : ∀ r R', lget [(d, R)] r = some R' → r = d ∧ R' = R := fun r R' hh => lget_one d R r hh
      have hR : RowRel w' (fun b => Bad X0 s.mem m b ∨ v'.ownBlock = some b) w.heap.size R v' := by
        refine row_of_raw (cells := news) (by simpa using hraw') fun j x hj i hi => ?_
        obtain ⟨u, hu, hru⟩ := hnews j x hj i hi
        refine ⟨u, hu, Rep.mono (fun b hb hn => ⟨fun hx => hx.elim hn fun hx => ?_, hbl.block b hb⟩) hbl.size hru⟩
        rcases hblk with e4 | e4
        · rw [e4] at hx; simp [Value.ownBlock] at hx
        · rw [e4] at hx; cases hx; omega
      obtain ⟨C', g⟩ := core_newRows (w1 := w') C hbl [(d, R)] (fun _ => v') hfresh (fun r R' hh => by
          obtain ⟨rfl, rfl⟩ := hone r R' hh
          rcases hR with hR | ⟨g0, o1, c, cur, q1, q2, q3, q4, q5, q6, q7⟩
          · exact .inl hR
          · refine .inr ⟨g0, o1, c, cur, q1, q2, q3, q4, q5, q6, fun j x hj i hi => ?_⟩
            obtain ⟨u, hu, hru⟩ := q7 j x hj i hi
            exact ⟨u, hu, hru.sub fun b hb => hb.elim .inl fun ⟨_, _, _, hb⟩ => .inr hb⟩)
        (fun r r' R1 R2 b h1 h2 _ _ => by rw [(hone r R1 h1).1, (hone r' R2 h2).1])
      have hm : s'.mem = s.mem.add (.rows [(d, R)]) := by
        show Mem.mk _ _ = _
        rw [e2]
        congr 1
        funext r
        exact e3 r
      rw [← hm] at C' g
      refine fin_val o.dst v' w' (hexec _ _ hrun) (setFr_rel (s := s) e1 g C.xlt C' hfr hd ?_ o.dst hK)
      refine ⟨0, R, ?_, Nat.le_refl _, fun _ => by simp [Map.addRows, lget_cons]⟩
      rw [hm]
      simp [Mem.add, lget_cons]
    split at h
    case h_3 => exact h.elim
    · rename_i r ver hye
      split at h
      case h_2 => exact h.elim
      rename_i ver' R hr
      split at h
      case h_2 => exact h.elim
      rename_i hb
      split at h
      case h_2 => exact h.elim
      rename_i he
      split at h
      case h_2 => exact h.elim
      rename_i hk
      refine key R (Nat.eq_of_beq_eq_true he) (Nat.eq_of_beq_eq_true hk) ?_ h.1 h.2.1 h.2.2
      rw [hye]
      simp only [SrcIs, hr, hb]
    · rename_i α k' cell zs hye
      split at h
      case h_2 => exact h.elim
      rename_i hk
      refine key ⟨α, k', cell, e, zs⟩ rfl (Nat.eq_of_beq_eq_true hk) ?_ h.1 h.2.1 h.2.2
      rw [hye]
      rfl

theorem sound_wreslice (hT : TyAll P T) (R0 : Rel w0 X0 s m a w) {t r ver : Nat} {y : Operand} {lo hi : Option Operand} (ho : o.op = .slice t y lo hi none) (hye : opd s.fr y = .p (.one (.own r ver)))
    (h : wreslice T o t r ver (lo.map (opd s.fr)) (hi.map (opd s.fr)) s K) : o.wp P a w (SK w0 X0 K) Q := by
  obtain ⟨C, hfr, hd⟩ := R0
  unfold wreslice at h
  split at h
  case h_2 => exact h.elim
  rename_i e k bytes z hTt
  obtain ⟨hu, ei, zv, hei, hz, hzs, hsz, hby⟩ := sl_info hT hTt
  split at h
  case h_2 => exact h.elim
  rename_i ver' R hr
  split at h
  case h_2 => exact h.elim
  rename_i hbeq
  have hbeq := Nat.eq_of_beq_eq_true hbeq
  subst hbeq
  split at h
  case h_2 => exact h.elim
  rename_i hk
  have hk := Nat.eq_of_beq_eq_true hk
  subst hk
  split at h
  case h_2 => exact h.elim
  rename_i l hl
  split at h
  case h_2 => exact h.elim
  rename_i hh hhe
  obtain ⟨h0, hlh, hhn, h⟩ := h
  obtain ⟨L', hK, hL⟩ := lsetK_spec h
  have hx := opd_rel hfr y
  rw [hye] at hx
  obtain ⟨ver0, R1, hrow0, hle, hxp⟩ := hx
  rw [show s.mem.row r = lget s.row r from rfl, hr] at hrow0
  simp only [Option.some.injEq, Prod.mk.injEq] at hrow0
  obtain ⟨e1, e2⟩ := hrow0
  subst e1 e2
  have hxv := hxp rfl
  have hb : ∀ c, R.xs.length ≤ c → (Instr.sliceBounds true R.xs.length c (lo.map a.eval) (hi.map a.eval) none).run P w = .ok (l.toNat, hh.toNat, c) w := by
    intro c h1
    unfold Instr.sliceBounds
    have hH : ∀ (code : BoundsCode) (x : Operand), hi = some x → (Instr.sliceBound (a.eval x) c code).run P w = .ok hh.toNat w := fun code x hx => by
      subst hx
      exact run_bound (bnd_some hhe (opd_rel hfr x)) (by omega) (by omega)
    have hL : ∀ (code : BoundsCode) (x : Operand), lo = some x → (Instr.sliceBound (a.eval x) hh.toNat code).run P w = .ok l.toNat w := fun code x hx => by
      subst hx
      exact run_bound (bnd_some hl (opd_rel hfr x)) (by omega) (by omega)
    cases hi with
    | none =>
      have e2 : hh = R.xs.length := by simpa [bnd] using hhe.symm
      cases lo with
      | none =>
        have e1 : l = 0 := by simpa [bnd] using hl.symm
        simp [e1, e2]
      | some x => simp [e2] at hL ⊢; simp [hL]
    | some x =>
      cases lo with
      | none =>
        have e1 : l = 0 := by simpa [bnd] using hl.symm
        simp [e1, hH _ x rfl]
      | some x' => simp [hH _ x rfl, hL _ x' rfl]
  have hlen : ((R.xs.take hh.toNat).drop l.toNat).length = hh.toNat - l.toNat := by rw [List.length_drop, List.length_take]; omega
  have hrr := C.row r ver R hr
  -- the value handed on, and the row it is
  have fin : ∀ v', (execOp a.eval o).run P w = .ok (.value v') w → (∀ b, v'.ownBlock = some b → (m.rv r).ownBlock = some b) → RowRel w (Bad X0 s.mem m) w0.heap.size { R with xs := (R.xs.take hh.toNat).drop l.toNat } v' → o.wp P a w (SK w0 X0 K) Q := by
    intro v' hrun hblk hR
    have hR' : RowRel w (fun b => Bad X0 s.mem m b ∨ v'.ownBlock = some b) w0.heap.size { R with xs := (R.xs.take hh.toNat).drop l.toNat } v' := by
      rcases hR with hR | ⟨g0, o1, c, cur, q1, q2, q3, q4, q5, q6, q7⟩
      · exact .inl hR
      · refine .inr ⟨g0, o1, c, cur, q1, q2, q3, q4, q5, q6, fun j x hj i hi => ?_⟩
        obtain ⟨u, hu, hru⟩ := q7 j x hj i hi
        exact ⟨u, hu, hru.sub fun b hb => hb.elim id fun hb => .inr (.inr ⟨r, ver, R, hr, hblk b hb⟩)⟩
    obtain ⟨C', g⟩ := core_setRow (w1 := w) C r ver (ver + 1) R { R with xs := (R.xs.take hh.toNat).drop l.toNat } v' hr (.inl (Nat.lt_succ_self _)) (Nat.le_refl _) (fun b hb hn => rfl) ⟨rfl, rfl, rfl⟩ (fun b hb => .inl (hblk b hb)) hR'
    rw [← mem_setRow hL] at C' g
    refine fin_val o.dst v' w hrun (setFr_rel (s := s) (s' := { s with row := L' }) rfl g C.xlt C' hfr hd ?_ o.dst hK)
    refine ⟨ver + 1, { R with xs := (R.xs.take hh.toNat).drop l.toNat }, ?_, Nat.le_refl _, fun _ => by simp [Map.setR]⟩
    show lget L' r = _
    rw [hL]; simp
  rcases hrr with ⟨he, hxs⟩ | ⟨g0, o1, c, cur, he, h1, h2, h3, h4, h5, h6⟩
  · have hb0 := hb 0 (by rw [hxs]; exact Nat.le_refl _)
    rw [hxs] at hb0 hhn
    have hl0 : l = 0 := by simp at hhn; omega
    have hh0 : hh = 0 := by simp at hhn; omega
    refine fin (.slice none 0 0) ?_ (fun b hb => by simp [Value.ownBlock] at hb) (.inl ⟨rfl, by simp [hxs]⟩)
    simp only [List.length_nil] at hb0
    simp [execOp, ho, Instr.sliceAt, run_underlying hu, Instr.slice, hxv, he, hb0, hl0, hh0, sizeOf, typeInfo, hei]
  · have hb0 := hb c h3
    have hrun : ∀ A, m.rv r = .slice A R.xs.length c → (execOp a.eval o).run P w = .ok (.value (.slice (if c = l.toNat then A else A.map (·.add (l.toNat * ei.size))) (hh.toNat - l.toNat) (c - l.toNat))) w := by
      intro A hA
      simp [execOp, ho, Instr.sliceAt, run_underlying hu, Instr.slice, hxv, hA, hb0, sizeOf, typeInfo, hei]
    have hrun := hrun _ he
    rw [hsz] at hrun
    refine fin _ hrun (fun b hb => by
      rw [he]
      revert hb
      split
      · exact id
      · simp only [Option.map, add_mk]; exact id) ?_
    · by_cases hcl : c = l.toNat
      · rw [if_pos hcl]
        have hnil : ((R.xs.take hh.toNat).drop l.toNat) = [] := List.eq_nil_of_length_eq_zero (by rw [hlen]; omega)
        refine .inr ⟨g0, o1, c - l.toNat, cur, by simp only [hlen], h1, h2, by simp only [hlen]; omega, by omega, ?_, fun j x hj => ?_⟩
        · have : (c - l.toNat) * R.k ≤ c * R.k := Nat.mul_le_mul_right _ (by omega)
          simp only
          omega
        · simp only [hnil] at hj; simp at hj
      · rw [if_neg hcl]
        simp only [Option.map, add_mk]
        refine .inr ⟨g0, o1 + l.toNat * R.k, c - l.toNat, cur, by simp only [hlen], h1, h2, by simp only [hlen]; omega, by omega, ?_, fun j x hj i hi => ?_⟩
        · have : l.toNat * R.k + (c - l.toNat) * R.k = c * R.k := by rw [← Nat.add_mul]; congr 1; omega
          simp only
          omega
        · simp only at hj hi ⊢
          rw [List.getElem?_drop, List.getElem?_take] at hj
          split at hj
          · obtain ⟨u, hu', hru⟩ := h6 _ x hj i hi
            refine ⟨u, ?_, hru⟩
            rw [← hu', Nat.add_mul]
            congr 1
            omega
          · cases hj
end
end Go.Fx

namespace Go.Fx
open Go.RowKit
set_option linter.unusedVariables false

section
variable {P : Program} {T : TypeId → Ty} {w0 w w1 : World} {X0 : Nat → Prop} {s s1 : St} {m m1 : Map} {a : Act} {o : Oper} {Q : Exit → Act → World → Prop} {K : St → Prop}

theorem sk_wp {K1 : St → Prop} (h : SK w0 X0 K1 a w) (hk : ∀ s m, Rel w0 X0 s m a w → K1 s → o.wp P a w (SK w0 X0 K) Q) : o.wp P a w (SK w0 X0 K) Q := by
  obtain ⟨s, m, R, h⟩ := h
  exact hk s m R h

theorem sound_wstep (hT : TyAll P T) (R : Rel w0 X0 s m a w) (h : wstep P T o s K) : o.wp P a w (SK w0 X0 K) Q := by
  unfold wstep at h
  split at h
  · rename_i t x v ho
    split at h
    · exact sk_wp (sound_relAll R h) fun s' m' R' h' => sound_wstore hT R' ho h'
    · exact sound_wstore hT R ho h
  · rename_i t x lo hi mx ho
    split at h
    · rename_i r ver hx
      split at h
      · exact sound_wreslice hT R ho hx h
      · exact h.elim
    · exact sound_qstep hT R h
  · exact sk_wp (sound_relAll R h) fun s' m' R' h' => sound_qstep hT R' h'
  · rename_i c ho
    obtain ⟨cal, args, ts⟩ := c
    simp only at h
    split at h
    · split at h
      · split at h
        case h_2 => exact h.elim
        rename_i x y hx
        split at h
        case h_2 => exact h.elim
        rename_i t t' ht
        have ea : args = #[x, y] := Array.toList_inj.1 (by simpa using hx)
        have et : ts = #[t, t'] := Array.toList_inj.1 (by simpa using ht)
        subst ea et
        exact sound_wappend hT R ho h
      · exact sound_qstep hT R h
    · split at h
      · exact sound_qstep hT R h
      · rcases h with h | h | h
        · exact sound_qstep hT R h
        · exact sk_wp (sound_relAll R h) fun s' m' R' h' => sound_qstep hT R' h'
        · exact h w0 X0 m a w Q R
    · exact h.elim
  · exact sound_qstep hT R h
end

/-! ### A region in text order -/
def nth {α : Type _} : List α → Nat → Option α
  | [], _ => none
  | x :: _, 0 => some x
  | _ :: l, i + 1 => nth l i
theorem nth_eq {α : Type _} : ∀ (l : List α) (i : Nat), nth l i = l[i]?
  | [], _ => by simp [nth]
  | _ :: _, 0 => by simp [nth]
  | _ :: l, i + 1 => by simp [nth, nth_eq l i]

def gslot (ops : List Oper) (j : Nat) : Option Nat :=
  match nth ops j with
  | some o => o.dst
  | none => none

/-- Is it wanted? A truth in a slot is decided here, and put there. -/
def wguard (ops : List Oper) (g : Option (Nat × Bool)) (s : St) (yes no : St → Prop) : Prop :=
  match g with
  | none => yes s
  | some (j, want) => match gslot ops j with
    | none => no s
    | some d => match fget s.fr d with
      | .p (.one (.c (.bool t))) => acond t
          (setK s.fr d (.c (.bool true)) fun fr => match want with
            | true => yes { s with fr := fr }
            | false => no { s with fr := fr })
          (setK s.fr d (.c (.bool false)) fun fr => match want with
            | true => no { s with fr := fr }
            | false => yes { s with fr := fr })
      | .tup [] => no s
      | _ => False

def seqops (P : Program) (T : TypeId → Ty) (ops : List Oper) : List Oper → St → (St → Prop) → Prop
  | [], s, K => K s
  | o :: rest, s, K => wguard ops o.guard s (fun s => wstep P T o s fun s' => forceS s' fun s' => seqops P T ops rest s' K) (fun s => setFr s o.dst (.tup []) fun s' => forceS s' fun s' => seqops P T ops rest s' K)

section
variable {P : Program} {T : TypeId → Ty} {w0 w w1 : World} {X0 : Nat → Prop} {s s1 : St} {m m1 : Map} {a : Act} {o : Oper} {Q : Exit → Act → World → Prop} {K : St → Prop}

theorem all2_set_same {α β : Type _} {R : α → β → Prop} : ∀ {l : List α} {k : List β} (i : Nat) {x : α} {v : β}, All2 R l k → k[i]? = some v → R x v → All2 R (l.set i x) k
  | [], [], _, _, _, _, h, _ => by simp at h
  | _ :: _, _ :: _, 0, _, _, h, hk, hr => by
    simp at hk
    subst hk
    exact ⟨hr, h.2⟩
  | _ :: _, _ :: _, i + 1, _, _, h, hk, hr => ⟨h.1, all2_set_same i h.2 (by simpa using hk) hr⟩
  | [], _ :: _, _, _, _, h, _, _ => h.elim
  | _ :: _, [], _, _, _, h, _, _ => h.elim

theorem sound_guard {ops : List Oper} (R : Rel w0 X0 s m a w) {yes no : St → Prop} (h : wguard ops o.guard s yes no) :
    (Region.wanted o (yielded ops.toArray a.tmps) = true ∧ ∃ s', Rel w0 X0 s' m a w ∧ yes s') ∨ (Region.wanted o (yielded ops.toArray a.tmps) = false ∧ ∃ s', Rel w0 X0 s' m a w ∧ no s') := by
  unfold wguard at h
  unfold Region.wanted
  split at h
  · exact .inl ⟨by simp [*], s, R, h⟩
  rename_i j want hg
  rw [hg]
  simp only
  have hy : yielded ops.toArray a.tmps j = match (gslot ops j).bind (a.tmps[·]?) with
    | some (.bool b) => some b
    | _ => none := by
    unfold yielded gslot
    rw [nth_eq]
    simp only [List.getElem?_toArray]
    cases ops[j]? <;> rfl
  split at h
  · rename_i hs
    rw [hs] at hy
    simp only [Option.bind_none] at hy
    exact .inr ⟨by rw [hy]; cases want <;> rfl, s, R, h⟩
  · rename_i d hs
    rw [hs] at hy
    simp only [Option.bind_some] at hy
    obtain ⟨C, hfr, hd⟩ := R
    have hrel := fget_rel d hfr
    split at h
    · rename_i t hf
      rw [hf] at hrel
      have hv : a.tmps.toList.getD d undef = .bool t := hrel
      have hv' : a.tmps.toList[d]? = some (.bool t) := by
        rw [List.getD_eq_getElem?_getD] at hv
        cases hq : a.tmps.toList[d]? with
        | none => rw [hq] at hv; simp [undef] at hv
        | some u => rw [hq] at hv; simp at hv; rw [hv]
      have hv2 : a.tmps[d]? = some (.bool t) := by rw [← hv']; simp
      rw [hv2] at hy
      simp only at hy
      have hset : ∀ b, b = t → Rel w0 X0 { s with fr := s.fr.set d (.c (.bool b)) } m a w := fun b e => by
        subst e
        exact ⟨C, all2_set_same d hfr hv' rfl, hd⟩
      rw [hy]
      cases t with
      | true =>
        have h : setK s.fr d (.c (.bool true)) _ := h
        rw [setK_iff] at h
        cases want with
        | true => exact .inl ⟨rfl, _, hset true rfl, h⟩
        | false => exact .inr ⟨rfl, _, hset true rfl, h⟩
      | false =>
        have h : setK s.fr d (.c (.bool false)) _ := h
        rw [setK_iff] at h
        cases want with
        | true => exact .inr ⟨rfl, _, hset false rfl, h⟩
        | false => exact .inl ⟨rfl, _, hset false rfl, h⟩
    · rename_i hf
      rw [hf] at hrel
      obtain ⟨vs, hv, hall⟩ := hrel
      cases vs with
      | cons => exact hall.elim
      | nil =>
        have hv2 : yielded ops.toArray a.tmps j = none := by
          rw [hy]
          rw [List.getD_eq_getElem?_getD] at hv
          have : a.tmps[d]? = a.tmps.toList[d]? := by simp
          rw [this]
          cases hq : a.tmps.toList[d]? with
          | none => rfl
          | some u => rw [hq] at hv; simp at hv; rw [hv]
        exact .inr ⟨by rw [hv2]; cases want <;> rfl, s, ⟨C, hfr, hd⟩, h⟩
    · exact h.elim

theorem undef_rel (X : Nat → Prop) (F : Mem) : VRel w X F m (.tup []) undef := ⟨[], rfl, trivial⟩

theorem sound_seqops (hT : TyAll P T) {ops : List Oper} (hQ : ∀ s m a w, Rel w0 X0 s m a w → K s → Q .normal a w) : ∀ (l : List Oper) {s : St} {m : Map} {a : Act} {w : World}, Rel w0 X0 s m a w → seqops P T ops l s K → wpList P ops.toArray Q l a w
  | [], s, m, a, w, R, h => hQ s m a w R h
  | o :: rest, s, m, a, w, R, h => by
    unfold seqops at h
    unfold wpList
    rcases sound_guard R h with ⟨hw, s', R', h'⟩ | ⟨hw, s', R', h'⟩
    · rw [if_pos hw]
      refine .inl (Oper.wp_mono (fun a' w' hsk => ?_) (sound_wstep (Q := Q) hT R' h'))
      obtain ⟨s2, m2, R2, h2⟩ := hsk
      rw [forceS_iff] at h2
      exact sound_seqops hT hQ rest R2 h2
    · rw [if_neg (by simp [hw])]
      obtain ⟨s2, m2, R2, h2⟩ := setFr_rel (s := s') (s' := s') (m := m) rfl (Grow.refl _ _ _) R'.1.xlt R'.1 R'.2.1 R'.2.2 (undef_rel _ _) o.dst h'
      rw [forceS_iff] at h2
      exact sound_seqops hT hQ rest R2 h2
end

/-! ### A state that says less -/
def cle (s s' : St) : Cell → Cell → Prop
  | x, .any => True
  | .c x, .c y => x = y
  | .c x, .own r v' => match lget s.row r with
    | some _ => False
    | none => match lget s'.row r with
      | some (v2, _) => match Nat.beq v' v2 with
        | true => x = .nil
        | false => False
      | none => False
  | .own r v, .own r' v' => match Nat.beq r r' with
    | true => match lget s.row r with
      | some (v1, _) => match Nat.beq v v1 with
        | true => match lget s'.row r with
          | some (v2, _) => Nat.beq v' v2 = true
          | none => False
        | false => False
      | none => False
    | false => False
  | .own r v, .c y => match lget s.row r with
    | some (v1, R) => match Nat.beq v v1 with
      | true => match lget s'.row r with
        | some _ => False
        | none => y = .sl R.α R.k R.cell R.xs
      | false => False
    | none => False
  | .optr r v i o, .optr r' v' i' o' => match Nat.beq r r' with
    | true => match lget s.row r with
      | some (v1, _) => match Nat.beq v v1 with
        | true => match lget s'.row r with
          | some (v2, _) => Nat.beq v' v2 = true ∧ i = i' ∧ o = o'
          | none => False
        | false => False
      | none => False
    | false => False
  | .lptr l o, .lptr l' o' => match Nat.beq l l' with
    | true => match lget s'.loc l with
      | some _ => o = o'
      | none => False
    | false => False
  | .clo f ls, .clo f' ls' => f = f' ∧ ls = ls' ∧ allb (fun l => (lget s'.loc l).isSome) ls = true
  | _, _ => False

def all2P {α β : Type _} (R : α → β → Prop) : List α → List β → Prop
  | [], [] => True
  | a :: l, b :: k => R a b ∧ all2P R l k
  | _, _ => False
theorem all2P_imp {α β γ : Type _} {R : α → β → Prop} {S : α → γ → Prop} {S' : β → γ → Prop} (h : ∀ a b c, R a b → S a c → S' b c) : ∀ {l : List α} {k : List β} {vs : List γ}, all2P R l k → All2 S l vs → All2 S' k vs
  | [], [], [], _, _ => trivial
  | _ :: _, _ :: _, _ :: _, h1, h2 => ⟨h _ _ _ h1.1 h2.1, all2P_imp h h1.2 h2.2⟩
  | [], _ :: _, _, h1, _ => h1.elim
  | _ :: _, [], _, h1, _ => h1.elim
  | [], [], _ :: _, _, h2 => h2.elim
  | _ :: _, _ :: _, [], _, h2 => h2.elim

def ple (s s' : St) : Part → Part → Prop
  | _, .one .any => True
  | .one x, .one y => cle s s' x y
  | .agg l, .agg k => all2P (cle s s') l k
  | _, _ => False
def vle (s s' : St) : AVal → AVal → Prop
  | _, .p (.one .any) => True
  | .p x, .p y => ple s s' x y
  | .tup l, .tup k => all2P (ple s s') l k
  | _, _ => False

def locLe (s s' : St) : List (Nat × List Cell) → Prop
  | [] => True
  | (l, cs') :: rest => (match lget s.loc l with
      | some cs => all2P (cle s s') cs cs'
      | none => False) ∧ locLe s s' rest
def rowLe (s : St) : List (Nat × (Nat × Row)) → Prop
  | [] => True
  | (r, (_, R')) :: rest => (match lget s.row r with
      | some (_, R) => R = R'
      | none => R'.xs = []) ∧ rowLe s rest
def Sub (s s' : St) : Prop := all2P (vle s s') s.fr s'.fr ∧ locLe s s' s'.loc ∧ rowLe s s'.row

section
variable {P : Program} {T : TypeId → Ty} {w0 w w1 : World} {X0 : Nat → Prop} {s s' : St} {m m1 : Map} {a : Act} {o : Oper} {Q : Exit → Act → World → Prop} {K : St → Prop}

theorem locLe_get : ∀ {L : List (Nat × List Cell)} {l : Nat} {cs' : List Cell}, locLe s s' L → lget L l = some cs' → ∃ cs, lget s.loc l = some cs ∧ all2P (cle s s') cs cs'
  | [], l, cs', _, h => by simp [lget] at h
  | (k, u) :: t, l, cs', hl, h => by
    rw [lget_cons] at h
    split at h
    · rename_i e
      subst e
      cases h
      have h1 := hl.1
      split at h1
      · exact ⟨_, ‹_›, h1⟩
      · exact h1.elim
    · exact locLe_get hl.2 h
theorem rowLe_get : ∀ {L : List (Nat × (Nat × Row))} {r v : Nat} {R' : Row}, rowLe s L → lget L r = some (v, R') → (∃ v0, lget s.row r = some (v0, R')) ∨ (lget s.row r = none ∧ R'.xs = [])
  | [], r, v, R', _, h => by simp [lget] at h
  | (k, (v1, R1)) :: t, r, v, R', hl, h => by
    rw [lget_cons] at h
    split at h
    · rename_i e
      subst e
      cases h
      have h1 := hl.1
      split at h1
      · subst h1; exact .inl ⟨_, ‹_›⟩
      · exact .inr ⟨‹_›, h1⟩
    · exact rowLe_get hl.2 h

theorem sub_rel (hs : Sub s s') (R0 : Rel w0 X0 s m a w) : ∃ m', Rel w0 X0 s' m' a w := by
  obtain ⟨hF, hL, hR⟩ := hs
  obtain ⟨C, hfr, hd⟩ := R0
  obtain ⟨m', hm⟩ : ∃ m' : Map, m' = ⟨m.lb, fun r => match lget s.row r with | some _ => m.rv r | none => .slice none 0 0⟩ := ⟨_, rfl⟩
  have hlb : m'.lb = m.lb := by rw [hm]
  have hrvS : ∀ r p, lget s.row r = some p → m'.rv r = m.rv r := fun r p h => by rw [hm]; simp only [h]
  have hrvN : ∀ r, lget s.row r = none → m'.rv r = .slice none 0 0 := fun r h => by rw [hm]; simp only [h]
  have hown : ∀ b, Own s'.mem m' b → Own s.mem m b := by
    rintro b (⟨l, cs, h1, h2⟩ | ⟨r, v, R', h1, h2⟩)
    · obtain ⟨cs0, h3, _⟩ := locLe_get hL h1
      exact .inl ⟨l, cs0, h3, by rw [← h2, hlb]⟩
    · rcases rowLe_get hR h1 with ⟨v0, h3⟩ | ⟨h3, h4⟩
      · rw [hrvS r _ h3] at h2
        exact .inr ⟨r, v0, R', h3, h2⟩
      · rw [hrvN r h3] at h2
        simp [Value.ownBlock] at h2
  have hbad : ∀ b, Bad X0 s'.mem m' b → Bad X0 s.mem m b := fun b hb => hb.imp id (hown b)
  have hc : ∀ (x y : Cell) (v : Value), cle s s' x y → CRel w (Bad X0 s.mem m) s.mem m x v → CRel w (Bad X0 s'.mem m') s'.mem m' y v := by
    intro x y v h hx
    unfold cle at h
    split at h
    · trivial
    · subst h
      exact Rep.sub hbad hx
    · rename_i x r v'
      split at h
      · exact h.elim
      rename_i hn
      split at h
      case h_2 => exact h.elim
      rename_i v2 R2 hr2
      split at h
      case h_2 => exact h.elim
      rename_i hb
      subst h
      have hv : v = .slice none 0 0 := hx
      subst hv
      have e := Nat.eq_of_beq_eq_true hb
      subst e
      exact ⟨v', R2, hr2, Nat.le_refl _, fun _ => (hrvN r hn).symm⟩
    · rename_i r v0 r' v'
      split at h
      case h_2 => exact h.elim
      rename_i hb
      have e := Nat.eq_of_beq_eq_true hb
      subst e
      split at h
      case h_2 => exact h.elim
      rename_i v1 R1 hr1
      split at h
      case h_2 => exact h.elim
      rename_i hb1
      have e := Nat.eq_of_beq_eq_true hb1
      subst e
      split at h
      case h_2 => exact h.elim
      rename_i v2 R2 hr2
      have e := Nat.eq_of_beq_eq_true h
      subst e
      obtain ⟨va, Ra, h1, h2, h3⟩ := hx
      have h1 : lget s.row r = some (va, Ra) := h1
      rw [hr1] at h1
      cases h1
      exact ⟨v', R2, hr2, Nat.le_refl _, fun _ => by rw [hrvS r _ hr1]; exact h3 rfl⟩
    · rename_i r v0 y
      split at h
      case h_2 => exact h.elim
      rename_i v1 R1 hr1
      split at h
      case h_2 => exact h.elim
      rename_i hb1
      have e := Nat.eq_of_beq_eq_true hb1
      subst e
      split at h
      · exact h.elim
      rename_i hn
      subst h
      obtain ⟨va, Ra, h1, h2, h3⟩ := hx
      have h1 : lget s.row r = some (va, Ra) := h1
      rw [hr1] at h1
      cases h1
      rw [h3 rfl]
      show Rep w (Bad X0 s'.mem m') (.sl R1.α R1.k R1.cell R1.xs) (m.rv r)
      rcases C.row r v0 R1 hr1 with ⟨e1, e2⟩ | ⟨g, o, c, cur, e1, hg, hh, hc1, hc2, hc3, hc4⟩
      · rw [e1]
        refine ⟨none, 0, by rw [e2]; rfl, by rw [e2]; exact Nat.le_refl _, by rw [e2]; exact Nat.zero_le _, fun hne => absurd e2 hne⟩
      · rw [e1]
        refine ⟨_, c, rfl, hc1, Nat.le_trans hc1 hc2, fun _ => ⟨g, o, rfl, ?_, ?_, fun j x hj i hi => ?_⟩⟩
        · rintro (hb | ⟨l, cs, h4, h5⟩ | ⟨r', v', R', h4, h5⟩)
          · have := C.x0 g hb; omega
          · obtain ⟨cs0, h6, _⟩ := locLe_get hL h4
            rw [hlb] at h5
            exact C.sepLR l cs0 r v0 R1 h6 hr1 (by rw [e1, h5]; rfl)
          · rcases rowLe_get hR h4 with ⟨v2, h6⟩ | ⟨h6, _⟩
            · rw [hrvS r' _ h6] at h5
              have := C.sepRR r r' v0 v2 R1 R' g hr1 h6 (by rw [e1]; rfl) h5
              subst this
              have h4 : lget s'.row r = some (v', R') := h4
              rw [hn] at h4; cases h4
            · rw [hrvN r' h6] at h5
              simp [Value.ownBlock] at h5
        · rcases Nat.lt_or_ge g w.heap.size with h | h
          · exact h
          · rw [Array.getElem?_eq_none h] at hh; cases hh
        · obtain ⟨u, hu, hru⟩ := hc4 j x hj i hi
          exact ⟨u, by rw [cell_of_row w g _ cur R1.e (0, 0) hh]; exact hu, Rep.sub hbad hru⟩
    · rename_i r v0 i off r' v' i' off'
      split at h
      case h_2 => exact h.elim
      rename_i hb
      have e := Nat.eq_of_beq_eq_true hb
      subst e
      split at h
      case h_2 => exact h.elim
      rename_i v1 R1 hr1
      split at h
      case h_2 => exact h.elim
      rename_i hb1
      have e := Nat.eq_of_beq_eq_true hb1
      subst e
      split at h
      case h_2 => exact h.elim
      rename_i v2 R2 hr2
      obtain ⟨h, rfl, rfl⟩ := h
      have e := Nat.eq_of_beq_eq_true h
      subst e
      obtain ⟨va, Ra, h1, h2, h3⟩ := hx
      have h1 : lget s.row r = some (va, Ra) := h1
      rw [hr1] at h1
      cases h1
      refine ⟨v', R2, hr2, Nat.le_refl _, fun _ => ?_⟩
      obtain ⟨g, o1, n, c, e1, e2⟩ := h3 rfl
      rcases rowLe_get hR hr2 with ⟨vv, h4⟩ | ⟨h4, _⟩
      · rw [hr1] at h4
        cases h4
        exact ⟨g, o1, n, c, by rw [hrvS r _ hr1]; exact e1, e2⟩
      · rw [hr1] at h4; cases h4
    · rename_i l off l' off'
      split at h
      case h_2 => exact h.elim
      rename_i hb
      have e := Nat.eq_of_beq_eq_true hb
      subst e
      split at h
      case h_2 => exact h.elim
      rename_i cs' hl'
      subst h
      obtain ⟨_, rfl⟩ := hx
      exact ⟨⟨_, hl'⟩, by rw [hlb]⟩
    · obtain ⟨rfl, rfl, hall⟩ := h
      rename_i f ls
      obtain ⟨rfl, -⟩ := hx
      refine ⟨by rw [hlb], fun l hl => ?_⟩
      have : (lget s'.loc l).isSome = true := by
        clear hL hF
        induction ls with
        | nil => simp at hl
        | cons y ls ih =>
          unfold allb at hall
          split at hall
          case h_2 => cases hall
          rename_i hy
          rcases List.mem_cons.1 hl with rfl | hl
          · exact hy
          · exact ih hall hl
      obtain ⟨cs, hcs⟩ := Option.isSome_iff_exists.1 this
      exact ⟨cs, hcs⟩
    · exact h.elim
  have hp : ∀ (x y : Part) (v : Value), ple s s' x y → PRel w (Bad X0 s.mem m) s.mem m x v → PRel w (Bad X0 s'.mem m') s'.mem m' y v := by
    intro x y v h hx
    unfold ple at h
    split at h
    · trivial
    · exact hc _ _ _ h hx
    · obtain ⟨vs, rfl, hx⟩ := hx
      exact ⟨vs, rfl, all2P_imp hc h hx⟩
    · exact h.elim
  have hv : ∀ (x y : AVal) (v : Value), vle s s' x y → VRel w (Bad X0 s.mem m) s.mem m x v → VRel w (Bad X0 s'.mem m') s'.mem m' y v := by
    intro x y v h hx
    unfold vle at h
    split at h
    · trivial
    · exact hp _ _ _ h hx
    · obtain ⟨vs, rfl, hx⟩ := hx
      exact ⟨vs, rfl, all2P_imp hp h hx⟩
    · exact h.elim
  have hrow : ∀ r v R', lget s'.row r = some (v, R') → RowRel w (Bad X0 s'.mem m') w0.heap.size R' (m'.rv r) := by
    intro r v R' h
    rcases rowLe_get hR h with ⟨v0, h3⟩ | ⟨h3, h4⟩
    · rw [hrvS r _ h3]
      rcases C.row r v0 R' h3 with h1 | ⟨g0, o1, c, cur, he, h1, h2, h3, h4, h5, h6⟩
      · exact .inl h1
      · refine .inr ⟨g0, o1, c, cur, he, h1, h2, h3, h4, h5, fun j x hj i hi => ?_⟩
        obtain ⟨u, hu, hru⟩ := h6 j x hj i hi
        exact ⟨u, hu, hru.sub hbad⟩
    · rw [hrvN r h3]; exact .inl ⟨rfl, h4⟩
  have hblk : ∀ r v R' b, lget s'.row r = some (v, R') → (m'.rv r).ownBlock = some b → ∃ v0 R0, lget s.row r = some (v0, R0) ∧ (m.rv r).ownBlock = some b := by
    intro r v R' b h hb
    rcases rowLe_get hR h with ⟨v0, h3⟩ | ⟨h3, h4⟩
    · rw [hrvS r _ h3] at hb; exact ⟨v0, R', h3, hb⟩
    · rw [hrvN r h3] at hb; simp [Value.ownBlock] at hb
  refine ⟨m', ⟨C.below, C.x0, fun l cs hcs => ?_, hrow, fun l l' cs cs' h1 h2 he => ?_, fun l cs r v R' h1 h2 hb => ?_, fun r r' v v' R1 R2 b h1 h2 hb hb' => ?_⟩, all2P_imp hv hF hfr, hd⟩
  · obtain ⟨cs0, h1, h2⟩ := locLe_get hL hcs
    obtain ⟨h3, vs, t, h4, h5⟩ := C.loc l cs0 h1
    rw [hlb]
    exact ⟨h3, vs, t, h4, all2P_imp hc h2 h5⟩
  · obtain ⟨c1, h1, _⟩ := locLe_get hL h1
    obtain ⟨c2, h2, _⟩ := locLe_get hL h2
    rw [hlb] at he
    exact C.sepLL l l' c1 c2 h1 h2 he
  · obtain ⟨c1, h1, _⟩ := locLe_get hL h1
    rw [hlb] at hb
    obtain ⟨v0, R0, h3, h4⟩ := hblk r v R' _ h2 hb
    exact C.sepLR l c1 r v0 R0 h1 h3 h4
  · obtain ⟨va, Ra, h3, h4⟩ := hblk r v R1 b h1 hb
    obtain ⟨vb, Rb, h5, h6⟩ := hblk r' v' R2 b h2 hb'
    exact C.sepRR r r' va vb Ra Rb b h3 h5 h4 h6
end

/-! ### Code -/
inductive AEx
  | normal
  | exit (id : Nat)
  | ret
def AEx.to : AEx → Exit
  | .normal => .normal
  | .exit id => .exit id
  | .ret => .ret

/-- A region that draws its order: what is to be shown of it. -/
def SemDraw (P : Program) (ops : Array Oper) (s : St) (K : St → Prop) : Prop :=
  ∀ (id : Nat) (w0 : World) (X0 : Nat → Prop) (m : Map) (a : Act) (w : World) (Q : Exit → Act → World → Prop), (∀ s m a w, Rel w0 X0 s m a w → K s → Q .normal a w) → Rel w0 X0 s m a w → (Code.region id ops true).wp P Q a w

def awp (P : Program) (T : TypeId → Ty) : Code → (AEx → St → Prop) → St → Prop
  | .skip, K, s => K .normal s
  | .region _ ops draw, K, s => match draw with
    | false => seqops P T ops.toList ops.toList s (K .normal)
    | true => SemDraw P ops s (K .normal)
  | .seq x y, K, s => awp P T x (fun e s' => match e with
      | .normal => awp P T y K s'
      | .exit id => K (.exit id) s'
      | .ret => K .ret s') s
  | .cond c x y, K, s => match opd s.fr c with
    | .p (.one (.c (.bool t))) => acond t (awp P T x K s) (awp P T y K s)
    | _ => False
  | .block id c, K, s => awp P T c (fun e s' => match e with
      | .exit i => match Nat.beq i id with
        | true => K .normal s'
        | false => K (.exit i) s'
      | .normal => K .normal s'
      | .ret => K .ret s') s
  | .loop c, K, s => ∃ (ι : Type) (p : ι → Prop) (I : ι → St) (μ : ι → Nat) (i : ι), p i ∧ Sub s (I i) ∧ ∀ i, p i → awp P T c (fun e s' => match e with
      | .normal => ∃ j, p j ∧ μ j < μ i ∧ Sub s' (I j)
      | .exit id => K (.exit id) s'
      | .ret => K .ret s') (I i)
  | .exit id, K, s => K (.exit id) s
  | .scope c, K, s => awp P T c K s
  | .ret, K, s => K .ret s
  | _, _, _ => False

section
variable {P : Program} {T : TypeId → Ty} {w0 : World} {X0 : Nat → Prop}

theorem wp_loop_idx {c : Code} {Q : Exit → Act → World → Prop} {ι : Type} (I : ι → St) (μ : ι → Nat) (i : ι) {m : Map} {a : Act} {w : World} (h0 : Rel w0 X0 (I i) m a w)
    (hr : ∀ (j : ι) (m : Map) (a : Act) (w : World), Rel w0 X0 (I j) m a w → c.wp P (Exit.then (fun a' w' => ∃ k m', μ k < μ j ∧ Rel w0 X0 (I k) m' a' w') Q) a w) : (Code.loop c).wp P Q a w := by
  intro b k cs
  have key : ∀ n i m a w, μ i = n → Rel w0 X0 (I i) m a w → ∃ e a' w', Q e a' w' ∧ Arrives P (lone (b.at a (.code c :: .inLoop c :: k)) cs w) b k cs e a' w' := by
    intro n
    induction n using Nat.strongRecOn with
    | _ n ih =>
      intro i m a w hn hI
      obtain ⟨e, a₁, w₁, hq, harr⟩ := hr i m a w hI b (.inLoop c :: k) cs
      cases e with
      | normal =>
        obtain ⟨j, m', hlt, hI₁⟩ := hq
        obtain ⟨e₂, a₂, w₂, hq₂, harr₂⟩ := ih (μ j) (hn ▸ hlt) j m' a₁ w₁ rfl hI₁
        exact ⟨e₂, a₂, w₂, hq₂, .of_steps (Steps.trans harr (.one step_inLoop)) harr₂⟩
      | exit id => exact ⟨_, a₁, w₁, hq, .pass (x := .inLoop c) rfl (fun _ _ => .inl (by simp)) harr⟩
      | goto l => exact ⟨_, a₁, w₁, hq, .pass (x := .inLoop c) rfl (fun _ _ => .inl (by simp)) harr⟩
      | ret => exact ⟨_, a₁, w₁, hq, .pass (x := .inLoop c) rfl (fun _ _ => .inl (by simp)) harr⟩
      | panic ch => exact ⟨_, a₁, w₁, hq, .pass (x := .inLoop c) rfl (fun _ _ => .inl (by simp)) harr⟩
      | outgrown => exact ⟨_, a₁, w₁, hq, .pass (x := .inLoop c) rfl (fun _ _ => .inl (by simp)) harr⟩
  obtain ⟨e, a', w', hq, harr⟩ := key _ i m a w rfl h0
  exact ⟨e, a', w', hq, .of_steps (.one step_loop) harr⟩

theorem sound_awp (hT : TyAll P T) : ∀ (c : Code) {K : AEx → St → Prop} {s : St} {m : Map} {a : Act} {w : World} {Q : Exit → Act → World → Prop}, (∀ e s m a w, Rel w0 X0 s m a w → K e s → Q e.to a w) →
    Rel w0 X0 s m a w → awp P T c K s → c.wp P Q a w := by
  intro c
  induction c with
  | skip => intro K s m a w Q hQ R h; exact wp_skip (hQ _ s m a w R h)
  | region id ops draw =>
    intro K s m a w Q hQ R h
    cases draw with
    | false => exact wp_region_list (by simpa using sound_seqops hT (fun s m a w R h => hQ .normal s m a w R h) ops.toList R h)
    | true => exact h id w0 X0 m a w Q (fun s m a w R h => hQ .normal s m a w R h) R
  | seq x y ihx ihy =>
    intro K s m a w Q hQ R h
    refine wp_seq (ihx (fun e s m a w R h => ?_) R h)
    cases e with
    | normal => exact ihy hQ R h
    | exit id => exact hQ _ s m a w R h
    | ret => exact hQ _ s m a w R h
  | cond c x y ihx ihy =>
    intro K s m a w Q hQ R h
    unfold awp at h
    split at h
    case h_2 => exact h.elim
    rename_i t ht
    have hc := opd_rel R.2.1 c
    rw [ht] at hc
    refine wp_cond_split hc (fun e => ?_) (fun e => ?_)
    · subst e; exact ihx hQ R h
    · subst e; exact ihy hQ R h
  | block id c ih =>
    intro K s m a w Q hQ R h
    refine wp_block (ih (fun e s m a w R h => ?_) R h)
    cases e with
    | normal => exact hQ .normal s m a w R h
    | exit i =>
      simp only at h
      show (if i = id then Q .normal a w else Q (.exit i) a w)
      split at h
      · rename_i hb
        rw [if_pos (Nat.eq_of_beq_eq_true hb)]
        exact hQ .normal s m a w R h
      · rename_i hb
        rw [if_neg (fun e => by subst e; simp at hb)]
        exact hQ (.exit i) s m a w R h
    | ret => exact hQ .ret s m a w R h
  | loop c ih =>
    intro K s m a w Q hQ R h
    obtain ⟨ι, p, I, μ, i, hp, hs, hr⟩ := h
    obtain ⟨m', R'⟩ := sub_rel hs R
    -- the round's number is kept in what holds
    refine wp_loop_idx (ι := { i // p i }) (fun i => I i.1) (fun i => μ i.1) ⟨i, hp⟩ R' (fun j m a w R => ?_)
    refine ih (fun e s m a w R h => ?_) R (hr j.1 j.2)
    cases e with
    | normal =>
      obtain ⟨k, hpk, hk, hs⟩ := h
      obtain ⟨m', R'⟩ := sub_rel hs R
      exact ⟨⟨k, hpk⟩, m', hk, R'⟩
    | exit id => exact hQ _ s m a w R h
    | ret => exact hQ _ s m a w R h
  | rangeFunc => intro K s m a w Q hQ R h; exact h.elim
  | exit id => intro K s m a w Q hQ R h; exact wp_exit (hQ _ s m a w R h)
  | scope c ih =>
    intro K s m a w Q hQ R h
    refine wp_scope_straight (ih (fun e s m a w R h => ?_) R h)
    cases e <;> exact hQ _ s m a w R h
  | label => intro K s m a w Q hQ R h; exact h.elim
  | goto => intro K s m a w Q hQ R h; exact h.elim
  | ret => intro K s m a w Q hQ R h; exact wp_ret (hQ _ s m a w R h)
  | refuse => intro K s m a w Q hQ R h; exact h.elim
end
end Go.Fx

namespace Go.Fx
open Go.RowKit
set_option linter.unusedVariables false

def Av.a : Av → AVal
  | .one x => .c x
  | .agg l => .p (.agg (l.map .c))

def undefs : Nat → List AVal
  | 0 => []
  | n + 1 => .tup [] :: undefs n
def frame0 : List Av → Nat → List AVal
  | [], n => undefs n
  | x :: l, n => x.a :: frame0 l (n - 1)

/-! ### What a result is -/
def rpart (T : TypeId → Ty) (s : St) (r : ResultVar) (K : Part → Prop) : Prop :=
  match r with
  | .tmp t => match fget s.fr t with
    | .p x => K x
    | _ => False
  | .cell a t => match T t with
    | .no => False
    | Tt => match fget s.fr a with
      | .p (.one (.lptr l off)) => match lget s.loc l with
        | some cs => match Tt.agg with
          | true => match Nat.ble (off + Tt.size) cs.length with
            | true => forceL ((cs.drop off).take Tt.size) fun k => K (.agg k)
            | false => False
          | false => match nth cs off with
            | some c => K (.one c)
            | none => False
        | none => False
      | _ => False
def rparts (T : TypeId → Ty) (s : St) : List ResultVar → (List Part → Prop) → Prop
  | [], K => K []
  | r :: rs, K => rpart T s r fun x => rparts T s rs fun l => K (x :: l)

def zipC : List RC → List Cell → Option (List (RC × Cell))
  | [], [] => some []
  | x :: l, y :: k => match zipC l k with
    | some z => some ((x, y) :: z)
    | none => none
  | _, _ => none
def zipP : Rp → Part → Option (List (RC × Cell))
  | .one x, .one y => some [(x, y)]
  | .agg l, .agg k => zipC l k
  | _, _ => none
def zipPs : List Rp → List Part → Option (List (RC × Cell))
  | [], [] => some []
  | x :: l, y :: k => match zipP x y with
    | some z => match zipPs l k with
      | some z' => some (z ++ z')
      | none => none
    | none => none
  | _, _ => none
def zipR : Rv → List Part → Option (List (RC × Cell))
  | .p x, [y] => zipP x y
  | .tup l, [] => zipPs l []
  | .tup l, y :: z :: k => zipPs l (y :: z :: k)
  | _, _ => none

def pairJ : List (RC × Cell) → List (Nat × Nat)
  | [] => []
  | (.row j _, .own r _) :: l => (j, r) :: pairJ l
  | _ :: l => pairJ l
def memN (n : Nat) : List Nat → Bool
  | [] => false
  | k :: l => match Nat.beq n k with
    | true => true
    | false => memN n l
def nodupN : List Nat → Bool
  | [] => true
  | k :: l => match memN k l with
    | true => false
    | false => nodupN l

def pairOk (s : St) (J : List (Nat × Nat)) : RC × Cell → Prop
  | (.c x, .c y) => x = y
  | (.c x, .own r v) => match lget s.row r with
    | some (v1, R) => match Nat.beq v v1 with
      | true => match memN r (J.map (·.2)) with
        | true => False
        | false => x = .sl R.α R.k R.cell R.xs
      | false => False
    | none => False
  | (.row j R, .own r v) => match lget s.row r with
    | some (v1, R1) => match Nat.beq v v1 with
      | true => R = R1
      | false => False
    | none => False
  | (.row j R, .c y) => y = .nil ∧ R.xs = [] ∧ memN j (J.map (·.1)) = false
  | _ => False
def pairsOk (s : St) (J : List (Nat × Nat)) : List (RC × Cell) → Prop
  | [] => True
  | p :: l => pairOk s J p ∧ pairsOk s J l

def retOk (s : St) (rv : Rv) (ps : List Part) : Prop :=
  match zipR rv ps with
  | some z => match nodupN ((pairJ z).map (·.1)) && nodupN ((pairJ z).map (·.2)) with
    | true => pairsOk s (pairJ z) z
    | false => False
  | none => False

def aret (T : TypeId → Ty) (rs : List ResultVar) (rv : Rv) (e : AEx) (s : St) : Prop :=
  match e with
  | .exit _ => False
  | _ => rparts T s rs fun ps => retOk s rv ps

section
variable {P : Program} {T : TypeId → Ty} {w0 w w1 : World} {X0 : Nat → Prop} {s s' : St} {m m1 : Map} {a : Act}

theorem memN_iff {n : Nat} : ∀ {l : List Nat}, memN n l = true ↔ n ∈ l
  | [] => by simp [memN]
  | k :: l => by
    unfold memN
    split
    · rename_i h; have := Nat.eq_of_beq_eq_true h; simp [this]
    · rename_i h
      have : n ≠ k := fun e => by subst e; simp at h
      simp [this, memN_iff (l := l)]
theorem nodupN_nodup : ∀ {l : List Nat}, nodupN l = true → l.Nodup
  | [], _ => List.nodup_nil
  | k :: l, h => by
    unfold nodupN at h
    split at h
    · cases h
    · rename_i hm
      refine List.nodup_cons.2 ⟨fun hk => ?_, nodupN_nodup h⟩
      rw [memN_iff.2 hk] at hm; cases hm

theorem undefs_rel {X : Nat → Prop} {F : Mem} : ∀ n, All2 (VRel w X F m) (undefs n) (List.replicate n undef)
  | 0 => trivial
  | n + 1 => ⟨undef_rel X F, undefs_rel n⟩
theorem crel_c {X : Nat → Prop} {F : Mem} : ∀ {l : List CVal} {vs : List Value}, All2 (Rep w X) l vs → All2 (CRel w X F m) (l.map .c) vs
  | [], [], _ => trivial
  | _ :: _, _ :: _, h => ⟨h.1, crel_c h.2⟩
  | [], _ :: _, h => h.elim
  | _ :: _, [], h => h.elim
theorem frame0_rel {X : Nat → Prop} {F : Mem} (m : Map) : ∀ {args : List Av} {vs : List Value} (n : Nat), All2 (ARep w X) args vs → All2 (VRel w X F m) (frame0 args n) (vs ++ List.replicate (n - vs.length) undef)
  | [], [], n, _ => by simpa [frame0] using undefs_rel n
  | x :: args, v :: vs, n, h => by
    refine ⟨?_, ?_⟩
    · cases x with
      | one x => exact h.1
      | agg l => obtain ⟨us, rfl, hh⟩ := h.1; exact ⟨us, rfl, crel_c hh⟩
    · have := frame0_rel (F := F) m (n - 1) h.2
      rw [show n - (v :: vs).length = n - 1 - vs.length by simp; omega]
      exact this
  | [], _ :: _, _, h => h.elim
  | _ :: _, [], _, h => h.elim

def resv (a : Act) : ResultVar → Sem Value
  | .tmp t => pure (a.tmps.getD t undef)
  | .cell b t => do loadVar t (← asAddr (a.tmps.getD b undef))

theorem rpart_rel (hT : TyAll P T) (R : Rel w0 X0 s m a w) {r : ResultVar} {K : Part → Prop} (h : rpart T s r K) :
    ∃ x v, K x ∧ PRel w (Bad X0 s.mem m) s.mem m x v ∧ (resv a r).run P w = .ok v w := by
  obtain ⟨C, hfr, hd⟩ := R
  have hslot : ∀ t, VRel w (Bad X0 s.mem m) s.mem m (fget s.fr t) (a.tmps.getD t undef) := fun t => by
    have := fget_rel t hfr
    simpa [Array.getD_eq_getD_getElem?, List.getD_eq_getElem?_getD] using this
  unfold rpart at h
  split at h
  · rename_i t
    have h1 := hslot t
    split at h
    · rename_i x he
      rw [he] at h1
      exact ⟨x, _, h, h1, rfl⟩
    · exact h.elim
  · rename_i b t
    have h1 := hslot b
    split at h
    · exact h.elim
    rename_i hn
    split at h
    case h_2 => exact h.elim
    rename_i l off he
    rw [he] at h1
    obtain ⟨_, hv⟩ := h1
    split at h
    case h_2 => exact h.elim
    rename_i cs hcs
    obtain ⟨_, vs, tt, hh, hall⟩ := C.loc l cs hcs
    have hcell : ∀ j v, vs[j]? = some v → w.cell? ⟨m.lb l, j, none⟩ = some v := fun j v hj => by rw [cell_of_row w _ j vs tt (0, 0) hh]; exact hj
    have hlen := hall.length
    split at h
    · rename_i hA
      split at h
      case h_2 => exact h.elim
      rename_i hle
      have hle := Nat.le_of_ble_eq_true hle
      rw [forceL_iff] at h
      have hl := run_loadVar_cells (P := P) (w := w) (hT t) hn (m.lb l) off ((vs.toList.drop off).take (T t).size) (by rw [List.length_take, List.length_drop]; omega) (fun j v hj => hcell _ _ (by
        rw [List.getElem?_take] at hj
        split at hj
        · rw [List.getElem?_drop] at hj; simpa using hj
        · cases hj))
      rw [hA] at hl
      exact ⟨_, _, h, ⟨_, rfl, all2_drop_take hall _ _⟩, by rw [resv.eq_2, hv]; simp [asAddr, hl]⟩
    · rename_i hA
      split at h
      case h_2 => exact h.elim
      rename_i c hc
      rw [nth_eq] at hc
      obtain ⟨v, hv1, hcr⟩ := hall.get off hc
      have hl := run_loadVar_cells (P := P) (w := w) (hT t) hn (m.lb l) off [v] (by rw [agg_size_ne hA hn]; rfl) (fun j u hj => hcell _ _ (by
        cases j with
        | zero => simp at hj; subst hj; simpa using hv1
        | succ j => simp at hj))
      rw [hA] at hl
      exact ⟨_, _, h, hcr, by rw [resv.eq_2, hv]; simp [asAddr, hl]⟩

theorem rparts_rel (hT : TyAll P T) (R : Rel w0 X0 s m a w) : ∀ {rs : List ResultVar} {K : List Part → Prop}, rparts T s rs K →
    ∃ ps vs, K ps ∧ All2 (PRel w (Bad X0 s.mem m) s.mem m) ps vs ∧ (rs.mapM (resv a)).run P w = .ok vs w
  | [], K, h => ⟨[], [], h, trivial, rfl⟩
  | r :: rs, K, h => by
    obtain ⟨x, v, h1, h2, h3⟩ := rpart_rel hT R h
    obtain ⟨ps, vs, h4, h5, h6⟩ := rparts_rel hT R h1
    refine ⟨x :: ps, v :: vs, h4, ⟨h2, h5⟩, ?_⟩
    rw [List.mapM_cons]
    simp only [Sem.run_bind, Sem.run_pure]
    rw [h3]
    simp only [Result.andThen_ok]
    rw [h6]
    rfl

def rowsZ : List (RC × Cell) → List (Nat × Row)
  | [] => []
  | (.row j R, _) :: l => (j, R) :: rowsZ l
  | _ :: l => rowsZ l
theorem rowsZ_append : ∀ l k : List (RC × Cell), rowsZ (l ++ k) = rowsZ l ++ rowsZ k
  | [], _ => rfl
  | (.row j R, _) :: l, k => by simp [rowsZ, rowsZ_append l k]
  | (.c x, _) :: l, k => by simp [rowsZ, rowsZ_append l k]
theorem zipC_rows : ∀ {l : List RC} {k : List Cell} {z : List (RC × Cell)}, zipC l k = some z → cat (RC.rows id) l = rowsZ z
  | [], [], z, h => by cases h; rfl
  | x :: l, y :: k, z, h => by
    unfold zipC at h
    split at h
    · rename_i z' hz
      cases h
      have := zipC_rows hz
      cases x with
      | c x => simpa [cat, rowsZ, RC.rows] using this
      | row j R => simpa [cat, rowsZ, RC.rows] using this
    · cases h
  | [], _ :: _, _, h => by simp [zipC] at h
  | _ :: _, [], _, h => by simp [zipC] at h
theorem zipP_rows {x : Rp} {y : Part} {z : List (RC × Cell)} (h : zipP x y = some z) : x.rows id = rowsZ z := by
  unfold zipP at h
  split at h
  · rename_i x y
    cases h
    cases x <;> rfl
  · exact zipC_rows h
  · cases h
theorem zipPs_rows : ∀ {l : List Rp} {k : List Part} {z : List (RC × Cell)}, zipPs l k = some z → cat (Rp.rows id) l = rowsZ z
  | [], [], z, h => by cases h; rfl
  | x :: l, y :: k, z, h => by
    unfold zipPs at h
    split at h
    · rename_i z1 hz1
      split at h
      · rename_i z2 hz2
        cases h
        rw [rowsZ_append, ← zipP_rows hz1, ← zipPs_rows hz2]
        rfl
      · cases h
    · cases h
  | [], _ :: _, _, h => by simp [zipPs] at h
  | _ :: _, [], _, h => by simp [zipPs] at h
theorem zipR_rows {rv : Rv} {ps : List Part} {z : List (RC × Cell)} (h : zipR rv ps = some z) : rv.rows id = rowsZ z := by
  unfold zipR at h
  split at h
  · exact zipP_rows h
  · exact zipPs_rows h
  · exact zipPs_rows h
  · cases h
theorem rowsZ_mem : ∀ {z : List (RC × Cell)} {j : Nat} {R : Row}, (j, R) ∈ rowsZ z → ∃ c, (RC.row j R, c) ∈ z
  | [], j, R, h => by simp [rowsZ] at h
  | (.c x, y) :: l, j, R, h => by
    obtain ⟨c, hc⟩ := rowsZ_mem (z := l) (by simpa [rowsZ] using h)
    exact ⟨c, List.mem_cons_of_mem _ hc⟩
  | (.row j' R', y) :: l, j, R, h => by
    rcases List.mem_cons.1 (by simpa only [rowsZ] using h : (j, R) ∈ (j', R') :: rowsZ l) with e | h
    · cases e; exact ⟨y, List.mem_cons_self⟩
    · obtain ⟨c, hc⟩ := rowsZ_mem h
      exact ⟨c, List.mem_cons_of_mem _ hc⟩
theorem mem_rowsZ : ∀ {z : List (RC × Cell)} {j : Nat} {R : Row} {c : Cell}, (RC.row j R, c) ∈ z → ∃ R', lget (rowsZ z) j = some R'
  | [], j, R, c, h => by simp at h
  | (.c x, y) :: l, j, R, c, h => by
    rcases List.mem_cons.1 h with e | h
    · cases e
    · exact mem_rowsZ (z := l) h
  | (.row j' R', y) :: l, j, R, c, h => by
    rw [rowsZ, lget_cons]
    by_cases e : j' = j
    · rw [if_pos e]; exact ⟨_, rfl⟩
    · rw [if_neg e]
      rcases List.mem_cons.1 h with e' | h
      · cases e'; exact absurd rfl e
      · exact mem_rowsZ h
theorem pairJ_mem : ∀ {z : List (RC × Cell)} {j r v : Nat} {R : Row}, (RC.row j R, Cell.own r v) ∈ z → (j, r) ∈ pairJ z
  | [], _, _, _, _, h => by simp at h
  | p :: l, j, r, v, R, h => by
    rcases List.mem_cons.1 h with e | h
    · subst e; exact List.mem_cons_self
    · have ih := pairJ_mem h
      rw [pairJ.eq_def]
      split
      · rename_i e; cases e
      · rename_i e; cases e; exact List.mem_cons_of_mem _ ih
      · rename_i e; cases e; exact ih
theorem pairJ_inv : ∀ {z : List (RC × Cell)} {j r : Nat}, (j, r) ∈ pairJ z → ∃ R v, (RC.row j R, Cell.own r v) ∈ z
  | [], _, _, h => by simp [pairJ] at h
  | p :: l, j, r, h => by
    unfold pairJ at h
    split at h
    · rename_i e; cases e
    · rename_i e
      cases e
      rcases List.mem_cons.1 h with e | h
      · cases e; exact ⟨_, _, List.mem_cons_self⟩
      · obtain ⟨R, v, hh⟩ := pairJ_inv h; exact ⟨R, v, List.mem_cons_of_mem _ hh⟩
    · rename_i e
      cases e
      obtain ⟨R, v, hh⟩ := pairJ_inv h; exact ⟨R, v, List.mem_cons_of_mem _ hh⟩
theorem lget_of_nodup : ∀ {J : List (Nat × Nat)} {j r : Nat}, (J.map (·.1)).Nodup → (j, r) ∈ J → lget J j = some r
  | [], _, _, _, h => by simp at h
  | (j', r') :: J, j, r, hn, h => by
    rw [lget_cons]
    have hn := List.nodup_cons.1 (by simpa using hn : (j' :: J.map (·.1)).Nodup)
    rcases List.mem_cons.1 h with e | h
    · cases e; rw [if_pos rfl]
    · rw [if_neg (fun e => hn.1 (by subst e; exact List.mem_map.2 ⟨_, h, rfl⟩))]
      exact lget_of_nodup hn.2 h
theorem nodup_snd : ∀ {J : List (Nat × Nat)} {j j' r : Nat}, (J.map (·.2)).Nodup → (j, r) ∈ J → (j', r) ∈ J → j = j'
  | [], _, _, _, _, h, _ => by simp at h
  | (a, b) :: J, j, j', r, hn, h, h' => by
    have hn := List.nodup_cons.1 (by simpa using hn : (b :: J.map (·.2)).Nodup)
    rcases List.mem_cons.1 h with e | h
    · cases e
      rcases List.mem_cons.1 h' with e | h'
      · cases e; rfl
      · exact absurd (List.mem_map.2 ⟨_, h', rfl⟩) hn.1
    · rcases List.mem_cons.1 h' with e | h'
      · cases e; exact absurd (List.mem_map.2 ⟨_, h, rfl⟩) hn.1
      · exact nodup_snd hn.2 h h'
theorem pairsOk_mem {J : List (Nat × Nat)} : ∀ {z : List (RC × Cell)} {p : RC × Cell}, pairsOk s J z → p ∈ z → pairOk s J p
  | [], _, _, h => by simp at h
  | q :: l, p, hz, h => by
    rcases List.mem_cons.1 h with e | h
    · subst e; exact hz.1
    · exact pairsOk_mem hz.2 h

theorem zipC_rel {S : RC → Cell → Prop} {F F' : Mem} {X X' : Nat → Prop} {m' : Map} (hS : ∀ x y v, S x y → CRel w X F m y v → CRel w X' F' m' (x.a id) v) : ∀ {l : List RC} {k : List Cell} {z : List (RC × Cell)} {vs : List Value}, zipC l k = some z →
    (∀ p ∈ z, S p.1 p.2) → All2 (CRel w X F m) k vs → All2 (CRel w X' F' m') (l.map (RC.a id)) vs
  | [], [], z, [], h, _, _ => trivial
  | [], [], z, _ :: _, h, _, hh => hh.elim
  | x :: l, y :: k, z, vs, h, hz, hh => by
    unfold zipC at h
    split at h
    · rename_i z' hz'
      cases h
      cases vs with
      | nil => exact hh.elim
      | cons v vs => exact ⟨hS x y v (hz _ List.mem_cons_self) hh.1, zipC_rel hS hz' (fun p hp => hz p (List.mem_cons_of_mem _ hp)) hh.2⟩
    · cases h
  | [], _ :: _, _, _, h, _, _ => by simp [zipC] at h
  | _ :: _, [], _, _, h, _, _ => by simp [zipC] at h
theorem zipP_rel {S : RC → Cell → Prop} {F F' : Mem} {X X' : Nat → Prop} {m' : Map} (hS : ∀ x y v, S x y → CRel w X F m y v → CRel w X' F' m' (x.a id) v) {x : Rp} {y : Part} {z : List (RC × Cell)} {v : Value} (h : zipP x y = some z)
    (hz : ∀ p ∈ z, S p.1 p.2) (hh : PRel w X F m y v) : PRel w X' F' m' (x.a id) v := by
  unfold zipP at h
  split at h
  · cases h; exact hS _ _ v (hz _ List.mem_cons_self) hh
  · obtain ⟨vs, rfl, hh⟩ := hh
    exact ⟨vs, rfl, zipC_rel hS h hz hh⟩
  · cases h
theorem zipPs_rel {S : RC → Cell → Prop} {F F' : Mem} {X X' : Nat → Prop} {m' : Map} (hS : ∀ x y v, S x y → CRel w X F m y v → CRel w X' F' m' (x.a id) v) : ∀ {l : List Rp} {k : List Part} {z : List (RC × Cell)} {vs : List Value}, zipPs l k = some z →
    (∀ p ∈ z, S p.1 p.2) → All2 (PRel w X F m) k vs → All2 (PRel w X' F' m') (l.map (Rp.a id)) vs
  | [], [], z, [], h, _, _ => trivial
  | [], [], z, _ :: _, h, _, hh => hh.elim
  | x :: l, y :: k, z, vs, h, hz, hh => by
    unfold zipPs at h
    split at h
    · rename_i z1 hz1
      split at h
      · rename_i z2 hz2
        cases h
        cases vs with
        | nil => exact hh.elim
        | cons v vs => exact ⟨zipP_rel hS hz1 (fun p hp => hz p (List.mem_append_left _ hp)) hh.1, zipPs_rel hS hz2 (fun p hp => hz p (List.mem_append_right _ hp)) hh.2⟩
      · cases h
    · cases h
  | [], _ :: _, _, _, h, _, _ => by simp [zipPs] at h
  | _ :: _, [], _, _, h, _, _ => by simp [zipPs] at h

theorem retOk_rel (C : Core w0 X0 s.mem m w) {rv : Rv} {ps : List Part} {vs : List Value} (h : retOk s rv ps) (hall : All2 (PRel w (Bad X0 s.mem m) s.mem m) ps vs) :
    RvRep w0.heap.size w X0 rv (if h : vs.toArray.size = 1 then vs.toArray[0] else .tuple vs.toArray) := by
  unfold retOk at h
  split at h
  case h_2 => exact h.elim
  rename_i z hz
  split at h
  case h_2 => exact h.elim
  rename_i hnd
  rw [Bool.and_eq_true] at hnd
  have hn1 := nodupN_nodup hnd.1
  have hn2 := nodupN_nodup hnd.2
  have hrows := zipR_rows hz
  obtain ⟨vo, hvo⟩ : ∃ vo : Nat → Value, vo = fun j => match lget (pairJ z) j with | some r => m.rv r | none => .slice none 0 0 := ⟨_, rfl⟩
  have hvoS : ∀ j r, (j, r) ∈ pairJ z → vo j = m.rv r := fun j r hj => by rw [hvo]; simp only [lget_of_nodup hn1 hj]
  -- what a new row is
  have hnew : ∀ j R, lget (rowsZ z) j = some R → (∃ r v, (j, r) ∈ pairJ z ∧ lget s.row r = some (v, R)) ∨ (vo j = .slice none 0 0 ∧ R.xs = []) := by
    intro j R hj
    obtain ⟨c, hc⟩ := rowsZ_mem (lget_mem hj)
    have hp := pairsOk_mem h hc
    unfold pairOk at hp
    split at hp
    · rename_i e; cases e
    · rename_i e; cases e
    · rename_i e
      cases e
      rename_i r v
      split at hp
      case h_2 => exact hp.elim
      rename_i v1 R1 hr
      split at hp
      case h_2 => exact hp.elim
      subst hp
      exact .inl ⟨r, v1, pairJ_mem hc, hr⟩
    · rename_i e
      cases e
      obtain ⟨_, h1, h2⟩ := hp
      right
      refine ⟨?_, h1⟩
      rw [hvo]
      cases hl : lget (pairJ z) j with
      | none => simp only [hl]
      | some r =>
        have : j ∈ (pairJ z).map (·.1) := List.mem_map.2 ⟨_, lget_mem hl, rfl⟩
        rw [memN_iff.2 this] at h2
        cases h2
    · exact hp.elim
  have hblk : ∀ j R b, lget (rowsZ z) j = some R → (vo j).ownBlock = some b → ∃ r v, (j, r) ∈ pairJ z ∧ lget s.row r = some (v, R) ∧ (m.rv r).ownBlock = some b := by
    intro j R b hj hb
    rcases hnew j R hj with ⟨r, v, h1, h2⟩ | ⟨h1, _⟩
    · exact ⟨r, v, h1, h2, by rw [← hvoS j r h1]; exact hb⟩
    · rw [h1] at hb; simp [Value.ownBlock] at hb
  have hRX : ∀ b, RX X0 (rowsZ z) vo b → Bad X0 s.mem m b := by
    rintro b (hb | ⟨j, R, hj, hb⟩)
    · exact .inl hb
    · obtain ⟨r, v, _, h2, h3⟩ := hblk j R b hj hb
      exact .inr (.inr ⟨r, v, R, h2, h3⟩)
  refine ⟨vo, ?_, ?_, ?_⟩
  · rw [hrows]
    intro j R hj
    rcases hnew j R hj with ⟨r, v, h1, h2⟩ | ⟨h1, h2⟩
    · rw [hvoS j r h1]
      rcases C.row r v R h2 with h1 | ⟨g0, o1, c, cur, he, h1, h2, h3, h4, h5, h6⟩
      · exact .inl h1
      · refine .inr ⟨g0, o1, c, cur, he, h1, h2, h3, h4, h5, fun j x hj i hi => ?_⟩
        obtain ⟨u, hu, hru⟩ := h6 j x hj i hi
        exact ⟨u, hu, hru.sub hRX⟩
    · exact .inl ⟨h1, h2⟩
  · rw [hrows]
    intro j j' R R' b h1 h2 hb hb'
    obtain ⟨r, v, p1, p2, p3⟩ := hblk j R b h1 hb
    obtain ⟨r', v', q1, q2, q3⟩ := hblk j' R' b h2 hb'
    have e := C.sepRR r r' v v' R R' b p2 q2 p3 q3
    subst e
    exact nodup_snd hn2 p1 q1
  · rw [hrows]
    have hS : ∀ (x : RC) (y : Cell) (v : Value), (x, y) ∈ z → CRel w (Bad X0 s.mem m) s.mem m y v → CRel w (RX X0 (rowsZ z) vo) ⟨fun _ => none, fun r => (lget (rowsZ z) r).map fun R => (0, R)⟩ ⟨fun _ => 0, vo⟩ (x.a id) v := by
      intro x y v hm hy
      have hp := pairsOk_mem h hm
      unfold pairOk at hp
      split at hp
      · rename_i e; cases e; subst hp; exact Rep.sub hRX hy
      · rename_i e
        cases e
        rename_i x r v0
        split at hp
        case h_2 => exact hp.elim
        rename_i v1 R1 hr
        split at hp
        case h_2 => exact hp.elim
        rename_i hb
        split at hp
        · exact hp.elim
        rename_i hnm
        subst hp
        obtain ⟨va, Ra, h1, h2, h3⟩ := hy
        have h1 : lget s.row r = some (va, Ra) := h1
        rw [hr] at h1
        cases h1
        rw [h3 (Nat.eq_of_beq_eq_true hb)]
        refine row_rep (C.row r v1 R1 hr) _ fun b hb => ⟨hRX b hb, fun e => ?_⟩
        rcases hb with hb | ⟨j, R, hj, hb⟩
        · have h4 := C.x0 b hb
          have h5 := (C.own_ge (.inr ⟨r, v1, R1, hr, e⟩)).1
          omega
        · obtain ⟨r', v', q1, q2, q3⟩ := hblk j R b hj hb
          have e' := C.sepRR r r' v1 v' R1 R b hr q2 e q3
          subst e'
          have : memN r ((pairJ z).map (·.2)) = true := memN_iff.2 (List.mem_map.2 ⟨_, q1, rfl⟩)
          rw [this] at hnm
          cases hnm
      · rename_i e
        cases e
        rename_i j R r v0
        split at hp
        case h_2 => exact hp.elim
        rename_i v1 R1 hr
        split at hp
        case h_2 => exact hp.elim
        rename_i hb
        obtain ⟨R', hR'⟩ := mem_rowsZ hm
        obtain ⟨va, Ra, h1, h2, h3⟩ := hy
        have h1 : lget s.row r = some (va, Ra) := h1
        rw [hr] at h1
        cases h1
        refine ⟨0, R', ?_, Nat.le_refl _, fun _ => ?_⟩
        · show (lget (rowsZ z) j).map _ = _
          rw [hR']; rfl
        · rw [h3 (Nat.eq_of_beq_eq_true hb)]
          exact (hvoS j r (pairJ_mem hm)).symm
      · rename_i e
        cases e
        obtain ⟨h0, h1, h2⟩ := hp
        subst h0
        rename_i j R
        have hy : v = .slice none 0 0 := hy
        obtain ⟨R', hR'⟩ := mem_rowsZ hm
        refine ⟨0, R', ?_, Nat.le_refl _, fun _ => ?_⟩
        · show (lget (rowsZ z) j).map _ = _
          rw [hR']; rfl
        · rw [hy]
          show _ = vo j
          rw [hvo]
          cases hl : lget (pairJ z) j with
          | none => simp only [hl]
          | some r =>
            have : j ∈ (pairJ z).map (·.1) := List.mem_map.2 ⟨_, lget_mem hl, rfl⟩
            rw [memN_iff.2 this] at h2
            cases h2
      · exact hp.elim
    unfold zipR at hz
    split at hz
    · rename_i x y
      cases vs with
      | nil => exact hall.elim
      | cons v vs =>
        cases vs with
        | cons => exact hall.2.elim
        | nil => exact zipP_rel (S := fun x y => (x, y) ∈ z) (fun x y v hm hy => hS x y v hm hy) hz (fun p hp => hp) hall.1
    · rename_i l
      have hl := hall.length
      have e : vs = [] := List.eq_nil_of_length_eq_zero hl.symm
      subst e
      exact ⟨[], by simp, zipPs_rel (S := fun x y => (x, y) ∈ z) (fun x y v hm hy => hS x y v hm hy) hz (fun p hp => hp) hall⟩
    · rename_i l y1 y2 k
      have hl := hall.length
      refine ⟨vs, ?_, zipPs_rel (S := fun x y => (x, y) ∈ z) (fun x y v hm hy => hS x y v hm hy) hz (fun p hp => hp) hall⟩
      rw [dif_neg (by simp at hl ⊢; omega)]
    · cases hz

/-- THE CONTRACT from the walk. -/
theorem ct_of_awp (hT : TyAll P T) {g : FuncId} {fn : Func} {c : Code} (hE : Enters P g) (hf : P.funcs[g]? = some fn) (hb : fn.body = some c) {args : List Av} {rv : Rv}
    (h : awp P T c (aret T fn.results.toList rv) ⟨frame0 args fn.ntmps, [], []⟩) : Ct P g args rv := by
  refine ⟨hE, fun w X vs hX hall => calls_of_wp hf hb ?_⟩
  have C : Core w X (St.mem ⟨frame0 args fn.ntmps, [], []⟩) ⟨fun _ => 0, fun _ => undef⟩ w := by
    refine ⟨Below.refl _ _, hX, fun l cs h => ?_, fun r v R h => ?_, fun l l' cs cs' h => ?_, fun l cs r v R h => ?_, fun r r' v v' R R' b h => ?_⟩ <;> simp [St.mem, lget] at h
  have hbad : ∀ b, Bad X (St.mem ⟨frame0 args fn.ntmps, [], []⟩) ⟨fun _ => 0, fun _ => undef⟩ b → X b := by
    rintro b (hb | ⟨l, cs, h, _⟩ | ⟨r, v, R, h, _⟩)
    · exact hb
    · simp [St.mem, lget] at h
    · simp [St.mem, lget] at h
  have harg : ∀ (x : Av) (v : Value), ARep w X x v → ARep w (Bad X (St.mem ⟨frame0 args fn.ntmps, [], []⟩) ⟨fun _ => 0, fun _ => undef⟩) x v := by
    intro x v hx
    cases x with
    | one x => exact Rep.sub hbad hx
    | agg l => obtain ⟨us, rfl, hh⟩ := hx; exact ⟨us, rfl, hh.imp fun _ _ h => Rep.sub hbad h⟩
  refine sound_awp (w0 := w) (X0 := X) (m := ⟨fun _ => 0, fun _ => undef⟩) hT c (fun e s m a w' R hr => ?_) ⟨C, ?_, rfl⟩ h
  · have key : rparts T s fn.results.toList (fun ps => retOk s rv ps) → a.defers = [] ∧ ∃ v, (results fn a.tmps).run P w' = .ok v w' ∧ (Below w.heap.size w w' ∧ ∃ v', Ending.returned v = .returned v' ∧ RvRep w.heap.size w' X rv v') := by
      intro hr
      obtain ⟨ps, us, h1, h2, h3⟩ := rparts_rel hT R hr
      refine ⟨R.2.2, _, ?_, R.1.below, _, rfl, retOk_rel R.1 h1 h2⟩
      have e : results fn a.tmps = (do
          let vs ← fn.results.mapM (resv a)
          pure (if h : vs.size = 1 then vs[0] else .tuple vs)) := by
        unfold results
        congr 1
      rw [e, Array.mapM_eq_mapM_toList]
      simp only [Sem.run_bind, map_eq_pure_bind]
      rw [h3]
      rfl
    cases e with
    | exit id => exact hr.elim
    | normal => exact key hr
    | ret => exact key hr
  · have := frame0_rel (F := St.mem ⟨frame0 args fn.ntmps, [], []⟩) ⟨fun _ => 0, fun _ => undef⟩ fn.ntmps (hall.imp harg)
    simpa using this

theorem enters_of {g : FuncId} {fn : Func} (hf : P.funcs[g]? = some fn) (hname : (fn.name == "runtime.NumGoroutine") = false) (hb : fn.body.isNone = false) : Enters P g := by
  intro args w
  have h1 : fn.name ≠ "runtime.NumGoroutine" := by simpa using hname
  have h2 : fn.body ≠ none := by intro e; rw [e] at hb; cases hb
  simp [callFunc, hf, h1, h2]

/-- THE CONTRACT of a function of the program: a walk over its body. -/
theorem ct_of (hT : TyAll P T) {g : FuncId} {fn : Func} {c : Code} (hf : P.funcs[g]? = some fn) (hname : (fn.name == "runtime.NumGoroutine") = false) (hb : fn.body = some c) {args : List Av} {rv : Rv}
    (h : awp P T c (aret T fn.results.toList rv) ⟨frame0 args fn.ntmps, [], []⟩) : Ct P g args rv :=
  ct_of_awp hT (enters_of hf hname (by rw [hb]; rfl)) hf hb h
end
end Go.Fx
