/- The engine, part 15: a quiet operation under more lookups, its answer pinned down. The engine, part 16: regions that draw their order. The engine, part 17: regions that draw their order are sound. The engine, part 18: calls that write into a row of one's own. -/
import Derived.Test.YtoajmkplaognnaaK2
import Derived.StillTail
set_option linter.unusedVariables false
set_option linter.unusedSimpArgs false
set_option linter.unusedSectionVars false
namespace Go.Fx
open Go.RowKit
set_option linter.unusedVariables false
set_option linter.unusedSimpArgs false

def qlenD (T : Ty) (rk : LookR) (x : AVal) (Φ : AVal → NObj → Prop) : Prop :=
  match T with
  | .sl .. => match x with
    | .p (.one (.c (.sl _ _ _ xs))) => Φ (.c (i64 xs.length)) .no
    | .p (.one (.c .nil)) => Φ (.c (i64 0)) .no
    | .p (.one (.own r ver)) => match rk r with
      | some (ver', R) => match Nat.beq ver ver' with
        | true => Φ (.c (i64 R.xs.length)) .no
        | false => False
      | none => False
    | _ => False
  | .str => match x with
    | .p (.one (.c (.str s))) => Φ (.c (i64 s.size)) .no
    | _ => False
  | _ => False

def qnilD (op : BinOp) (n : Nat) (Φ : AVal → NObj → Prop) : Prop :=
  n ≠ 0 ∧ match op with
  | .eql => Φ (.c (.bool false)) .no
  | .neq => Φ (.c (.bool true)) .no
  | _ => False
def qbinE (op : BinOp) (T : Ty) (rk : LookR) (x y : AVal) (Φ : AVal → NObj → Prop) : Prop :=
  match y with
  | .p (.one (.c .nil)) => match nlen rk x with
    | some n => match T with
      | .sl .. => qnilD op n Φ
      | _ => False
    | none => False
  | _ => qbin op T x y Φ
def qbinD (P : Program) (op : BinOp) (t : TypeId) (T : Ty) (rk : LookR) (x y : AVal) (Φ : AVal → NObj → Prop) : Prop :=
  match x with
  | .p (.agg l) => match y with
    | .p (.agg l') => qeqa P op t l l' Φ
    | _ => False
  | _ => qbinE op T rk x y Φ

def dop (P : Program) (T : TypeId → Ty) (lk : Look) (rk : LookR) (ρ : Operand → AVal) (d : Nat) (o : Op) (Φ : AVal → NObj → Prop) : Prop :=
  match o with
  | .call ⟨.builtin .len, args, ts⟩ => match args.toList with
    | [x] => match ts.toList with
      | [t] => qlenD (T t) rk (ρ x) Φ
      | _ => False
    | _ => False
  | .binOp op t x y _ => qbinD P op t (T t) rk (ρ x) (ρ y) Φ
  | o => qop P T lk rk ρ d o Φ

section
variable {P : Program} {T : TypeId → Ty} {lk lk' : Look} {rk rk' : LookR} {Φ : AVal → NObj → Prop}

theorem qlenD_q {T : Ty} {x : AVal} (h : qlenD T rk x Φ) : qlen T rk x Φ := by
  unfold qlenD at h
  unfold qlen
  split at h
  · split at h
    · exact fun _ => h
    · exact h
    · split at h
      · split at h
        · rename_i h1 _ h2
          simp only [h1, h2]
          exact fun _ => h
        · exact h.elim
      · exact h.elim
    · exact h.elim
  · split at h
    · exact h
    · exact h.elim
  · exact h.elim

theorem qnilD_q {op : BinOp} {n : Nat} (h : qnilD op n Φ) : qnil op n Φ := by
  obtain ⟨h0, h⟩ := h
  cases op with
  | eql => exact fun t ht => by rw [ht h0]; exact h
  | neq => exact fun t ht => by rw [ht h0]; exact h
  | _ => exact h.elim
theorem qbinE_q {op : BinOp} {T : Ty} {x y : AVal} (h : qbinE op T rk x y Φ) : qbinY op T rk x y Φ := by
  unfold qbinE at h
  unfold qbinY
  split at h
  · split at h
    case h_2 => exact h.elim
    rename_i hn
    simp only [hn]
    split at h
    case h_2 => exact h.elim
    exact qnilD_q h
  · rename_i hy
    split
    · exact absurd rfl hy
    · exact h
theorem qbinD_q {op : BinOp} {t : TypeId} {T : Ty} {x y : AVal} (h : qbinD P op t T rk x y Φ) : qbinX P op t T rk x y Φ := by
  cases x with
  | p x => cases x with
    | agg l => exact h
    | one c => exact qbinE_q h
  | tup l =>
    have h : qbinE op T rk (.tup l) y Φ := h
    exact (qbinE_q h : qbinY op T rk (.tup l) y Φ)

theorem dop_q {ρ : Operand → AVal} {d : Nat} {o : Op} (h : dop P T lk rk ρ d o Φ) : qop P T lk rk ρ d o Φ := by
  unfold dop at h
  split at h
  · rename_i args ts
    split at h
    case h_2 => exact h.elim
    rename_i x hx
    split at h
    case h_2 => exact h.elim
    rename_i t ht
    simp only [qop, hx, ht]
    exact qlenD_q h
  · simp only [qop]
    exact qbinD_q h
  · exact h

/-- One answer, under more lookups. -/
def Pin (A B : (AVal → NObj → Prop) → Prop) : Prop := ∀ Φ, A Φ → ∃ x n, Φ x n ∧ B (fun x' n' => x' = x ∧ n' = n)

theorem pin_load {T : Ty} {x : AVal} (hl : ∀ l cs, lk l = some cs → lk' l = some cs) (hr : ∀ r p, rk r = some p → rk' r = some p) : Pin (qload T lk rk x) (qload T lk' rk' x) := by
  intro Φ h
  unfold qload at h ⊢
  split at h
  · split at h
    case h_2 => exact h.elim
    rename_i cs hcs
    simp only [hl _ _ hcs]
    split at h
    · rename_i hA
      split at h
      case h_2 => exact h.elim
      rename_i hle
      exact ⟨_, _, h, by simp only [hA, hle]; exact ⟨by trivial, by trivial⟩⟩
    · rename_i hA
      split at h
      case h_2 => exact h.elim
      rename_i c hc
      exact ⟨_, _, h, by simp only [hA, hc]; exact ⟨by trivial, by trivial⟩⟩
  · split at h
    · rename_i hA
      split at h
      case h_2 => exact h.elim
      rename_i hle
      exact ⟨_, _, h, by simp only [hA, hle]; exact ⟨by trivial, by trivial⟩⟩
    · rename_i hA
      split at h
      case h_2 => exact h.elim
      rename_i hle
      exact ⟨_, _, h, by simp only [hA, hle]; exact ⟨by trivial, by trivial⟩⟩
  · split at h
    case h_2 => exact h.elim
    rename_i v' R hR
    simp only [hr _ _ hR]
    split at h
    case h_2 => exact h.elim
    rename_i hb
    obtain ⟨y, hy, h⟩ := h
    split at h
    · rename_i hA
      split at h
      case h_2 => exact h.elim
      rename_i hle
      exact ⟨_, _, h, by simp only [hb]; exact ⟨y, hy, by simp only [hA, hle]; exact ⟨by trivial, by trivial⟩⟩⟩
    · rename_i hA
      split at h
      case h_2 => exact h.elim
      rename_i hle
      exact ⟨_, _, h, by simp only [hb]; exact ⟨y, hy, by simp only [hA, hle]; exact ⟨by trivial, by trivial⟩⟩⟩
  · exact h.elim

theorem pshift_mono (hr : ∀ r p, rk r = some p → rk' r = some p) {o : Nat} {x y : Cell} (h : pshift rk o x = some y) : pshift rk' o x = some y := by
  unfold pshift at h ⊢
  split at h
  · exact h
  · split at h
    case h_2 => cases h
    rename_i hR
    simp only [hr _ _ hR]
    exact h
  · exact h
  · cases h

theorem pin_idx {T : Ty} {x i : AVal} (hr : ∀ r p, rk r = some p → rk' r = some p) : Pin (qidx T rk x i) (qidx T rk' x i) := by
  intro Φ h
  unfold qidx at h ⊢
  split at h
  · split at h
    · split at h
      case h_2 => exact h.elim
      split at h
      case h_2 => exact h.elim
      rename_i hb
      obtain ⟨y, h0, hy, h⟩ := h
      exact ⟨_, _, h, by simp only [hb]; exact ⟨y, h0, hy, by trivial, by trivial⟩⟩
    · split at h
      case h_2 => exact h.elim
      split at h
      case h_2 => exact h.elim
      rename_i hR
      simp only [hr _ _ hR]
      split at h
      case h_2 => exact h.elim
      rename_i hb
      split at h
      case h_2 => exact h.elim
      rename_i hb2
      obtain ⟨h0, hy, h⟩ := h
      exact ⟨_, _, h, by simp only [hb, hb2]; exact ⟨h0, hy, by trivial, by trivial⟩⟩
    · exact h.elim
  · split at h
    case h_2 => exact h.elim
    split at h
    case h_2 => exact h.elim
    obtain ⟨h0, h1, h⟩ := h
    split at h
    case h_2 => exact h.elim
    rename_i hp
    exact ⟨_, _, h, h0, h1, by rw [pshift_mono hr hp]; exact ⟨by trivial, by trivial⟩⟩
  · exact h.elim

theorem pin_field {T : Ty} {x : AVal} {f : Nat} (hr : ∀ r p, rk r = some p → rk' r = some p) : Pin (qfield T rk x f) (qfield T rk' x f) := by
  intro Φ h
  unfold qfield at h ⊢
  split at h
  case h_2 => exact h.elim
  split at h
  case h_2 => exact h.elim
  split at h
  case h_2 => exact h.elim
  rename_i hf
  split at h
  case h_2 => exact h.elim
  rename_i hp
  exact ⟨_, _, h, by simp only [hf, pshift_mono hr hp]; exact ⟨by trivial, by trivial⟩⟩

theorem pin_part {T : Ty} {l : List Cell} {off : Nat} : Pin (qpart T l off) (qpart T l off) := by
  intro Φ h
  unfold qpart at h ⊢
  split at h
  · rename_i hA; exact ⟨_, _, h, by simp only [hA]; exact ⟨by trivial, by trivial⟩⟩
  · rename_i hA
    split at h
    case h_2 => exact h.elim
    rename_i hc
    exact ⟨_, _, h, by simp only [hA, hc]; exact ⟨by trivial, by trivial⟩⟩

theorem pin_fieldv {t : TypeId} {x : AVal} {f : Nat} : Pin (qfieldv T t x f) (qfieldv T t x f) := by
  intro Φ h
  unfold qfieldv at h ⊢
  split at h
  case h_2 => exact h.elim
  split at h
  case h_2 => exact h.elim
  split at h
  case h_2 => exact h.elim
  rename_i hf
  split at h
  · exact h.elim
  · rename_i u hu
    obtain ⟨x, n, h1, h2⟩ := pin_part Φ h
    refine ⟨x, n, h1, ?_⟩
    first
      | exact h2
      | (simp only [hf]; exact h2)

theorem pin_indexv {t : TypeId} {x i : AVal} : Pin (qindexv T t x i) (qindexv T t x i) := by
  intro Φ h
  unfold qindexv at h ⊢
  split at h
  case h_2 => exact h.elim
  split at h
  case h_2 => exact h.elim
  split at h
  case h_2 => exact h.elim
  obtain ⟨h0, h1, h⟩ := h
  split at h
  · exact h.elim
  · rename_i u hu
    obtain ⟨x, n, h3, h2⟩ := pin_part Φ h
    exact ⟨x, n, h3, h0, h1, h2⟩

theorem pin_bin {op : BinOp} {T : Ty} {x y : AVal} : Pin (qbin op T x y) (qbin op T x y) := by
  intro Φ h
  unfold qbin at h ⊢
  split at h
  · split at h
    case h_2 => exact h.elim
    split at h
    · exact ⟨_, _, h.2, h.1, rfl, rfl⟩
    · exact ⟨_, _, h.2, h.1, rfl, rfl⟩
    · rename_i n1 n2
      split at h
      · exact h.elim
      rename_i hk
      split at h
      · obtain ⟨z, hz, h⟩ := h; exact ⟨_, _, h, by simp only [hk]; exact ⟨z, hz, by trivial, by trivial⟩⟩
      · obtain ⟨z, hz, h⟩ := h; exact ⟨_, _, h, by simp only [hk]; exact ⟨z, hz, by trivial, by trivial⟩⟩
      · obtain ⟨z, hz, h⟩ := h; exact ⟨_, _, h, by simp only [hk]; exact ⟨z, hz, by trivial, by trivial⟩⟩
      · obtain ⟨h0, z, hz, h⟩ := h; exact ⟨_, _, h, by simp only [hk]; exact ⟨h0, z, hz, by trivial, by trivial⟩⟩
      · obtain ⟨h0, z, hz, h⟩ := h; exact ⟨_, _, h, by simp only [hk]; exact ⟨h0, z, hz, by trivial, by trivial⟩⟩
      · exact ⟨_, _, h, by simp only [hk]; exact ⟨by trivial, by trivial⟩⟩
      · exact ⟨_, _, h, by simp only [hk]; exact ⟨by trivial, by trivial⟩⟩
      · exact ⟨_, _, h, by simp only [hk]; exact ⟨by trivial, by trivial⟩⟩
      · exact ⟨_, _, h, by simp only [hk]; exact ⟨by trivial, by trivial⟩⟩
      · exact ⟨_, _, h, by simp only [hk]; exact ⟨by trivial, by trivial⟩⟩
      · exact ⟨_, _, h, by simp only [hk]; exact ⟨by trivial, by trivial⟩⟩
      · exact ⟨_, _, h, by simp only [hk]; exact ⟨by trivial, by trivial⟩⟩
      · exact ⟨_, _, h, by simp only [hk]; exact ⟨by trivial, by trivial⟩⟩
      · exact h.elim
  · split at h
    case h_2 => exact h.elim
    split at h
    case h_2 => exact h.elim
    split at h
    · exact ⟨_, _, h, rfl, rfl⟩
    · exact ⟨_, _, h, rfl, rfl⟩
    · exact h.elim
  · split at h
    case h_2 => exact h.elim
    split at h
    · exact ⟨_, _, h, rfl, rfl⟩
    · exact ⟨_, _, h, rfl, rfl⟩
    · exact h.elim
  · split at h
    case h_2 => exact h.elim
    split at h
    case h_2 => exact h.elim
    split at h
    · exact ⟨_, _, h, rfl, rfl⟩
    · exact ⟨_, _, h, rfl, rfl⟩
    · exact h.elim
  · split at h
    case h_2 => exact h.elim
    split at h
    case h_2 => exact h.elim
    obtain ⟨h0, h⟩ := h
    split at h
    · exact ⟨_, _, h, h0, rfl, rfl⟩
    · exact ⟨_, _, h, h0, rfl, rfl⟩
    · exact h.elim
  · exact h.elim

theorem nlen_mono (hr : ∀ r p, rk r = some p → rk' r = some p) {x : AVal} {n : Nat} (h : nlen rk x = some n) : nlen rk' x = some n := by
  unfold nlen at h ⊢
  split at h
  · exact h
  · split at h
    case h_2 => cases h
    rename_i hR
    simp only [hr _ _ hR]; exact h
  · cases h
theorem pin_eqa {op : BinOp} {t : TypeId} {l l' : List Cell} : Pin (qeqa P op t l l') (qeqa P op t l l') := by
  intro Φ h
  unfold qeqa at h ⊢
  split at h
  case h_2 => exact h.elim
  split at h
  case h_2 => exact h.elim
  split at h
  · obtain ⟨r, he, h⟩ := h; exact ⟨_, _, h, r, he, rfl, rfl⟩
  · obtain ⟨r, he, h⟩ := h; exact ⟨_, _, h, r, he, rfl, rfl⟩
  · exact h.elim
theorem pin_binE {op : BinOp} {T : Ty} {x y : AVal} (hr : ∀ r p, rk r = some p → rk' r = some p) : Pin (qbinE op T rk x y) (qbinE op T rk' x y) := by
  intro Φ h
  unfold qbinE at h ⊢
  split at h
  · split at h
    case h_2 => exact h.elim
    rename_i hn
    simp only [nlen_mono hr hn]
    split at h
    case h_2 => exact h.elim
    unfold qnilD at h ⊢
    obtain ⟨h0, h⟩ := h
    split at h
    · exact ⟨_, _, h, h0, rfl, rfl⟩
    · exact ⟨_, _, h, h0, rfl, rfl⟩
    · exact h.elim
  · exact pin_bin Φ h
theorem pin_binD {op : BinOp} {t : TypeId} {T : Ty} {x y : AVal} (hr : ∀ r p, rk r = some p → rk' r = some p) : Pin (qbinD P op t T rk x y) (qbinD P op t T rk' x y) := by
  cases x with
  | p x => cases x with
    | agg l =>
      intro Φ h
      unfold qbinD at h ⊢
      simp only at h ⊢
      split at h
      · exact pin_eqa Φ h
      · exact h.elim
    | one c => exact pin_binE hr
  | tup l =>
    have h : Pin (qbinE op T rk (.tup l) y) (qbinE op T rk' (.tup l) y) := pin_binE hr
    exact h

theorem pin_un {op : UnOp} {x : AVal} : Pin (qun op x) (qun op x) := by
  intro Φ h
  unfold qun at h ⊢
  split at h
  · split at h
    · exact ⟨_, _, h, rfl, rfl⟩
    · exact h.elim
  · split at h
    · exact ⟨_, _, h, rfl, rfl⟩
    · exact h.elim
  · exact h.elim

theorem pin_len {T : Ty} {x : AVal} (hr : ∀ r p, rk r = some p → rk' r = some p) : Pin (qlenD T rk x) (qlenD T rk' x) := by
  intro Φ h
  unfold qlenD at h ⊢
  split at h
  · split at h
    · exact ⟨_, _, h, rfl, rfl⟩
    · exact ⟨_, _, h, rfl, rfl⟩
    · split at h
      case h_2 => exact h.elim
      rename_i hR
      simp only [hr _ _ hR]
      split at h
      case h_2 => exact h.elim
      rename_i hb
      exact ⟨_, _, h, by simp only [hb]; exact ⟨by trivial, by trivial⟩⟩
    · exact h.elim
  · split at h
    · exact ⟨_, _, h, rfl, rfl⟩
    · exact h.elim
  · exact h.elim

theorem solid_mono (hr : ∀ r p, rk r = some p → rk' r = some p) {x : Cell} (h : solid rk x = true) : solid rk' x = true := by
  unfold solid at h ⊢
  split at h
  · rfl
  · rfl
  · rfl
  · split at h
    case h_2 => cases h
    rename_i hR
    simp only [hr _ _ hR]; exact h
  · split at h
    case h_2 => cases h
    rename_i hR
    simp only [hr _ _ hR]; exact h
  · cases h
theorem cellsOf_mono (hr : ∀ r p, rk r = some p → rk' r = some p) {x : AVal} {cs : List Cell} (h : cellsOf rk x = some cs) : cellsOf rk' x = some cs := by
  unfold cellsOf at h ⊢
  split at h
  · split at h
    · rename_i hs; simp only [solid_mono hr hs]; exact h
    · cases h
  · exact h
  · cases h
theorem partsOf_mono (hr : ∀ r p, rk r = some p → rk' r = some p) {ρ : Operand → AVal} : ∀ {l : List (Nat × Operand)} {ps : List (Nat × List Cell)}, partsOf rk ρ l = some ps → partsOf rk' ρ l = some ps
  | [], _, h => h
  | (i, x) :: l, ps, h => by
    unfold partsOf at h ⊢
    split at h
    case h_2 => cases h
    rename_i hc
    split at h
    case h_2 => cases h
    rename_i hp
    simp only [cellsOf_mono hr hc, partsOf_mono hr hp]
    exact h

theorem pin_box {T : Ty} {d : Nat} {x : AVal} (hr : ∀ r p, rk r = some p → rk' r = some p) : Pin (qbox T rk d x) (qbox T rk' d x) := by
  intro Φ h
  unfold qbox at h ⊢
  split at h
  case h_2 => exact h.elim
  rename_i hc
  exact ⟨_, _, h, by simp only [cellsOf_mono hr hc]; exact ⟨by trivial, by trivial⟩⟩
theorem pin_alloc {T : Ty} {d : Nat} : Pin (qalloc T d) (qalloc T d) := by
  intro Φ h
  unfold qalloc at h ⊢
  split at h
  · exact h.elim
  · exact ⟨_, _, h, rfl, rfl⟩
theorem pin_build {ρ : Operand → AVal} {t : TypeId} {parts : List (Nat × Operand)} (hr : ∀ r p, rk r = some p → rk' r = some p) : Pin (qbuild T rk ρ t parts) (qbuild T rk' ρ t parts) := by
  intro Φ h
  unfold qbuild at h ⊢
  split at h
  · split at h
    case h_2 => exact h.elim
    rename_i hp
    split at h
    case h_2 => exact h.elim
    rename_i hf
    exact ⟨_, _, h, by simp only [partsOf_mono hr hp, hf]; exact ⟨by trivial, by trivial⟩⟩
  · split at h
    case h_2 => exact h.elim
    rename_i hp
    split at h
    case h_2 => exact h.elim
    rename_i hf
    exact ⟨_, _, h, by simp only [partsOf_mono hr hp, hf]; exact ⟨by trivial, by trivial⟩⟩
  · exact h.elim
theorem pin_slit {ρ : Operand → AVal} {d t len : Nat} {parts : List (Nat × Operand)} (hr : ∀ r p, rk r = some p → rk' r = some p) : Pin (qslit T rk ρ d t len parts) (qslit T rk' ρ d t len parts) := by
  intro Φ h
  unfold qslit at h ⊢
  split at h
  case h_2 => exact h.elim
  split at h
  case h_2 => exact h.elim
  rename_i hp
  split at h
  case h_2 => exact h.elim
  rename_i hf
  obtain ⟨α, cell, xs, h1, h2, h3, h⟩ := h
  exact ⟨_, _, h, by simp only [partsOf_mono hr hp, hf]; exact ⟨α, cell, xs, h1, h2, h3, by trivial, by trivial⟩⟩
theorem pin_make {d t : Nat} {n c : AVal} : Pin (qmake T d t n c) (qmake T d t n c) := by
  intro Φ h
  unfold qmake at h ⊢
  split at h
  case h_2 => exact h.elim
  split at h
  case h_2 => exact h.elim
  split at h
  case h_2 => exact h.elim
  obtain ⟨h1, h2, h3, h4, h5, α, cell, x, h6, h⟩ := h
  exact ⟨_, _, h, h1, h2, h3, h4, h5, α, cell, x, h6, rfl, rfl⟩
theorem pin_slice {T : Ty} {x : AVal} {lo hi : Option AVal} : Pin (qslice T x lo hi) (qslice T x lo hi) := by
  intro Φ h
  unfold qslice at h ⊢
  split at h
  case h_2 => exact h.elim
  split at h
  case h_2 => exact h.elim
  split at h
  case h_2 => exact h.elim
  rename_i hb
  split at h
  case h_2 => exact h.elim
  rename_i hl
  split at h
  case h_2 => exact h.elim
  rename_i hh
  obtain ⟨h1, h2, h3, h⟩ := h
  exact ⟨_, _, h, by simp only [hb, hl, hh]; exact ⟨h1, h2, h3, by trivial, by trivial⟩⟩
theorem pin_func {f : Fn} {first caps : List AVal} : Pin (qfunc f first caps) (qfunc f first caps) := by
  intro Φ h
  unfold qfunc at h ⊢
  split at h
  case h_2 => exact h.elim
  split at h
  case h_2 => exact h.elim
  split at h
  · rename_i h1; exact ⟨_, _, h, by simp only [h1]; exact ⟨by trivial, by trivial⟩⟩
  · rename_i h1
    split at h
    · rename_i h2; exact ⟨_, _, h, by simp only [h1, h2]; exact ⟨by trivial, by trivial⟩⟩
    · exact h.elim

theorem toC0_mono (hr : ∀ r p, rk r = some p → rk' r = some p) {x : Cell} {y : CVal} (h : toC0 rk x = some y) : toC0 rk' x = some y := by
  unfold toC0 at h ⊢
  split at h
  · exact h
  · split at h
    case h_2 => cases h
    rename_i hR
    simp only [hr _ _ hR]; exact h
  · cases h
theorem toCs_mono (hr : ∀ r p, rk r = some p → rk' r = some p) : ∀ {l : List Cell} {ys : List CVal}, toCs rk l = some ys → toCs rk' l = some ys
  | [], _, h => h
  | x :: l, ys, h => by
    unfold toCs at h ⊢
    split at h
    case h_2 => cases h
    rename_i h1
    split at h
    case h_2 => cases h
    rename_i h2
    simp only [toC0_mono hr h1, toCs_mono hr h2]; exact h
theorem refOf_mono (hl : ∀ l cs, lk l = some cs → lk' l = some cs) (hr : ∀ r p, rk r = some p → rk' r = some p) {l : Nat} {y : CVal} (h : refOf rk lk l = some y) : refOf rk' lk' l = some y := by
  unfold refOf at h ⊢
  split at h
  case h_2 => cases h
  rename_i h1
  split at h
  case h_2 => cases h
  rename_i h2
  simp only [hl _ _ h1, toCs_mono hr h2]; exact h
theorem refsOf_mono (hl : ∀ l cs, lk l = some cs → lk' l = some cs) (hr : ∀ r p, rk r = some p → rk' r = some p) : ∀ {l : List Nat} {ys : List CVal}, refsOf rk lk l = some ys → refsOf rk' lk' l = some ys
  | [], _, h => h
  | x :: l, ys, h => by
    unfold refsOf at h ⊢
    split at h
    case h_2 => cases h
    rename_i h1
    split at h
    case h_2 => cases h
    rename_i h2
    simp only [refOf_mono hl hr h1, refsOf_mono hl hr h2]; exact h
theorem toC_mono (hl : ∀ l cs, lk l = some cs → lk' l = some cs) (hr : ∀ r p, rk r = some p → rk' r = some p) {x : Cell} {y : CVal} (h : toC rk lk x = some y) : toC rk' lk' x = some y := by
  unfold toC at h ⊢
  split at h
  · exact h
  · exact toC0_mono hr h
  · exact refOf_mono hl hr h
  · split at h
    case h_2 => cases h
    rename_i h1
    simp only [refsOf_mono hl hr h1]; exact h
  · cases h
theorem toCl_mono (hl : ∀ l cs, lk l = some cs → lk' l = some cs) (hr : ∀ r p, rk r = some p → rk' r = some p) : ∀ {l : List Cell} {ys : List CVal}, toCl rk lk l = some ys → toCl rk' lk' l = some ys
  | [], _, h => h
  | x :: l, ys, h => by
    unfold toCl at h ⊢
    split at h
    case h_2 => cases h
    rename_i h1
    split at h
    case h_2 => cases h
    rename_i h2
    simp only [toC_mono hl hr h1, toCl_mono hl hr h2]; exact h
theorem toAv_mono (hl : ∀ l cs, lk l = some cs → lk' l = some cs) (hr : ∀ r p, rk r = some p → rk' r = some p) {x : AVal} {y : Av} (h : toAv rk lk x = some y) : toAv rk' lk' x = some y := by
  unfold toAv at h ⊢
  split at h
  · split at h
    case h_2 => cases h
    rename_i h1
    simp only [toC_mono hl hr h1]; exact h
  · split at h
    case h_2 => cases h
    rename_i h1
    simp only [toCl_mono hl hr h1]; exact h
  · cases h
theorem toAvs_mono (hl : ∀ l cs, lk l = some cs → lk' l = some cs) (hr : ∀ r p, rk r = some p → rk' r = some p) {ρ : Operand → AVal} : ∀ {l : List Operand} {ys : List Av}, toAvs rk lk ρ l = some ys → toAvs rk' lk' ρ l = some ys
  | [], _, h => h
  | x :: l, ys, h => by
    unfold toAvs at h ⊢
    split at h
    case h_2 => cases h
    rename_i h1
    split at h
    case h_2 => cases h
    rename_i h2
    simp only [toAv_mono hl hr h1, toAvs_mono hl hr h2]; exact h
theorem callee_mono (hl : ∀ l cs, lk l = some cs → lk' l = some cs) (hr : ∀ r p, rk r = some p → rk' r = some p) {x : AVal} {y : FuncId × List Av × Bool} (h : callee rk lk x = some y) : callee rk' lk' x = some y := by
  unfold callee at h ⊢
  split at h
  · exact h
  · split at h
    case h_2 => cases h
    rename_i h1
    simp only [refsOf_mono hl hr h1]; exact h
  · cases h

theorem pin_call {ρ : Operand → AVal} {d : Nat} {f : Operand} {args : List Operand} (hl : ∀ l cs, lk l = some cs → lk' l = some cs) (hr : ∀ r p, rk r = some p → rk' r = some p) : Pin (qcall P rk lk ρ d f args) (qcall P rk' lk' ρ d f args) := by
  intro Φ h
  unfold qcall at h ⊢
  split at h
  case h_2 => exact h.elim
  rename_i h1
  split at h
  case h_2 => exact h.elim
  rename_i h2
  split at h
  · rename_i h3
    obtain ⟨rv, hc, h⟩ := h
    exact ⟨_, _, h, by simp only [callee_mono hl hr h1, toAvs_mono hl hr h2, h3]; exact ⟨rv, hc, by trivial, by trivial⟩⟩
  · rename_i h3
    obtain ⟨rv, hc, hf, h⟩ := h
    exact ⟨_, _, h, by simp only [callee_mono hl hr h1, toAvs_mono hl hr h2, h3]; exact ⟨rv, hc, hf, by trivial, by trivial⟩⟩

theorem pin_op {ρ : Operand → AVal} {d : Nat} {o : Op} (hl : ∀ l cs, lk l = some cs → lk' l = some cs) (hr : ∀ r p, rk r = some p → rk' r = some p) (hn : ∀ args ts, o ≠ .call ⟨.builtin .len, args, ts⟩) (hn2 : ∀ op t x y t', o ≠ .binOp op t x y t') :
    Pin (qop P T lk rk ρ d o) (qop P T lk' rk' ρ d o) := by
  intro Φ h
  cases o with
  | move x => exact ⟨_, _, h, rfl, rfl⟩
  | assign x => exact ⟨_, _, h, rfl, rfl⟩
  | pick c p q =>
    simp only [qop] at h ⊢
    split at h
    case h_2 => exact h.elim
    rename_i t _
    cases t
    · exact ⟨_, _, h, rfl, rfl⟩
    · exact ⟨_, _, h, rfl, rfl⟩
  | alloc t => exact pin_alloc Φ h
  | box t x => exact pin_box (T := T t) hr Φ h
  | build t parts => exact pin_build hr Φ h
  | buildSlice t len parts => exact pin_slit hr Φ h
  | load t x =>
    simp only [qop] at h ⊢
    split at h
    · exact h.elim
    · rename_i hn
      obtain ⟨x, n, h1, h2⟩ := pin_load hl hr Φ h
      exact ⟨x, n, h1, h2⟩
  | binOp op t x y t' => exact absurd rfl (hn2 op t x y t')
  | unOp op t x => exact pin_un Φ h
  | convert s t x =>
    simp only [qop] at h ⊢
    split at h
    case h_2 => exact h.elim
    split at h
    case h_2 => exact h.elim
    split at h
    case h_2 => exact h.elim
    obtain ⟨z, hz, h⟩ := h
    exact ⟨_, _, h, z, hz, rfl, rfl⟩
  | fieldAddr t x f => exact pin_field hr Φ h
  | field t x f => exact pin_fieldv Φ h
  | indexAddr t x i => exact pin_idx hr Φ h
  | index t x i => exact pin_indexv Φ h
  | extract x i =>
    simp only [qop] at h ⊢
    split at h
    case h_2 => exact h.elim
    split at h
    case h_2 => exact h.elim
    rename_i hx
    exact ⟨_, _, h, by simp only [hx]; exact ⟨by trivial, by trivial⟩⟩
  | makeSlice t n c => exact pin_make Φ h
  | slice t x lo hi mx =>
    simp only [qop] at h ⊢
    split at h
    · exact pin_slice Φ h
    · exact h.elim
  | makeFunc f first caps => exact pin_func Φ h
  | nilCheck x =>
    simp only [qop] at h ⊢
    split at h
    · exact ⟨_, _, h, rfl, rfl⟩
    · exact ⟨_, _, h, rfl, rfl⟩
    · exact ⟨_, _, h, rfl, rfl⟩
    · exact ⟨_, _, h, rfl, rfl⟩
    · exact h.elim
  | call c =>
    obtain ⟨cal, args, ts⟩ := c
    cases cal with
    | value f => exact pin_call hl hr Φ h
    | invoke r n => exact h.elim
    | builtin b =>
      cases b with
      | len => exact absurd rfl (hn args ts)
      | min =>
        simp only [qop] at h ⊢
        split at h
        case h_2 => exact h.elim
        split at h
        case h_2 => exact h.elim
        split at h
        case h_2 => exact h.elim
        exact ⟨_, _, h.2, h.1, rfl, rfl⟩
      | max =>
        simp only [qop] at h ⊢
        split at h
        case h_2 => exact h.elim
        split at h
        case h_2 => exact h.elim
        split at h
        case h_2 => exact h.elim
        exact ⟨_, _, h.2, h.1, rfl, rfl⟩
      | _ => exact h.elim
  | _ => exact h.elim

theorem pin_dop {ρ : Operand → AVal} {d : Nat} {o : Op} (hl : ∀ l cs, lk l = some cs → lk' l = some cs) (hr : ∀ r p, rk r = some p → rk' r = some p) : Pin (dop P T lk rk ρ d o) (dop P T lk' rk' ρ d o) := by
  intro Φ h
  unfold dop at h ⊢
  split at h
  · split at h
    case h_2 => exact h.elim
    split at h
    case h_2 => exact h.elim
    exact pin_len hr Φ h
  · exact pin_binD hr Φ h
  · rename_i hn hn2
    exact pin_op hl hr (fun args ts e => hn args ts e) (fun op t x y t' e => hn2 op t x y t' e) Φ h
end
end Go.Fx

namespace Go.Fx
open Go.RowKit
set_option linter.unusedVariables false

/-! ### The walk in text order -/
structure DI : Type 1 where
  o : Oper
  x : AVal
  n : NObj
  yes : Bool

def dseq (P : Program) (T : TypeId → Ty) (ops : List Oper) : List Oper → St → (St → Prop) → Prop
  | [], s, K => K s
  | o :: rest, s, K => wguard ops o.guard s
      (fun s => dop P T (lget s.loc) (lget s.row) (opd s.fr) (o.dst.getD 0) o.op fun x n => addObj s n fun s' => setFr s' o.dst x fun s' => forceS s' fun s' => dseq P T ops rest s' K)
      (fun s => setFr s o.dst (.tup []) fun s' => forceS s' fun s' => dseq P T ops rest s' K)

def setO (fr : List AVal) (d : Option Nat) (x : AVal) : List AVal :=
  match d with
  | none => fr
  | some d => fr.set d x

def gfact (ops : List Oper) (g : Option (Nat × Bool)) (fr : List AVal) (yes : Bool) : Prop :=
  match g with
  | none => yes = true
  | some (j, want) => match gslot ops j with
    | none => yes = false
    | some d => (∃ t, fget fr d = .c (.bool t) ∧ yes = (t == want)) ∨ (fget fr d = .tup [] ∧ yes = false)

def Chain (P : Program) (T : TypeId → Ty) (ops : List Oper) : List DI → List AVal → Mem → List AVal → Mem → Prop
  | [], fr, F, fr', F' => fr = fr' ∧ F = F'
  | i :: L, fr, F, fr', F' => gfact ops i.o.guard fr i.yes ∧
      (i.yes = true → dop P T F.loc F.row (opd fr) (i.o.dst.getD 0) i.o.op fun x n => x = i.x ∧ n = i.n) ∧ (i.yes = false → i.x = .tup [] ∧ i.n = .no) ∧ Fresh F i.n ∧ Chain P T ops L (setO fr i.o.dst i.x) (F.add i.n) fr' F'

section
variable {P : Program} {T : TypeId → Ty} {ops : List Oper}

theorem setFr_iff {s : St} {d : Option Nat} {x : AVal} {K : St → Prop} : setFr s d x K ↔ K { s with fr := setO s.fr d x } := by
  unfold setFr setO
  cases d with
  | none => rfl
  | some d => simp only [forceA_iff, setK_iff]

theorem set_same : ∀ {fr : List AVal} {d : Nat} {x : AVal}, fget fr d = x → fr.set d x = fr
  | [], _, _, _ => rfl
  | y :: fr, 0, x, h => by simp [fget] at h; simp [h]
  | y :: fr, d + 1, x, h => by simp [fget] at h; simp [set_same h]

theorem guard_cases {g : Option (Nat × Bool)} {s : St} {yes no : St → Prop} (h : wguard ops g s yes no) : (gfact ops g s.fr true ∧ yes s) ∨ (gfact ops g s.fr false ∧ no s) := by
  unfold wguard at h
  unfold gfact
  split at h
  · exact .inl ⟨rfl, h⟩
  rename_i j want
  split at h
  · rename_i hs
    simp only [hs]
    exact .inr ⟨by trivial, h⟩
  · rename_i d hs
    simp only [hs]
    split at h
    · rename_i t hf
      have e := set_same hf
      cases t with
      | true =>
        have h : setK s.fr d (.c (.bool true)) _ := h
        rw [setK_iff, e] at h
        cases want with
        | true => exact .inl ⟨.inl ⟨true, hf, rfl⟩, h⟩
        | false => exact .inr ⟨.inl ⟨true, hf, rfl⟩, h⟩
      | false =>
        have h : setK s.fr d (.c (.bool false)) _ := h
        rw [setK_iff, e] at h
        cases want with
        | true => exact .inr ⟨.inl ⟨false, hf, rfl⟩, h⟩
        | false => exact .inl ⟨.inl ⟨false, hf, rfl⟩, h⟩
    · rename_i hf
      exact .inr ⟨.inr ⟨hf, by trivial⟩, h⟩
    · exact h.elim

theorem chain_of_dseq {K : St → Prop} : ∀ (l : List Oper) {s : St}, dseq P T ops l s K → ∃ L e, L.map DI.o = l ∧ K e ∧ Chain P T ops L s.fr s.mem e.fr e.mem
  | [], s, h => ⟨[], s, rfl, h, rfl, rfl⟩
  | o :: rest, s, h => by
    unfold dseq at h
    rcases guard_cases h with ⟨hg, h⟩ | ⟨hg, h⟩
    · obtain ⟨x, n, hΦ, hd⟩ := pin_dop (lk' := lget s.loc) (rk' := lget s.row) (fun _ _ h => h) (fun _ _ h => h) _ h
      obtain ⟨hfresh, s', hK, hfr, hmem⟩ := addObj_spec hΦ
      rw [setFr_iff, forceS_iff] at hK
      obtain ⟨L, e, h1, h2, h3⟩ := chain_of_dseq rest hK
      refine ⟨⟨o, x, n, true⟩ :: L, e, by simp [h1], h2, hg, fun _ => hd, fun h => (by cases h), hfresh, ?_⟩
      rw [← hfr, ← hmem]
      exact h3
    · rw [setFr_iff, forceS_iff] at h
      obtain ⟨L, e, h1, h2, h3⟩ := chain_of_dseq rest h
      exact ⟨⟨o, .tup [], .no, false⟩ :: L, e, by simp [h1], h2, hg, fun h => (by cases h), fun _ => ⟨rfl, rfl⟩, trivial, h3⟩

/-! ### Objects apart from each other -/
def Disj : NObj → NObj → Prop
  | .loc l _, .loc l' _ => l ≠ l'
  | .rows L, .rows L' => ∀ r R R', lget L r = some R → lget L' r = some R' → False
  | _, _ => True
theorem Disj.symm {n n' : NObj} (h : Disj n n') : Disj n' n := by
  cases n <;> cases n' <;> first | trivial | exact Ne.symm h | exact fun r R R' h1 h2 => h r R' R h2 h1

theorem add_comm {F : Mem} {n n' : NObj} (h : Disj n n') : (F.add n).add n' = (F.add n').add n := by
  cases n with
  | no => rfl
  | loc l cs => cases n' with
    | no => rfl
    | loc l' cs' =>
      show Mem.mk _ _ = Mem.mk _ _
      congr 1
      funext x
      have h : l ≠ l' := h
      by_cases e : l' = x
      · subst e; simp [Mem.add, h]
      · simp [Mem.add, e]
    | rows L => rfl
  | rows L => cases n' with
    | no => rfl
    | loc l' cs' => rfl
    | rows L' =>
      show Mem.mk _ _ = Mem.mk _ _
      congr 1
      funext x
      simp only [Mem.add]
      cases h1 : lget L x with
      | none => cases h2 : lget L' x <;> simp
      | some R => cases h2 : lget L' x with
        | none => simp
        | some R' => exact (h x R R' h1 h2).elim

theorem fresh_add {F : Mem} {n n' : NObj} (h : Disj n n') (hf : Fresh F n') : Fresh (F.add n) n' := by
  cases n' with
  | no => trivial
  | loc l' cs' => cases n with
    | no => exact hf
    | loc l cs =>
      have h : l ≠ l' := h
      show (if l = l' then _ else _) = _
      rw [if_neg h]; exact hf
    | rows L => exact hf
  | rows L' => cases n with
    | no => exact hf
    | loc l cs => exact hf
    | rows L =>
      intro r R hr
      show (match lget L r with | some R => some (0, R) | none => F.row r) = none
      cases h1 : lget L r with
      | none => exact hf r R hr
      | some R' => exact (h r R' R h1 hr).elim
theorem fresh_back {F : Mem} {n n' : NObj} (hf : Fresh (F.add n) n') (hF : Fresh F n) : Fresh F n' ∧ Disj n n' := by
  cases n' with
  | no => exact ⟨trivial, by cases n <;> trivial⟩
  | loc l' cs' => cases n with
    | no => exact ⟨hf, trivial⟩
    | loc l cs =>
      have hf : (if l = l' then some cs else F.loc l') = none := hf
      by_cases e : l = l'
      · rw [if_pos e] at hf; cases hf
      · rw [if_neg e] at hf; exact ⟨hf, e⟩
    | rows L => exact ⟨hf, trivial⟩
  | rows L' => cases n with
    | no => exact ⟨hf, trivial⟩
    | loc l cs => exact ⟨hf, trivial⟩
    | rows L =>
      have key : ∀ r R, lget L' r = some R → lget L r = none ∧ F.row r = none := fun r R hr => by
        have : (match lget L r with | some R => some (0, R) | none => F.row r) = none := hf r R hr
        cases h1 : lget L r with
        | none => rw [h1] at this; exact ⟨rfl, this⟩
        | some R' => rw [h1] at this; cases this
      exact ⟨fun r R hr => (key r R hr).2, fun r R R' h1 h2 => by rw [(key r R' h2).1] at h1; cases h1⟩

/-- Lookups that hold in one memory hold in the other. -/
def MLe (F F' : Mem) : Prop := (∀ l cs, F.loc l = some cs → F'.loc l = some cs) ∧ (∀ r p, F.row r = some p → F'.row r = some p)
theorem MLe.refl (F : Mem) : MLe F F := ⟨fun _ _ h => h, fun _ _ h => h⟩
theorem MLe.trans {F G H : Mem} (h : MLe F G) (k : MLe G H) : MLe F H := ⟨fun l cs hh => k.1 l cs (h.1 l cs hh), fun r p hh => k.2 r p (h.2 r p hh)⟩
theorem mle_add {F : Mem} {n : NObj} (h : Fresh F n) : MLe F (F.add n) := by
  cases n with
  | no => exact MLe.refl F
  | loc l cs =>
    refine ⟨fun x c hx => ?_, fun _ _ h => h⟩
    show (if l = x then _ else _) = _
    rw [if_neg (fun e => by subst e; rw [show F.loc l = none from h] at hx; cases hx)]; exact hx
  | rows L =>
    refine ⟨fun _ _ h => h, fun r p hp => ?_⟩
    show (match lget L r with | some R => some (0, R) | none => F.row r) = some p
    cases h1 : lget L r with
    | none => exact hp
    | some R => rw [h r R h1] at hp; cases hp
theorem mle_add2 {F G : Mem} {n : NObj} (h : MLe F G) : MLe (F.add n) (G.add n) := by
  cases n with
  | no => exact h
  | loc l cs =>
    refine ⟨fun x c hx => ?_, h.2⟩
    have hx : (if l = x then some cs else F.loc x) = some c := hx
    show (if l = x then some cs else G.loc x) = some c
    by_cases e : l = x
    · rw [if_pos e] at hx ⊢; exact hx
    · rw [if_neg e] at hx ⊢; exact h.1 x c hx
  | rows L =>
    refine ⟨h.1, fun r p hp => ?_⟩
    have hp : (match lget L r with | some R => some (0, R) | none => F.row r) = some p := hp
    show (match lget L r with | some R => some (0, R) | none => G.row r) = some p
    cases h1 : lget L r with
    | none => rw [h1] at hp; exact h.2 r p hp
    | some R => rw [h1] at hp; exact hp

/-- The memory with those objects alone whose operations have run. -/
def mS (S : Nat → Bool) : List DI → Nat → Mem → Mem
  | [], _, F => F
  | i :: L, j, F => mS S L (j + 1) (match S j with | true => F.add i.n | false => F)
/-- What a slot holds: by the last of the operations that have run. -/
def vS (S : Nat → Bool) (t : Nat) : List DI → Nat → AVal → AVal
  | [], _, v => v
  | i :: L, j, v => vS S t L (j + 1) (match S j && i.o.dst == some t with | true => i.x | false => v)

theorem mS_push {S : Nat → Bool} {n : NObj} : ∀ (L : List DI) (j : Nat) (F : Mem), (∀ i ∈ L, Disj i.n n) → mS S L j (F.add n) = (mS S L j F).add n
  | [], _, _, _ => rfl
  | i :: L, j, F, h => by
    unfold mS
    cases S j with
    | false => exact mS_push L (j + 1) F (fun i hi => h i (List.mem_cons_of_mem _ hi))
    | true =>
      show mS S L (j + 1) ((F.add n).add i.n) = _
      rw [← add_comm (h i List.mem_cons_self)]
      exact mS_push L (j + 1) (F.add i.n) (fun i hi => h i (List.mem_cons_of_mem _ hi))

theorem mS_congr {S S' : Nat → Bool} : ∀ (L : List DI) (j : Nat) (F : Mem), (∀ k, j ≤ k → S k = S' k) → mS S L j F = mS S' L j F
  | [], _, _, _ => rfl
  | i :: L, j, F, h => by
    unfold mS
    rw [h j (Nat.le_refl _)]
    exact mS_congr L (j + 1) _ (fun k hk => h k (by omega))

theorem mS_set {S S' : Nat → Bool} {k : Nat} (hk : S k = false) (hS : ∀ j, S' j = (S j || (j == k))) : ∀ (L : List DI) (j : Nat) (F : Mem) (i : DI), L.Pairwise (fun a b => Disj a.n b.n) → j ≤ k → L[k - j]? = some i → mS S' L j F = (mS S L j F).add i.n
  | [], j, F, i, _, _, h => by simp at h
  | y :: L, j, F, i, hp, hj, h => by
    have hp := List.pairwise_cons.1 hp
    by_cases e : j = k
    · subst e
      simp at h
      subst h
      unfold mS
      rw [hk, show S' j = true by rw [hS]; simp]
      show mS S' L (j + 1) (F.add y.n) = _
      rw [mS_push L (j + 1) F (fun i hi => (hp.1 i hi).symm), mS_congr (S := S') (S' := S) L (j + 1) F (fun k hk' => by rw [hS, show (k == j) = false by simp; omega]; simp)]
    · have h' : L[k - (j + 1)]? = some i := by
        rw [show k - j = (k - (j + 1)) + 1 by omega] at h
        simpa using h
      unfold mS
      rw [show S' j = S j by rw [hS]; simp [e]]
      exact mS_set hk hS L (j + 1) _ i hp.2 (by omega) h'

theorem mS_fresh {S : Nat → Bool} {n : NObj} : ∀ (L : List DI) (j : Nat) (F : Mem), Fresh F n → (∀ k i, L[k]? = some i → S (j + k) = true → Disj i.n n) → Fresh (mS S L j F) n
  | [], _, _, h, _ => h
  | i :: L, j, F, h, hd => by
    unfold mS
    cases hs : S j with
    | false => exact mS_fresh L (j + 1) F h (fun k i hk => by have := hd (k + 1) i (by simpa using hk); rwa [show j + (k + 1) = j + 1 + k by omega] at this)
    | true => exact mS_fresh L (j + 1) _ (fresh_add (hd 0 i rfl hs) h) (fun k i hk => by have := hd (k + 1) i (by simpa using hk); rwa [show j + (k + 1) = j + 1 + k by omega] at this)

theorem chain_mono {L : List DI} : ∀ {fr : List AVal} {F : Mem} {fr' : List AVal} {F' : Mem}, Chain P T ops L fr F fr' F' → MLe F F' := by
  induction L with
  | nil => intro fr F fr' F' h; rw [h.2]; exact MLe.refl _
  | cons i L ih => intro fr F fr' F' h; exact (mle_add h.2.2.2.1).trans (ih h.2.2.2.2)

theorem chain_mS {L : List DI} {S : Nat → Bool} : ∀ {fr : List AVal} {F G : Mem} {fr' : List AVal} {F' : Mem} (j : Nat), Chain P T ops L fr F fr' F' → MLe G F → MLe (mS S L j G) F' := by
  induction L with
  | nil => intro fr F G fr' F' j h hg; rw [← h.2]; exact hg
  | cons i L ih =>
    intro fr F G fr' F' j h hg
    unfold mS
    cases S j with
    | false => exact ih (j + 1) h.2.2.2.2 (hg.trans (mle_add h.2.2.2.1))
    | true => exact ih (j + 1) h.2.2.2.2 (mle_add2 hg)

theorem chain_all {L : List DI} {S : Nat → Bool} : ∀ {fr : List AVal} {F : Mem} {fr' : List AVal} {F' : Mem} (j : Nat), Chain P T ops L fr F fr' F' → (∀ k, j ≤ k → k < j + L.length → S k = true) → mS S L j F = F' := by
  induction L with
  | nil => intro fr F fr' F' j h _; exact h.2
  | cons i L ih =>
    intro fr F fr' F' j h hs
    unfold mS
    rw [hs j (Nat.le_refl _) (by simp)]
    exact ih (j + 1) h.2.2.2.2 (fun k h1 h2 => hs k (by omega) (by simp; omega))

theorem chain_fresh {L : List DI} : ∀ {fr : List AVal} {F : Mem} {fr' : List AVal} {F' : Mem}, Chain P T ops L fr F fr' F' → (∀ i ∈ L, Fresh F i.n) ∧ L.Pairwise (fun a b => Disj a.n b.n) := by
  induction L with
  | nil => intro fr F fr' F' h; exact ⟨fun i hi => by simp at hi, List.Pairwise.nil⟩
  | cons i L ih =>
    intro fr F fr' F' h
    obtain ⟨h1, h2⟩ := ih h.2.2.2.2
    refine ⟨fun y hy => ?_, List.pairwise_cons.2 ⟨fun y hy => (fresh_back (h1 y hy) h.2.2.2.1).2, h2⟩⟩
    rcases List.mem_cons.1 hy with rfl | hy
    · exact h.2.2.2.1
    · exact (fresh_back (h1 y hy) h.2.2.2.1).1

theorem vS_congr {S S' : Nat → Bool} {t : Nat} : ∀ (L : List DI) (j : Nat) (v : AVal), (∀ k i, L[k]? = some i → i.o.dst = some t → S (j + k) = S' (j + k)) → vS S t L j v = vS S' t L j v
  | [], _, _, _ => rfl
  | i :: L, j, v, h => by
    have e : (S j && i.o.dst == some t) = (S' j && i.o.dst == some t) := by
      by_cases hd : i.o.dst = some t
      · rw [show S j = S' j from h 0 i rfl hd]
      · rw [show (i.o.dst == some t) = false by simpa using hd, Bool.and_false, Bool.and_false]
    unfold vS
    rw [e]
    exact vS_congr L (j + 1) _ (fun k i hk hd => by have := h (k + 1) i (by simpa using hk) hd; rwa [show j + (k + 1) = j + 1 + k by omega] at this)

theorem vS_none {S : Nat → Bool} {t : Nat} : ∀ (L : List DI) (j : Nat) (v : AVal), (∀ k i, L[k]? = some i → i.o.dst = some t → S (j + k) = false) → vS S t L j v = v
  | [], _, _, _ => rfl
  | i :: L, j, v, h => by
    have e : (S j && i.o.dst == some t) = false := by
      by_cases hd : i.o.dst = some t
      · rw [show S j = false from h 0 i rfl hd]; rfl
      · rw [show (i.o.dst == some t) = false by simpa using hd, Bool.and_false]
    unfold vS
    rw [e]
    exact vS_none L (j + 1) _ (fun k i hk hd => by have := h (k + 1) i (by simpa using hk) hd; rwa [show j + (k + 1) = j + 1 + k by omega] at this)

theorem vS_set {S S' : Nat → Bool} {k t : Nat} (hS : ∀ j, S' j = (S j || (j == k))) : ∀ (L : List DI) (j : Nat) (v : AVal) (i : DI), j ≤ k → L[k - j]? = some i →
    (∀ k' i', L[k']? = some i' → k < j + k' → i'.o.dst = some t → i.o.dst = some t → S (j + k') = false) → vS S' t L j v = (match i.o.dst == some t with | true => i.x | false => vS S t L j v)
  | [], j, v, i, _, h, _ => by simp at h
  | y :: L, j, v, i, hj, h, hl => by
    by_cases e : j = k
    · subst e
      simp at h
      subst h
      unfold vS
      rw [show S' j = true by rw [hS]; simp]
      by_cases hd : y.o.dst = some t
      · rw [show (y.o.dst == some t) = true by simp [hd]]
        exact vS_none L (j + 1) _ (fun k' i' hk' hd' => by
          rw [hS]
          rw [show S (j + 1 + k') = false from by have := hl (k' + 1) i' (by simpa using hk') (by omega) hd' hd; rwa [show j + (k' + 1) = j + 1 + k' by omega] at this, show (j + 1 + k' == j) = false by simp; omega]
          rfl)
      · have hb : (y.o.dst == some t) = false := by simpa using hd
        rw [hb, Bool.and_false, Bool.and_false]
        exact vS_congr L (j + 1) v (fun k' i' _ _ => by rw [hS, show (j + 1 + k' == j) = false by simp; omega]; simp)
    · have h' : L[k - (j + 1)]? = some i := by
        rw [show k - j = (k - (j + 1)) + 1 by omega] at h
        simpa using h
      unfold vS
      rw [show S' j = S j by rw [hS]; simp [e]]
      exact vS_set hS L (j + 1) _ i (by omega) h' (fun k' i' hk' hlt hd hd' => by have := hl (k' + 1) i' (by simpa using hk') (by omega) hd hd'; rwa [show j + (k' + 1) = j + 1 + k' by omega] at this)

theorem fget_set {fr : List AVal} {d t : Nat} {x : AVal} (ht : t < fr.length) : fget (fr.set d x) t = if d = t then x else fget fr t := by
  induction fr generalizing d t with
  | nil => simp at ht
  | cons y fr ih =>
    cases d with
    | zero => cases t with
      | zero => simp [fget]
      | succ t => simp [fget]
    | succ d => cases t with
      | zero => simp [fget]
      | succ t => simp only [List.set_cons_succ, fget]; rw [ih (by simpa using ht)]; simp
theorem fget_out : ∀ {fr : List AVal} {t : Nat}, fr.length ≤ t → fget fr t = .any
  | [], t, _ => by simp [fget]
  | _ :: fr, 0, h => by simp at h
  | _ :: fr, t + 1, h => by simp only [fget]; exact fget_out (by simpa using h)
theorem setO_length (fr : List AVal) (d : Option Nat) (x : AVal) : (setO fr d x).length = fr.length := by
  cases d <;> simp [setO]

/-- The frame ahead of the operation k, in text order. -/
theorem chain_at {L : List DI} : ∀ {fr : List AVal} {F : Mem} {fr' : List AVal} {F' : Mem} (j k : Nat) (i : DI), Chain P T ops L fr F fr' F' → j ≤ k → L[k - j]? = some i →
    ∃ frk Fk, frk.length = fr.length ∧ (∀ t, t < fr.length → fget frk t = vS (fun q => decide (q < k)) t L j (fget fr t)) ∧ gfact ops i.o.guard frk i.yes ∧
      (i.yes = true → dop P T Fk.loc Fk.row (opd frk) (i.o.dst.getD 0) i.o.op fun x n => x = i.x ∧ n = i.n) ∧ (i.yes = false → i.x = .tup [] ∧ i.n = .no) ∧ MLe Fk F' := by
  induction L with
  | nil => intro fr F fr' F' j k i _ _ h; simp at h
  | cons y L ih =>
    intro fr F fr' F' j k i h hj hk
    by_cases e : j = k
    · subst e
      simp at hk
      subst hk
      exact ⟨fr, F, rfl, fun t ht => (vS_none _ j _ (fun k' i' _ _ => by simp)).symm, h.1, h.2.1, h.2.2.1, chain_mono h⟩
    · have h' : L[k - (j + 1)]? = some i := by
        rw [show k - j = (k - (j + 1)) + 1 by omega] at hk
        simpa using hk
      obtain ⟨frk, Fk, h1, h2, h3⟩ := ih (j + 1) k i h.2.2.2.2 (by omega) h'
      refine ⟨frk, Fk, by rw [h1, setO_length], fun t ht => ?_, h3⟩
      rw [h2 t (by rw [setO_length]; exact ht), vS]
      congr 1
      rw [show decide (j < k) = true by simp; omega]
      unfold setO
      cases hd : y.o.dst with
      | none => rfl
      | some d =>
        simp only []
        rw [fget_set ht]
        by_cases e2 : d = t
        · subst e2; simp
        · rw [if_neg e2]
          have : (some d == some t) = false := by simpa using e2
          simp [this]

theorem chain_end {L : List DI} {S : Nat → Bool} : ∀ {fr : List AVal} {F : Mem} {fr' : List AVal} {F' : Mem} (j : Nat), Chain P T ops L fr F fr' F' → (∀ k, j ≤ k → k < j + L.length → S k = true) →
    fr'.length = fr.length ∧ ∀ t, t < fr.length → fget fr' t = vS S t L j (fget fr t) := by
  induction L with
  | nil => intro fr F fr' F' j h _; rw [h.1]; exact ⟨rfl, fun t _ => rfl⟩
  | cons y L ih =>
    intro fr F fr' F' j h hs
    obtain ⟨h1, h2⟩ := ih (j + 1) h.2.2.2.2 (fun k h1 h2 => hs k (by omega) (by simp; omega))
    refine ⟨by rw [h1, setO_length], fun t ht => ?_⟩
    rw [h2 t (by rw [setO_length]; exact ht), vS, hs j (Nat.le_refl _) (by simp)]
    congr 1
    unfold setO
    cases hd : y.o.dst with
    | none => rfl
    | some d =>
      simp only []
      rw [fget_set ht]
      by_cases e2 : d = t
      · subst e2; simp
      · rw [if_neg e2]
        have : (some d == some t) = false := by simpa using e2
        simp [this]
end
end Go.Fx

namespace Go.Fx
open Go.RowKit
set_option linter.unusedVariables false

def headB (ops : Array Oper) (n : Nat) : Bool :=
  (List.range n).all fun k => match ops[k]? with
    | some ok => ok.after.all (fun e => !Region.binds .any e || decide (e.on < k)) && (List.range k).all fun i => Region.waitsFor .any ops k i || (match ops[i]? with
      | some oi => oi.apart ops ok
      | none => true)
    | none => false
def drawB (ops : Array Oper) (n : Nat) : Bool :=
  headB ops n && (decide (n = ops.size) || (decide (n < ops.size) && Region.sinkB .any ops n && Region.chainB .any ops n)) && Region.seqB .any ops (ops.size - n) n (Array.replicate n true ++ Array.replicate (ops.size - n) false)

def unl (n : Nat) (listed : Array Bool) : Nat := (List.range n).countP fun i => !listed.getD i true

section
variable {P : Program} {T : TypeId → Ty} {w0 w w1 : World} {X0 : Nat → Prop} {s e : St} {m m1 : Map} {a : Act} {o : Oper} {Q : Exit → Act → World → Prop} {K : St → Prop} {ops : Array Oper} {n : Nat} {L : List DI}

theorem getD_setT {listed : Array Bool} {j i : Nat} (hj : j < listed.size) (d : Bool) : (listed.setIfInBounds j true).getD i d = if j = i then true else listed.getD i d := by
  by_cases e : j = i
  · subst e; simp [hj]
  · rw [if_neg e, getD_set_ne d e]

theorem unl_set {listed : Array Bool} {j : Nat} (hs : j < listed.size) (hu : listed.getD j true = false) : ∀ n, j < n → unl n (listed.setIfInBounds j true) + 1 = unl n listed
  | 0, h => by omega
  | n + 1, h => by
    unfold unl
    rw [List.range_succ, List.countP_append, List.countP_append]
    by_cases e : j = n
    · subst e
      have : (List.range j).countP (fun i => !(listed.setIfInBounds j true).getD i true) = (List.range j).countP (fun i => !listed.getD i true) := by
        refine List.countP_congr fun i hi => ?_
        have hi := List.mem_range.1 hi
        rw [getD_setT hs, if_neg (by omega)]
      rw [this]
      simp [getD_setT hs]
      simpa using hu
    · have ih := unl_set hs hu n (by omega)
      unfold unl at ih
      have : (!(listed.setIfInBounds j true).getD n true) = !listed.getD n true := by rw [getD_setT hs, if_neg e]
      simp only [List.countP_cons, List.countP_nil, this]
      omega

theorem min_of {p : Nat → Bool} : ∀ {i : Nat}, p i = true → ∃ k, k ≤ i ∧ p k = true ∧ ∀ j, j < k → p j = false := by
  intro i
  induction i using Nat.strongRecOn with
  | _ i ih =>
    intro h
    by_cases hx : ∃ j, j < i ∧ p j = true
    · obtain ⟨j, hj, hp⟩ := hx
      obtain ⟨k, h1, h2, h3⟩ := ih j hj hp
      exact ⟨k, by omega, h2, h3⟩
    · refine ⟨i, Nat.le_refl _, h, fun j hj => ?_⟩
      cases hp : p j with
      | false => rfl
      | true => exact absurd ⟨j, hj, hp⟩ hx

theorem headB_spec (hB : headB ops n = true) {k : Nat} (hk : k < n) {ok : Oper} (ho : ops[k]? = some ok) :
    (∀ e ∈ ok.after, Region.binds .any e = true → e.on < k) ∧ ∀ i oi, i < k → ops[i]? = some oi → (∃ e ∈ ok.after, Region.binds .any e = true ∧ e.on = i) ∨ oi.apart ops ok = true := by
  have h := List.all_eq_true.1 hB k (List.mem_range.2 hk)
  simp only [ho, Bool.and_eq_true] at h
  refine ⟨fun e he hb => ?_, fun i oi hi hoi => ?_⟩
  · have := Array.all_eq_true_iff_forall_mem.1 h.1 e he
    simpa [hb] using this
  · have h2 := List.all_eq_true.1 h.2 i (List.mem_range.2 hi)
    simp only [hoi, Bool.or_eq_true] at h2
    rcases h2 with h2 | h2
    · obtain ⟨oj, hoj, e, he, hb, hon⟩ := Region.waitsFor_spec h2
      rw [ho] at hoj
      cases hoj
      exact .inl ⟨e, he, hb, hon⟩
    · exact .inr h2

/-- What holds between two operations of a region that draws. -/
structure DCfg (w0 : World) (X0 : Nat → Prop) (s : St) (L : List DI) (S : Nat → Bool) (m : Map) (a : Act) (w : World) : Prop where
  core : Core w0 X0 (mS S L 0 s.mem) m w
  size : a.tmps.size = s.fr.length
  fr : ∀ t v, a.tmps[t]? = some v → VRel w (Bad X0 (mS S L 0 s.mem) m) (mS S L 0 s.mem) m (vS S t L 0 (fget s.fr t)) v
  defers : a.defers = []

theorem getD_true {listed : Array Bool} {i : Nat} (h : listed.getD i true = false) : listed.getD i false = false := getD_both h

theorem agree (hB : headB ops n = true) (hL : L.map DI.o = ops.toList.take n) {listed : Array Bool} (inv : HeadInv .any ops n listed) {j : Nat} {oj : Oper} (hj : j < n) (hoj : ops[j]? = some oj) (hun : listed.getD j true = false)
    (hready : ∀ e ∈ oj.after, Region.binds .any e = true → listed.getD e.on false = true) {t : Nat} (ht : t ∈ oj.looksAt ops) (v : AVal) :
    vS (fun q => listed.getD q false) t L 0 v = vS (fun q => decide (q < j)) t L 0 v := by
  refine vS_congr L 0 v fun k i hk hd => ?_
  rw [Nat.zero_add]
  have hkn : k < n := by
    have h1 := (List.getElem?_eq_some_iff.1 hk).1
    have h2 : L.length = min n ops.toList.length := by rw [← List.length_map (f := DI.o), hL, List.length_take]
    omega
  have hok : ops[k]? = some i.o := by
    have h1 : (L.map DI.o)[k]? = some i.o := by rw [List.getElem?_map, hk]; rfl
    rw [hL, List.getElem?_take, if_pos hkn] at h1
    simpa using h1
  rcases Nat.lt_trichotomy k j with hlt | heq | hgt
  · rw [decide_eq_true hlt]
    rcases (headB_spec hB hj hoj).2 k i.o hlt hok with ⟨e, he, hb, hon⟩ | hap
    · rw [← hon]; exact hready e he hb
    · exact absurd ht ((Oper.apart_spec hap).1 t hd)
  · subst heq
    rw [getD_true hun]; simp
  · rw [show decide (k < j) = false by simp; omega]
    rcases (headB_spec hB hkn hok).2 j oj hgt hoj with ⟨e, he, hb, hon⟩ | hap
    · cases hs : listed.getD k false with
      | false => rfl
      | true =>
        have := inv.closed k i.o hok hs e he hb
        rw [hon, getD_true hun] at this
        cases this
    · exact absurd ht ((Oper.apart_spec hap).2.2 t hd)

theorem wanted_of_gfact {ops : Array Oper} {fr : List AVal} {yes : Bool} {X : Nat → Prop} {F : Mem} (hg : gfact ops.toList o.guard fr yes)
    (hv : ∀ d, d ∈ o.looksAt ops → (∃ v, a.tmps[d]? = some v ∧ VRel w X F m (fget fr d) v) ∨ fget fr d = .any) : Region.wanted o (yielded ops a.tmps) = yes := by
  unfold gfact at hg
  unfold Region.wanted
  split at hg
  · rename_i h; rw [h]; exact hg.symm
  rename_i j want h
  rw [h]
  simp only
  have hy : yielded ops a.tmps j = match (gslot ops.toList j).bind (a.tmps[·]?) with
    | some (.bool b) => some b
    | _ => none := by
    unfold yielded gslot
    rw [nth_eq]
    simp only [Array.getElem?_toList]
    cases ops[j]? <;> rfl
  split at hg
  · rename_i hs
    rw [hs] at hy
    rw [hy, hg]
    cases want <;> rfl
  · rename_i d hs
    rw [hs] at hy
    have hd : d ∈ o.looksAt ops := by
      unfold Oper.looksAt
      rw [h]
      refine List.mem_append_right _ ?_
      unfold gslot at hs
      rw [nth_eq] at hs
      simp only [Array.getElem?_toList] at hs
      cases ho : ops[j]? with
      | none => rw [ho] at hs; cases hs
      | some oj =>
        rw [ho] at hs
        have hs : oj.dst = some d := hs
        simp [ho, hs]
    rcases hv d hd with ⟨v, hv1, hv2⟩ | hany
    · simp only [Option.bind_some, hv1] at hy
      rcases hg with ⟨t, ht, rfl⟩ | ⟨ht, rfl⟩
      · rw [ht] at hv2
        have hv2 : v = .bool t := hv2
        subst hv2
        rw [hy]
        cases t <;> cases want <;> rfl
      · rw [ht] at hv2
        obtain ⟨vs, rfl, _⟩ := hv2
        rw [hy]
        cases want <;> rfl
    · rcases hg with ⟨t, ht, _⟩ | ⟨ht, _⟩
      · rw [hany] at ht; cases ht
      · rw [hany] at ht; cases ht

theorem put_size (a : Act) (d : Option Tmp) (v : Value) : (a.put d v).tmps.size = a.tmps.size := by cases d <;> simp [Act.put]
theorem put_get {a : Act} {d : Option Tmp} {v u : Value} {t : Nat} (h : (a.put d v).tmps[t]? = some u) : (d = some t ∧ u = v) ∨ (d ≠ some t ∧ a.tmps[t]? = some u) := by
  cases d with
  | none => exact .inr ⟨by simp, h⟩
  | some d =>
    have h : (a.tmps.setIfInBounds d v)[t]? = some u := h
    by_cases e : d = t
    · subst e
      left
      rw [Array.getElem?_setIfInBounds] at h
      simp only [if_true] at h
      split at h
      · exact ⟨rfl, (Option.some.inj h).symm⟩
      · cases h
    · right
      rw [Array.getElem?_setIfInBounds_ne e] at h
      exact ⟨fun h => e (Option.some.inj h), h⟩

theorem draw_any (hT : TyAll P T) (hB : headB ops n = true) (hn : n ≤ ops.size) (hready : ∀ listed, HeadInv .any ops n listed → ∀ j ∈ Region.ready .any ops listed, n ≤ j → ∀ i, i < n → listed.getD i false = true)
    (hL : L.map DI.o = ops.toList.take n) (hC : Chain P T ops.toList L s.fr s.mem e.fr e.mem)
    (hend : ∀ m a w, Rel w0 X0 e m a w → wpAny P .any ops Q (ops.size - n) (Array.replicate n true ++ Array.replicate (ops.size - n) false) a w) :
    ∀ (u : Nat) (listed : Array Bool) (m : Map) (a : Act) (w : World), unl n listed = u → HeadInv .any ops n listed → DCfg w0 X0 s L (fun q => listed.getD q false) m a w → wpAny P .any ops Q (u + (ops.size - n)) listed a w := by
  have hlen : L.length = n := by
    rw [← List.length_map (f := DI.o), hL, List.length_take, Array.length_toList]; omega
  have hget : ∀ j oj, j < n → ops[j]? = some oj → ∃ i, L[j]? = some i ∧ i.o = oj := by
    intro j oj hj hoj
    have h1 : (L.map DI.o)[j]? = some oj := by
      rw [hL, List.getElem?_take, if_pos hj]; simpa using hoj
    rw [List.getElem?_map] at h1
    exact Option.map_eq_some_iff.1 h1
  have hinv : ∀ j i, L[j]? = some i → j < n ∧ ops[j]? = some i.o := by
    intro j i hj
    have hjn : j < n := by rw [← hlen]; exact (List.getElem?_eq_some_iff.1 hj).1
    have h1 : (L.map DI.o)[j]? = some i.o := by rw [List.getElem?_map, hj]; rfl
    rw [hL, List.getElem?_take, if_pos hjn] at h1
    exact ⟨hjn, by simpa using h1⟩
  obtain ⟨hfr0, hpw⟩ := chain_fresh hC
  intro u
  induction u with
  | zero =>
    intro listed m a w hu inv D
    have hall : ∀ i, i < n → listed.getD i true = true := by
      intro i hi
      have := (List.countP_eq_zero.1 hu) i (List.mem_range.2 hi)
      simpa using this
    have hal : ∀ i, i < n → listed.getD i false = true := by
      intro i hi
      have h1 := hall i hi
      have hsz : i < listed.size := by rw [inv.size]; omega
      simp [hsz] at h1 ⊢; exact h1
    have hlist : listed = Array.replicate n true ++ Array.replicate (ops.size - n) false := by
      apply Array.ext_getElem?
      intro i
      have hsz := inv.size
      rw [Array.getElem?_append]
      by_cases h1 : i < n
      · have hsz2 : i < listed.size := by omega
        have := hal i h1
        simp [hsz2] at this
        rw [if_pos (by simpa using h1), Array.getElem?_eq_getElem hsz2, this]
        simp [h1]
      · rw [if_neg (by simpa using h1)]
        by_cases h2 : i < ops.size
        · have hsz2 : i < listed.size := by omega
          have := inv.tail i (by omega) h2
          simp [hsz2] at this
          rw [Array.getElem?_eq_getElem hsz2, this]
          have : i - n < ops.size - n := by omega
          simp [this]
        · rw [Array.getElem?_eq_none (by omega), Array.getElem?_eq_none (by simp; omega)]
    have hS : ∀ k, 0 ≤ k → k < 0 + L.length → (fun q => listed.getD q false) k = true := fun k _ hk => hal k (by omega)
    have hmem := chain_all 0 hC hS
    obtain ⟨hlen2, hfrE⟩ := chain_end 0 hC hS
    rw [hlist, Nat.zero_add]
    refine hend m a w ⟨by rw [← hmem]; exact D.core, ?_, D.defers⟩
    rw [← hmem]
    -- the frame, slot by slot
    have hsz := D.size
    have key : ∀ (l : List AVal) (vs : List Value), l.length = vs.length → (∀ t v, vs[t]? = some v → VRel w (Bad X0 (mS (fun q => listed.getD q false) L 0 s.mem) m) (mS (fun q => listed.getD q false) L 0 s.mem) m (fget l t) v) →
        All2 (VRel w (Bad X0 (mS (fun q => listed.getD q false) L 0 s.mem) m) (mS (fun q => listed.getD q false) L 0 s.mem) m) l vs := by
      intro l
      induction l with
      | nil => intro vs h _; cases vs with
        | nil => trivial
        | cons => simp at h
      | cons x l ih => intro vs h hh; cases vs with
        | nil => simp at h
        | cons v vs => exact ⟨hh 0 v rfl, ih vs (by simpa using h) fun t u hu => hh (t + 1) u (by simpa using hu)⟩
    refine key e.fr a.tmps.toList (by rw [hlen2, Array.length_toList, hsz]) fun t v hv => ?_
    have hv : a.tmps[t]? = some v := by simpa using hv
    have ht : t < s.fr.length := by rw [← hsz]; exact (Array.getElem?_eq_some_iff.1 hv).1
    rw [hfrE t ht]
    exact D.fr t v hv
  | succ u ih =>
    intro listed m a w hu inv D
    have hne : Region.ready .any ops listed ≠ [] := by
      intro h0
      have hpos : 0 < unl n listed := by omega
      obtain ⟨i, hi, hp⟩ := List.countP_pos_iff.1 hpos
      have hi := List.mem_range.1 hi
      obtain ⟨k, hk1, hk2, hk3⟩ := min_of (p := fun i => !listed.getD i true) hp
      have hkn : k < n := by omega
      have hko : k < ops.size := by omega
      have hmem : k ∈ Region.ready .any ops listed := by
        refine mem_ready.2 ⟨by simpa using hk2, ops[k], Array.getElem?_eq_getElem hko, fun e he hb => ?_⟩
        have hlt := (headB_spec hB hkn (Array.getElem?_eq_getElem hko)).1 e he hb
        have := hk3 e.on hlt
        have hsz : e.on < listed.size := by rw [inv.size]; omega
        simp [hsz] at this ⊢; exact this
      rw [h0] at hmem
      cases hmem
    rw [show u + 1 + (ops.size - n) = (u + (ops.size - n)) + 1 by omega]
    refine ⟨fun h0 => absurd h0 hne, fun j hj => ?_⟩
    obtain ⟨hjun, oj, hoj, hedges⟩ := mem_ready.1 hj
    have hjn : j < n := by
      rcases Nat.lt_or_ge j n with h | h
      · exact h
      · exfalso
        have hall := hready listed inv j hj h
        have hpos : 0 < unl n listed := by omega
        obtain ⟨i, hi, hp⟩ := List.countP_pos_iff.1 hpos
        have h1 := hall i (List.mem_range.1 hi)
        have h2 : listed.getD i true = false := by simpa using hp
        rw [getD_true h2] at h1
        cases h1
    obtain ⟨i, hi, rfl⟩ := hget j oj hjn hoj
    have hjs : j < listed.size := by rw [inv.size]; exact (Array.getElem?_eq_some_iff.1 hoj).1
    have inv' := inv.set hj hjn
    have hu' : unl n (listed.setIfInBounds j true) = u := by
      have := unl_set hjs hjun n hjn
      omega
    have hS' : ∀ q, (listed.setIfInBounds j true).getD q false = (listed.getD q false || (q == j)) := by
      intro q
      rw [getD_setT hjs]
      by_cases e : j = q
      · subst e; simp
      · rw [if_neg e]
        have : (q == j) = false := by simpa using Ne.symm e
        simp [this]
    have hSj : listed.getD j false = false := getD_true hjun
    have hmS := mS_set (S := fun q => listed.getD q false) (S' := fun q => (listed.setIfInBounds j true).getD q false) (k := j) hSj hS' L 0 s.mem i hpw (Nat.zero_le _) (by simpa using hi)
    have hvS := fun t => vS_set (S := fun q => listed.getD q false) (S' := fun q => (listed.setIfInBounds j true).getD q false) (k := j) (t := t) hS' L 0 (fget s.fr t) i (Nat.zero_le _) (by simpa using hi) (fun k' i' hk' hlt hd hd' => by
      rw [Nat.zero_add] at hlt ⊢
      obtain ⟨hk'n, hok'⟩ := hinv k' i' hk'
      rcases (headB_spec hB hk'n hok').2 j i.o hlt hoj with ⟨e, he, hb, hon⟩ | hap
      · show listed.getD k' false = false
        cases hs : listed.getD k' false with
        | false => rfl
        | true =>
          have := inv.closed k' i'.o hok' hs e he hb
          rw [hon, hSj] at this
          cases this
      · exact absurd hd ((Oper.apart_spec hap).2.1 t hd'))
    obtain ⟨frj, Fj, hfl, hfv, hg, hq, hno, hle⟩ := chain_at 0 j i hC (Nat.zero_le _) (by simpa using hi)
    -- what the operation looks at
    have hlook : ∀ t, t ∈ i.o.looksAt ops → t < s.fr.length → fget frj t = vS (fun q => listed.getD q false) t L 0 (fget s.fr t) := by
      intro t ht htl
      rw [hfv t htl]
      exact (agree hB hL inv hjn hoj hjun hedges ht _).symm
    have hlookR : ∀ d, d ∈ i.o.looksAt ops → (∃ v, a.tmps[d]? = some v ∧ VRel w (Bad X0 (mS (fun q => listed.getD q false) L 0 s.mem) m) (mS (fun q => listed.getD q false) L 0 s.mem) m (fget frj d) v) ∨ fget frj d = .any := by
      intro d hd
      by_cases hlt : d < s.fr.length
      · left
        have hlt2 : d < a.tmps.size := by rw [D.size]; exact hlt
        refine ⟨a.tmps[d], Array.getElem?_eq_getElem hlt2, ?_⟩
        rw [hlook d hd hlt]
        exact D.fr d _ (Array.getElem?_eq_getElem hlt2)
      · exact .inr (fget_out (by rw [hfl]; exact Nat.le_of_not_lt hlt))
    have hwant := wanted_of_gfact hg hlookR
    have hput : ∀ (m' : Map) (v : Value) (w' : World), Core w0 X0 ((mS (fun q => listed.getD q false) L 0 s.mem).add i.n) m' w' →
        (∀ (x : AVal) (u : Value), VRel w (Bad X0 (mS (fun q => listed.getD q false) L 0 s.mem) m) (mS (fun q => listed.getD q false) L 0 s.mem) m x u → VRel w' (Bad X0 ((mS (fun q => listed.getD q false) L 0 s.mem).add i.n) m') ((mS (fun q => listed.getD q false) L 0 s.mem).add i.n) m' x u) →
        VRel w' (Bad X0 ((mS (fun q => listed.getD q false) L 0 s.mem).add i.n) m') ((mS (fun q => listed.getD q false) L 0 s.mem).add i.n) m' i.x v →
        wpAny P .any ops Q (u + (ops.size - n)) (listed.setIfInBounds j true) (a.put i.o.dst v) w' := by
      intro m' v w' hC' hmono hv
      refine ih _ m' _ w' hu' inv' ⟨by rw [hmS]; exact hC', by rw [put_size]; exact D.size, fun t u' hu => ?_, by cases i.o.dst <;> exact D.defers⟩
      rw [hmS, hvS t]
      rcases put_get hu with ⟨hd, rfl⟩ | ⟨hd, hu⟩
      · rw [show (i.o.dst == some t) = true by simp [hd]]
        exact hv
      · rw [show (i.o.dst == some t) = false by simpa using hd]
        exact hmono _ _ (D.fr t u' hu)
    unfold wpOp
    simp only [hoj]
    rw [hwant]
    cases hyes : i.yes with
    | false =>
      rw [if_neg (by simp)]
      obtain ⟨hx, hnn⟩ := hno hyes
      refine hput m undef w (by rw [hnn]; exact D.core) (fun x u h => by rw [hnn]; exact h) ?_
      rw [hx]
      exact undef_rel _ _
    | true =>
      rw [if_pos rfl]
      left
      obtain ⟨x, nn, ⟨rfl, rfl⟩, hd⟩ := pin_dop (lk' := e.mem.loc) (rk' := e.mem.row) hle.1 hle.2 _ (hq hyes)
      have hle2 := chain_mS (S := fun q => listed.getD q false) 0 hC (MLe.refl s.mem)
      have hfresh : Fresh (mS (fun q => listed.getD q false) L 0 s.mem) i.n := by
        refine mS_fresh L 0 s.mem (hfr0 i (List.mem_of_getElem? hi)) fun k i' hk hs => ?_
        rw [Nat.zero_add] at hs
        have hkj : k ≠ j := by intro e; subst e; rw [hSj] at hs; cases hs
        obtain ⟨hk1, hk2⟩ := List.getElem?_eq_some_iff.1 hk
        obtain ⟨hj1, hj2⟩ := List.getElem?_eq_some_iff.1 hi
        rcases Nat.lt_or_gt_of_ne hkj with h | h
        · have := List.pairwise_iff_getElem.1 hpw k j hk1 hj1 h
          rw [hk2, hj2] at this
          exact this
        · have := List.pairwise_iff_getElem.1 hpw j k hj1 hk1 h
          rw [hk2, hj2] at this
          exact this.symm
      refine Oper.wp_mono (fun a' w' hp => ?_) (sound_q (Q := Q) (lk := e.mem.loc) (rk := e.mem.row) (ρ := opd frj) hT D.core hle2.1 hle2.2 (i.o.dst.getD 0) (fun x hx => ?_) (fun x nn hh => by rw [hh.2]; exact hfresh) (dop_q hd))
      · obtain ⟨x, nn, v, m', ⟨rfl, rfl⟩, rfl, C', g, hv⟩ := hp
        exact hput m' v w' C' (fun x u h => g.vrel D.core.xlt h) hv
      · cases x with
        | const c => exact crel_cOf _ _ _ _ c
        | global g => trivial
        | func f => exact ⟨[], rfl, rfl, fun i u h => by simp at h⟩
        | tmp t =>
          have ht : t ∈ i.o.looksAt ops := List.mem_append_left _ (List.mem_filterMap.2 ⟨.tmp t, hx, rfl⟩)
          rcases hlookR t ht with ⟨v, hv1, hv2⟩ | hany
          · have e1 : a.eval (.tmp t) = v := by simp [Act.eval, hv1]
            rw [e1]; exact hv2
          · show VRel _ _ _ _ (fget frj t) _
            rw [hany]; trivial

/-- A REGION THAT DRAWS ITS ORDER, as if in text order. -/
theorem draw_intro (hT : TyAll P T) (hm : P.follows .mixedOrders = true) (n : Nat) {l : List Oper} (hB : drawB l.toArray n = true) (h : dseq P T l (l.take n) s fun s' => seqops P T l (l.drop n) s' K) : SemDraw P l.toArray s K := by
  intro id w0 X0 m a w Q hQ R
  unfold drawB at hB
  simp only [Bool.and_eq_true, Bool.or_eq_true, decide_eq_true_eq] at hB
  obtain ⟨⟨hhead, htail⟩, hseq⟩ := hB
  have hn : n ≤ l.toArray.size := by rcases htail with h | h <;> omega
  obtain ⟨L, e, hL, hK, hC⟩ := chain_of_dseq _ h
  have inv0 : HeadInv .any l.toArray n (Array.replicate l.toArray.size false) :=
    ⟨by simp, fun j oj _ hl => (by rw [getD_replicate_false] at hl; cases hl), fun t _ ht => getD_in (by simpa using ht) (getD_replicate_false _ _)⟩
  have hu0 : unl n (Array.replicate l.toArray.size false) = n := by
    unfold unl
    rw [List.countP_eq_length.2 (fun i hi => ?_), List.length_range]
    have hi := List.mem_range.1 hi
    have : i < l.toArray.size := by omega
    simp at this
    simp [this]
  refine wp_region_any hm ?_
  have H := draw_any (Q := Q) (ops := l.toArray) (n := n) (L := L) (s := s) (e := e) (w0 := w0) (X0 := X0) hT hhead hn ?_ (by simpa using hL) (by simpa using hC) (fun m' a' w' R' => ?_) n (Array.replicate l.toArray.size false) m a { w with drawn := w.drawn + 1 } hu0 inv0 ?_
  · rw [show n + (l.toArray.size - n) = l.toArray.size by omega] at H
    exact H
  · intro listed inv j hj hge i hi
    rcases htail with htail | ⟨⟨hlt, hsink⟩, hchain⟩
    · exfalso
      obtain ⟨_, oj, hoj, _⟩ := mem_ready.1 hj
      have := (Array.getElem?_eq_some_iff.1 hoj).1
      omega
    · -- only the first of the tail can be ready
      obtain ⟨hjun, oj, hoj, hedges⟩ := mem_ready.1 hj
      have hjsz := (Array.getElem?_eq_some_iff.1 hoj).1
      have hjn : j = n := by
        rcases Nat.lt_or_ge n j with h | h
        · exfalso
          have h1 := List.all_eq_true.1 hchain j (List.mem_range.2 hjsz)
          simp only [Bool.or_eq_true, decide_eq_true_eq] at h1
          rcases h1 with h1 | h1
          · omega
          · obtain ⟨oj', hoj', e', he, hb, hon⟩ := Region.waitsFor_spec h1
            rw [hoj] at hoj'
            cases hoj'
            have h2 := hedges e' he hb
            rw [hon] at h2
            have h3 := inv.tail (j - 1) (by omega) (by omega)
            rw [getD_true h3] at h2
            cases h2
        · omega
      subst hjn
      have key : ∀ d i, j - i = d → i < j → listed.getD i false = true := by
        intro d
        induction d using Nat.strongRecOn with
        | _ d ih =>
          intro i hd hi
          have h1 := List.all_eq_true.1 hsink i (List.mem_range.2 hi)
          obtain ⟨k, hk, hw⟩ := List.any_eq_true.1 h1
          simp only [Bool.and_eq_true, decide_eq_true_eq] at hw
          have hk := List.mem_range.1 hk
          obtain ⟨ok, hok, e', he, hb, hon⟩ := Region.waitsFor_spec hw.2
          by_cases hkj : k = j
          · subst hkj
            rw [hoj] at hok
            cases hok
            rw [← hon]; exact hedges e' he hb
          · have h2 := ih (j - k) (by omega) k rfl (by omega)
            rw [← hon]; exact inv.closed k ok hok h2 e' he hb
      exact key _ i rfl hi
  · have hw := sound_seqops (P := P) (w0 := w0) (X0 := X0) (Q := Q) hT (fun s m a w R h => hQ s m a w R h) (l.drop n) R' hK
    have h2 := wpAny_of_seq (md := .any) (Q' := Q) (l.drop n) n (Array.replicate n true ++ Array.replicate (l.toArray.size - n) false) a' w' (fun j => by simp [List.getElem?_drop]) (by rw [List.length_drop]; simpa using hseq) hw
    rw [List.length_drop] at h2
    simpa using h2
  · obtain ⟨C, hfr, hd⟩ := R
    have hb : Below w.heap.size w { w with drawn := w.drawn + 1 } := ⟨rfl, rfl, rfl, Nat.le_refl _, fun _ _ => rfl⟩
    have g := grow_below s.mem m hb
    have hSf : ∀ q, (Array.replicate l.toArray.size false).getD q false = false := fun q => getD_replicate_false _ _
    have hmS : mS (fun q => (Array.replicate l.toArray.size false).getD q false) L 0 s.mem = s.mem := by
      have : ∀ (L : List DI) (j : Nat) (F : Mem), mS (fun q => (Array.replicate l.toArray.size false).getD q false) L j F = F := by
        intro L
        induction L with
        | nil => intro j F; rfl
        | cons i L ih => intro j F; unfold mS; rw [hSf j]; exact ih (j + 1) F
      exact this L 0 s.mem
    have hlen := hfr.length
    refine ⟨by rw [hmS]; exact C.of_below hb, by simpa using hlen.symm, fun t v hv => ?_, hd⟩
    rw [hmS, vS_none L 0 _ (fun k i _ _ => hSf _)]
    have := fget_rel t hfr
    rw [List.getD_eq_getElem?_getD] at this
    have hv' : a.tmps.toList[t]? = some v := by simpa using hv
    rw [hv'] at this
    exact g.vrel C.xlt this
end
end Go.Fx

namespace Go.Fx
open Go.RowKit
set_option linter.unusedVariables false

/-- A function that is handed a row (R) and further arguments, and leaves the row as R'; it hands the row back (ret), or nothing. -/
def Mt (P : Program) (g : FuncId) (R : Row) (args : List Av) (ret : Bool) (R' : Row) : Prop :=
  Enters P g ∧ ∀ (w : World) (X : Nat → Prop) (base : Nat) (v : Value) (vs : List Value), (∀ b, X b → b < w.heap.size) → base ≤ w.heap.size → RowRel w (fun b => X b ∨ v.ownBlock = some b) base R v → All2 (ARep w fun b => X b ∨ v.ownBlock = some b) args vs →
    Calls P g (v :: vs).toArray w fun e w' => ∃ v', e = .returned (if ret then v' else .tuple #[]) ∧ (ret = false → v' = v) ∧ w'.os = w.os ∧ w'.tape = w.tape ∧ w'.output = w.output ∧ w.heap.size ≤ w'.heap.size ∧
      (∀ b, b < w.heap.size → v.ownBlock ≠ some b → w'.heap[b]? = w.heap[b]?) ∧ (∀ b, v'.ownBlock = some b → v.ownBlock = some b ∨ w.heap.size ≤ b) ∧ RowRel w' (fun b => X b ∨ v.ownBlock = some b ∨ v'.ownBlock = some b) base R' v'

def mstep (P : Program) (o : Oper) (c : Call) (s : St) (K : St → Prop) : Prop :=
  match c.callee with
  | .value f => match opd s.fr f with
    | .p (.one (.c (.fn g n caps))) => match c.args.toList with
      | x :: rest => match opd s.fr x with
        | .p (.one (.own r ver)) => match lget s.row r with
          | some (ver', R) => match Nat.beq ver ver' with
            | true => match toAvs (lget s.row) (lget s.loc) (opd s.fr) rest with
              | some as => match allb (fun x => plainA (opd s.fr x)) rest with
                | true => ∃ ret R', (ret = false → R'.k = R.k) ∧ Mt P g R (as ++ capsL caps 0 n) ret R' ∧ lsetK s.row r (if ret then ver' + 1 else ver', R') fun row' =>
                    setFr { s with row := row' } o.dst (if ret then .p (.one (.own r (ver' + 1))) else .tup []) K
                | false => False
              | none => False
            | false => False
          | none => False
        | _ => False
      | _ => False
    | _ => False
  | _ => False

section
variable {P : Program} {T : TypeId → Ty} {w0 w : World} {X0 : Nat → Prop} {s : St} {m : Map} {a : Act} {o : Oper} {Q : Exit → Act → World → Prop} {K : St → Prop}

theorem toAvs_plain (C : Core w0 X0 s.mem m w) (hfr : All2 (VRel w (Bad X0 s.mem m) s.mem m) s.fr a.tmps.toList) : ∀ {l : List Operand} {as : List Av}, allb (fun x => plainA (opd s.fr x)) l = true → toAvs (lget s.row) (lget s.loc) (opd s.fr) l = some as →
    All2 (ARep w (Bad X0 s.mem m)) as (l.map a.eval)
  | [], as, _, h => by cases h; trivial
  | x :: l, as, hp, h => by
    unfold allb at hp
    split at hp
    case h_2 => cases hp
    rename_i hx
    unfold toAvs at h
    split at h
    case h_2 => cases h
    rename_i y hy
    split at h
    case h_2 => cases h
    rename_i ys hys
    cases h
    exact ⟨toAv_plain hx hy (opd_rel hfr x), toAvs_plain C hfr hp hys⟩

theorem sound_mstep (R0 : Rel w0 X0 s m a w) {c : Call} (ho : o.op = .call c) (h : mstep P o c s K) : o.wp P a w (SK w0 X0 K) Q := by
  obtain ⟨C, hfr, hd⟩ := R0
  unfold mstep at h
  split at h
  case h_2 => exact h.elim
  rename_i f hcal
  have hf := opd_rel hfr f
  split at h
  case h_2 => exact h.elim
  rename_i g n caps hfe
  rw [hfe] at hf
  obtain ⟨cv, hfv, hcn, hcaps⟩ := hf
  split at h
  case h_2 => exact h.elim
  rename_i x rest hargs
  have hx := opd_rel hfr x
  split at h
  case h_2 => exact h.elim
  rename_i r ver hxe
  rw [hxe] at hx
  obtain ⟨ver0, R1, hrow0, hle, hxp⟩ := hx
  split at h
  case h_2 => exact h.elim
  rename_i ver' R hr
  rw [show s.mem.row r = lget s.row r from rfl, hr] at hrow0
  simp only [Option.some.injEq, Prod.mk.injEq] at hrow0
  obtain ⟨e1, e2⟩ := hrow0
  subst e1 e2
  split at h
  case h_2 => exact h.elim
  rename_i hbeq
  have hbeq := Nat.eq_of_beq_eq_true hbeq
  subst hbeq
  have hxv := hxp rfl
  split at h
  case h_2 => exact h.elim
  rename_i as has
  split at h
  case h_2 => exact h.elim
  rename_i hpl
  obtain ⟨ret, R', hRk, hM, h⟩ := h
  obtain ⟨L', hK, hL⟩ := lsetK_spec h
  have hplain := toAvs_plain (a := a) C hfr hpl has
  have hown : ∀ b, (Bad X0 s.mem m b ∨ (m.rv r).ownBlock = some b) ↔ Bad X0 s.mem m b := fun b => ⟨fun h => h.elim id fun h => .inr (.inr ⟨r, ver, R, hr, h⟩), .inl⟩
  have hfun : (fun b => Bad X0 s.mem m b ∨ (m.rv r).ownBlock = some b) = Bad X0 s.mem m := funext fun b => propext (hown b)
  have hlt : ∀ b, Bad X0 s.mem m b → b < w.heap.size := fun b hb => hb.elim (C.xlt b) fun hb => (C.own_ge hb).2
  have hall : All2 (ARep w (Bad X0 s.mem m)) (as ++ capsL caps 0 n) (rest.map a.eval ++ cv) := hplain.append (capsL_rel n 0 cv hcn (fun j u hj => by rw [Nat.zero_add]; exact hcaps j u hj))
  have hcalls := hM.2 w (Bad X0 s.mem m) w0.heap.size (m.rv r) (rest.map a.eval ++ cv) hlt C.below.size (by rw [hfun]; exact C.row r ver R hr) (by rw [hfun]; exact hall)
  have hexec : (execOp a.eval o).run P w = .ok (.enter g (m.rv r :: (rest.map a.eval ++ cv)).toArray) w := by
    have hE := hM.1 (c.args.map a.eval ++ cv.toArray) w
    have e : c.args.map a.eval ++ cv.toArray = (m.rv r :: (rest.map a.eval ++ cv)).toArray := by
      apply Array.toList_inj.1
      simp [hargs, hxv]
    simp only [execOp, ho, resolve, hcal, hfv, Deferred.ofValue, Sem.run_bind, Sem.run_pure, Result.andThen_ok, invoke, Array.empty_append]
    rw [e] at hE ⊢
    exact hE
  unfold Oper.wp
  rw [hexec, Oper.upon_enter]
  refine Calls.mono hcalls fun e w' he => ?_
  obtain ⟨v', rfl, hv', k1, k2, k3, k4, k5, k6, k7⟩ := he
  show SK w0 X0 K (a.put o.dst _) w'
  obtain ⟨C', g'⟩ := core_setRow (w1 := w') C r ver (if ret then ver + 1 else ver) R R' v' hr (by
    cases ret with
    | true => exact .inl (Nat.lt_succ_self _)
    | false => exact .inr ⟨rfl, hv' rfl, hRk rfl⟩) k4 (fun b hb hn => k5 b hb hn) ⟨k1, k2, k3⟩ k6 (by
    rcases k7 with hn | ⟨g0, o1, cc, cur, q1, q2, q3, q4, q5, q6, q7⟩
    · exact .inl hn
    · refine .inr ⟨g0, o1, cc, cur, q1, q2, q3, q4, q5, q6, fun j x hj i hi => ?_⟩
      obtain ⟨u, hu, hru⟩ := q7 j x hj i hi
      exact ⟨u, hu, hru.sub fun b hb => hb.elim .inl fun hb => .inr (.inr hb)⟩)
  rw [← mem_setRow hL] at C' g'
  refine setFr_rel (s := s) (s' := { s with row := L' }) rfl g' C.xlt C' hfr hd ?_ o.dst hK
  cases ret with
  | true =>
    refine ⟨ver + 1, R', ?_, Nat.le_refl _, fun _ => by simp [Map.setR]⟩
    show lget L' r = _
    rw [hL]; simp
  | false => exact ⟨[], rfl, trivial⟩

theorem mut_intro {c : Call} (ho : o.op = .call c) (h : mstep P o c s K) : SemStep P o s K := fun w0 X0 m a w Q R => sound_mstep R ho h
end
end Go.Fx
