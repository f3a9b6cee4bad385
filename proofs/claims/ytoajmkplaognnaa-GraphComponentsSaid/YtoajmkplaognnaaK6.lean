/- slices.Compact at elements of K cells, over any program whose function bears the library's body. After the worked text of the same function at one cell. slices.Compact at elements of K cells: the walk. The comparison of edges, walked in the library's manner: what it computes, and that it only draws and lays blocks. The sort and the compaction of edges at this program. The first two declarations were written by the kit's laying tool. Sort and compact of edges as calls that write into an own row. The contracts of sort and compact on an own row of edges. Plain: a sorted list without repetitions is told by its members; the edges of a graph in order. -/
import Derived.Shelf.SlLaysN
import Derived.Shelf.SlicesE.Kit
import Derived.Shelf.SlicesE.Equal
import Derived.Shelf.SlicesQ.Reverse
import Derived.Shelf.SlicesQ.Load
import Derived.Shelf.RegionOpenPlain
import Derived.WalkKit
import Derived.Deep.LoopGhost
import Derived.Deep.Draws
import Derived.Lib.Walk
import Derived.Sort.WalkB12
import Derived.Lib.SliceRun
import Derived.Lib.SlicesCompact
import Derived.Test.YtoajmkplaognnaaK4
import Derived.Test.YtoajmkplaognnaaProg
import Derived.Sort.Grow
import Derived.StillTailTactics
import Derived.Deep.RegionWith
import Derived.Shelf.SlSortCmp.WholeK
import Derived.Laws.StructEq
import Derived.Test.YtoajmkplaognnaaK3
import Derived.Shelf.SlSortCmp.NoneTotal
set_option linter.unusedVariables false
set_option linter.unusedSimpArgs false
set_option linter.unusedSectionVars false
namespace Go.Fx
open Go.Proofs Go.Shelf Go.RowKit Go.Lib Go.Sort
variable {P : Program} {ρ : Ren} {α : Type} [Inhabited α] [DecidableEq α]

/-- The cells that 'clear' lays at K cells. -/
def zcells (cs : List Value) (n : Nat) : List Value := (Builtin.zeroCells cs.toArray n).toList

omit [DecidableEq α] in
theorem zcells_length (cs : List Value) (n : Nat) : (zcells cs n).length = n * cs.length := by simp [zcells, Builtin.zeroCells]
omit [DecidableEq α] in
theorem zcells_get (cs : List Value) (n t : Nat) (h : t < n * cs.length) : (zcells cs n)[t]! = cs[t % cs.length]! := by
  have : t < (zcells cs n).length := by rw [zcells_length]; exact h
  rw [getElem!_pos (zcells cs n) t this]
  simp [zcells, Builtin.zeroCells]

theorem run_clear_K (w : World) (t e ty : TypeId) (cs : List Value) (ht : P.underlying t = some (.slice e)) (hv : ∀ w, (zeroValue e).run P w = .ok (.agg cs.toArray) w) (h1 : ∀ v ∈ cs, v.oneCell' = true) (b o n c : Nat) (hn : 0 < n)
    (hc : ∀ j, j < n * cs.length → (w.cell? ⟨b, o + j, none⟩).isSome = true) (hf : ∀ j, j < n * cs.length → w.frozen? ⟨b, o + j, none⟩ = false) :
    (Builtin.clear_ #[t] ty #[.slice (some ⟨b, o, none⟩) n c]).run P w = .ok (.tuple #[]) (w.setCells b o (zcells cs n)) := by
  have hall : ∀ v ∈ zcells cs n, v.oneCell' = true := by
    intro v hv'
    obtain ⟨i, hi, rfl⟩ := List.getElem_of_mem hv'
    have hi' : i < n * cs.length := by rw [zcells_length] at hi; exact hi
    have h0 : 0 < cs.length := by rcases Nat.eq_zero_or_pos cs.length with h | h
                                  · rw [h] at hi'; simp at hi'
                                  · exact h
    have := zcells_get cs n i hi'
    rw [getElem!_pos (zcells cs n) i hi] at this
    have hm := Nat.mod_lt i h0
    rw [this, getElem!_pos cs _ hm]
    exact h1 _ (List.getElem_mem hm)
  have hst := run_storeCells_cells (P := P) b o (zcells cs n) 0 w (by rw [zcells_length]; simpa using hc) (by rw [zcells_length]; simpa using hf) hall
  simp only [Nat.add_zero] at hst
  obtain ⟨m, rfl⟩ : ∃ m, n = m + 1 := ⟨n - 1, by omega⟩
  unfold zcells at hst ⊢
  simp [Builtin.clear_, run_underlying ht, hv, Value.cells, hst]

omit [DecidableEq α] in
theorem setMany_set (enc : α → List Value) (k : Nat) (hk : ∀ x, (enc x).length = k) (d : Array α) (i : Nat) (x : α) (hi : i < d.size) :
    setMany (flatK enc k d) (i * k) (enc x) = flatK enc k (d.setIfInBounds i x) := by
  refine ext_get! (by simp) fun t ht => ?_
  have ht' : t < d.size * k := by simpa using ht
  have k0 : 0 < k := by rcases Nat.eq_zero_or_pos k with h | h
                        · subst h; simp at ht'
                        · exact h
  have hq : t / k < d.size := Nat.div_lt_of_lt_mul (by rw [Nat.mul_comm]; exact ht')
  rw [get_setMany _ _ _ t (by simpa using ht'), get_flatK _ _ _ t ht', get_flatK _ _ _ t (by simpa using ht'), hk]
  by_cases a : t / k = i
  · rw [if_pos ((blk_iff k i t k0).2 a)]
    have : t - i * k = t % k := by subst a; rw [Nat.mod_eq_sub_div_mul]
    rw [this, a]
    congr 1
    simp [hi]
  · rw [if_neg (fun h => a ((blk_iff k i t k0).1 h))]
    congr 2
    simp [hq, Ne.symm a]

omit [DecidableEq α] in
theorem setMany_clear (enc : α → List Value) (k : Nat) (hk : ∀ x, (enc x).length = k) (d : Array α) (kk : Nat) (z : α) (hkk : kk ≤ d.size) :
    setMany (flatK enc k d) (kk * k) (zcells (enc z) (d.size - kk)) = flatK enc k (lay d kk (List.replicate (d.size - kk) z)) := by
  have hs : (lay d kk (List.replicate (d.size - kk) z)).size = d.size := by
    have : ∀ (xs : List α) (d : Array α) (k : Nat), (lay d k xs).size = d.size := by
      intro xs
      induction xs with
      | nil => intro d k; rfl
      | cons x r ih => intro d k; rw [lay, ih]; simp
    exact this _ _ _
  refine ext_get! (by simp [hs]) fun t ht => ?_
  have ht' : t < d.size * k := by simpa using ht
  have k0 : 0 < k := by rcases Nat.eq_zero_or_pos k with h | h
                        · subst h; simp at ht'
                        · exact h
  have hq : t / k < d.size := Nat.div_lt_of_lt_mul (by rw [Nat.mul_comm]; exact ht')
  have hmul : (d.size - kk) * k = d.size * k - kk * k := Nat.sub_mul _ _ _
  have hle : kk * k ≤ d.size * k := Nat.mul_le_mul_right k hkk
  rw [get_setMany _ _ _ t (by simpa using ht'), get_flatK _ _ _ t ht', get_flatK _ _ _ t (by rw [hs]; exact ht'), zcells_length, hk]
  have hl := lay_get? (List.replicate (d.size - kk) z) d kk (t / k) (by simp; omega)
  simp only [List.length_replicate] at hl
  have hget : (lay d kk (List.replicate (d.size - kk) z))[t / k]! = if kk ≤ t / k ∧ t / k < kk + (d.size - kk) then z else d[t / k]! := by
    rw [getElem!_pos _ _ (by rw [hs]; exact hq)]
    rw [Array.getElem?_eq_getElem (by rw [hs]; exact hq)] at hl
    by_cases a : kk ≤ t / k ∧ t / k < kk + (d.size - kk)
    · rw [if_pos a] at hl ⊢
      rw [List.getElem?_replicate, if_pos (by omega)] at hl
      exact Option.some.inj hl
    · rw [if_neg a] at hl ⊢
      rw [Array.getElem?_eq_getElem hq] at hl
      rw [getElem!_pos d _ hq]
      exact Option.some.inj hl
  rw [hget]
  by_cases a : kk ≤ t / k
  · have a' : kk * k ≤ t := by
      have := Nat.mul_le_mul_right k a
      have h2 := Nat.div_mul_le_self t k
      omega
    rw [if_pos ⟨a', by omega⟩, if_pos ⟨a, by omega⟩, zcells_get _ _ _ (by rw [hk]; omega), hk]
    congr 1
    obtain ⟨u, rfl⟩ : ∃ u, t = kk * k + u := ⟨t - kk * k, by omega⟩
    rw [Nat.add_sub_cancel_left, Nat.add_comm, Nat.add_mul_mod_self_right]
  · have a' : ¬ kk * k ≤ t := by
      intro h
      exact a ((Nat.le_div_iff_mul_le k0).2 h)
    rw [if_neg (by omega), if_neg (by omega)]

omit [DecidableEq α] in
theorem lay_size (xs : List α) : ∀ (d : Array α) (k : Nat), (lay d k xs).size = d.size := by
  induction xs with
  | nil => intro d k; rfl
  | cons x r ih => intro d k; rw [lay, ih]; simp
end Go.Fx

namespace Go.Fx
open Go.Proofs Go.Shelf Go.RowKit Go.Lib Go.Sort
variable {P : Program} {ρ : Ren} {α : Type} [Inhabited α] [DecidableEq α]

omit [DecidableEq α] in
theorem store_world_K (enc : α → List Value) (k : Nat) (hk : ∀ x, (enc x).length = k) {w wr : World} {n blk off : Nat} {dk : Array α} {i : Nat} (hi : i < dk.size) (hwr : wr = putRowK enc k (Sort.ahead w n) blk off dk) (m : Nat) (x : α) :
    (wr.drewN m).setCells blk (off + i * k) (enc x) = putRowK enc k (Sort.ahead w (n + m)) blk off (dk.setIfInBounds i x) := by
  subst hwr
  have b : i * k + k ≤ dk.size * k := by
    have := Nat.mul_le_mul_right k (show i + 1 ≤ dk.size from hi); rwa [Nat.add_mul, Nat.one_mul] at this
  unfold putRowK
  rw [Go.Proofs.putRow_drewN, setCells_putRow _ _ _ _ _ _ (by rw [hk, size_flatK]; exact b), setMany_set enc k hk dk i x hi]

set_option maxHeartbeats 4000000 in
set_option maxRecDepth 1000000 in
theorem compactK (mixed : P.follows .mixedOrders = true) (f43 : Bears P (ρ.f 43) (SlBodyN.n43 ρ))
    (t0 : P.underlying (ρ.t 0) = some (TypeDesc.tuple #[])) (a0 : ∀ w, (isAgg (ρ.t 0)).run P w = .ok false w) (z0 : ∀ w, (Go.sizeOf (ρ.t 0)).run P w = .ok 1 w) (v0 : ∀ w, (zeroValue (ρ.t 0)).run P w = .ok (Value.tuple #[]) w)
    (t3 : P.underlying (ρ.t 3) = some (TypeDesc.int IntKind.i64)) (a3 : ∀ w, (isAgg (ρ.t 3)).run P w = .ok false w) (z3 : ∀ w, (Go.sizeOf (ρ.t 3)).run P w = .ok 1 w) (v3 : ∀ w, (zeroValue (ρ.t 3)).run P w = .ok (Value.int IntKind.i64 0) w)
    (t4 : P.underlying (ρ.t 4) = some (TypeDesc.bool)) (a4 : ∀ w, (isAgg (ρ.t 4)).run P w = .ok false w) (z4 : ∀ w, (Go.sizeOf (ρ.t 4)).run P w = .ok 1 w) (v4 : ∀ w, (zeroValue (ρ.t 4)).run P w = .ok (Value.bool false) w)
    (t22 : P.underlying (ρ.t 22) = some (TypeDesc.slice (ρ.t 23))) (a22 : ∀ w, (isAgg (ρ.t 22)).run P w = .ok false w) (z22 : ∀ w, (Go.sizeOf (ρ.t 22)).run P w = .ok 1 w) (v22 : ∀ w, (zeroValue (ρ.t 22)).run P w = .ok (Value.slice none 0 0) w)
    (k : Nat) (aE : ∀ w, (isAgg (ρ.t 23)).run P w = .ok true w) (zE : ∀ w, (Go.sizeOf (ρ.t 23)).run P w = .ok k w) (enc : α → List Value) (hk : ∀ x, (enc x).length = k) (h1 : ∀ x, ∀ v ∈ enc x, v.oneCell' = true)
    (heq : EqlAt P (ρ.t 23) (fun x => .agg (enc x).toArray) (fun x y => decide (x = y))) (hne : NeqAt P (ρ.t 23) (fun x => .agg (enc x).toArray) (fun x y => decide (x = y)))
    (zr : α) (v23 : ∀ w, (zeroValue (ρ.t 23)).run P w = .ok (.agg (enc zr).toArray) w) (blk off cap : Nat) (d : Array α) (w : World) (hH : HoldsK enc k w blk off d) (hsz : d.size ≤ 9223372036854775807) (hcap : d.size ≤ cap) :
    Calls P (ρ.f 43) #[.slice (some ⟨blk, off, none⟩) d.size cap] w fun e w' => e = .returned (.slice (some ⟨blk, off, none⟩) (compactUpTo d d.size).length cap) ∧ ∃ q, w' = putRowK enc k (Sort.ahead w q) blk off (compactUpTo d d.size ++ List.replicate (d.size - (compactUpTo d d.size).length) zr).toArray := by
  have heq' : ∀ (x y : α) (w : World), Sem.run P (binOp .eql (ρ.t 23) (.agg (enc x).toArray) (.agg (enc y).toArray)) w = .ok (.bool (decide (x = y))) w := heq.1
  have hne' : ∀ (x y : α) (w : World), Sem.run P (binOp .neq (ρ.t 23) (.agg (enc x).toArray) (.agg (enc y).toArray)) w = .ok (.bool (!decide (x = y))) w := hne.1
  have hgd' : ∀ (op : BinOp) (a b : Operand) (x y : α) (w : World), Sem.run P (eqGuard op (ρ.t 23) a b (.agg (enc x).toArray) (.agg (enc y).toArray)) w = .ok () w := hne.2
  have same : ∀ q, (∀ j, j < d.size → keeps d j = true) → (compactUpTo d d.size).length = d.size ∧ w.drewN q = putRowK enc k (Sort.ahead w q) blk off (compactUpTo d d.size ++ List.replicate (d.size - (compactUpTo d d.size).length) zr).toArray := by
    intro q hall
    have e : compactUpTo d d.size = d.toList := by rw [compactUpTo_all d _ hall, range_map_get]
    rw [e]
    refine ⟨by simp, ?_⟩
    simp only [Array.length_toList, Nat.sub_self, List.replicate_zero, List.append_nil, Array.toArray_toList]
    exact (putRowK_self enc k (Sort.ahead w q) blk off d (holdsK_ahead enc k w q blk off d hH)).symm
  have HS : Aside (∀ q, (∀ j, j < d.size → keeps d j = true) → (compactUpTo d d.size).length = d.size ∧ w.drewN q = putRowK enc k (Sort.ahead w q) blk off (compactUpTo d d.size ++ List.replicate (d.size - (compactUpTo d d.size).length) zr).toArray) := same
  have HK : Hid (∀ x, (enc x).length = k) := hk
  have H1 : Hid (∀ x, ∀ v ∈ enc x, v.oneCell' = true) := h1
  have HH : Hid (HoldsK enc k w blk off d) := hH
  clear same hk h1 hH
  by_cases h2 : d.size < 2
  · obtain ⟨_, _, FG⟩ := f43
    go_enter FG, SlBodyN.n43_ntmps ρ
    go_wp2
    go_ret
    obtain ⟨e1, e2⟩ := HS.out 0 (fun j hj => keeps_lt_one d j (by omega))
    exact ⟨by rw [e1]; rfl, 0, e2⟩
  · obtain ⟨_, _, FG⟩ := f43
    go_enter FG, SlBodyN.n43_ntmps ρ
    go_wp2
    go_loopg [3] d.size (fun g s3 wr => ∃ i q : Nat, 1 ≤ i ∧ i ≤ d.size ∧ d.size - i ≤ g ∧ s3 = .int .i64 i ∧ wr = w.drewN q ∧ Hid (∀ j, j < i → keeps d j = true))
    case atStart => exact ⟨1, 0, Nat.le_refl _, by omega, by omega, rfl, rfl, keeps_lt_one d⟩
    case round =>
      obtain ⟨i, q, hi1, hi, hg, rfl, rfl, A⟩ := hrel
      by_cases hlt : i < d.size
      · obtain ⟨ip, rfl⟩ : ∃ ip, i = ip + 1 := ⟨i - 1, by omega⟩
        have l1 : ∀ m, Sem.run P (loadCellsFrom ⟨blk, off + (ip + 1) * k, none⟩ 0 k #[]) ((w.drewN q).drewN m) = .ok (enc d[ip + 1]!).toArray ((w.drewN q).drewN m) := fun m => run_loadCellsFrom_list P _ _ _ k (HK.out _) (HoldsK.cells (W := (w.drewN q).drewN m) (holdsK_ahead enc k w (q + m) blk off d HH.out) HK.out hlt)
        have l0 : ∀ m, Sem.run P (loadCellsFrom ⟨blk, off + ip * k, none⟩ 0 k #[]) ((w.drewN q).drewN m) = .ok (enc d[ip]!).toArray ((w.drewN q).drewN m) := fun m => run_loadCellsFrom_list P _ _ _ k (HK.out _) (HoldsK.cells (W := (w.drewN q).drewN m) (holdsK_ahead enc k w (q + m) blk off d HH.out) HK.out (by omega))
        generalize hx : d[ip + 1]! = x at l1
        generalize hy : d[ip]! = y at l0
        have B : Aside (d[ip + 1]! = x ∧ d[ip]! = y) := ⟨hx, hy⟩
        clear hx hy
        have hwp : IntKind.i64.wrap (ip : Int) = (ip : Int) := by rw [IntKind.wrap_i64]; omega
        have jz : (ip : Int) + 1 < (d.size : Int) := by omega
        have jz1 : (ip : Int) < (d.size : Int) := by omega
        have e0 : ((ip : Int) + 1).toNat = ip + 1 := by omega
        have p0 : (0 : Int) ≤ (ip : Int) + 1 := by omega
        have WQ : Hid (∃ wq, wq = w.drewN q) := ⟨_, rfl⟩
        generalize hwq : w.drewN q = wq at l1 l0 ⊢
        have HWQ : Hid (w.drewN q = wq) := hwq
        clear hwq
        by_cases hdup : x = y
        · subst hdup
          go_wp2_with fail
          go_quiet_o (fail)
          go_wp2
          go_loopg [3, 5] d.size (fun g s3 s5 wr => ∃ (kk k2 q2 : Nat) (dk : Array α), s3 = .int .i64 kk ∧ s5 = .int .i64 k2 ∧ 1 ≤ k2 ∧ ip + 1 + k2 ≤ d.size ∧ d.size - (ip + 1 + k2) ≤ g ∧ kk ≤ ip + k2 ∧ dk.size = d.size ∧ Hid (wr = putRowK enc k (Sort.ahead w q2) blk off dk) ∧ Hid (CompInv d (ip + 1 + k2) kk dk))
          case atStart =>
            refine ⟨ip + 1, 1, q + nq, d, rfl, rfl, Nat.le_refl _, by omega, by omega, by omega, rfl, (show Hid _ from ?_), CompInv.start A.out (keeps_neg (by omega) (by rw [B.out.1]; exact B.out.2.symm))⟩
            show _ = _
            rw [← HWQ.out, World.drewN_drewN]
            exact (putRowK_self enc k (Sort.ahead w (q + nq)) blk off d (holdsK_ahead enc k w (q + nq) blk off d HH.out)).symm
          case round =>
            obtain ⟨kk, k2, q2, dk, rfl, rfl, hk21, hle, hg2, hkk, hds, W2, I2⟩ := hrel
            have hHk : HoldsK enc k wr blk off dk := by rw [W2.out]; exact holdsK_putRowK enc k _ blk off d dk (holdsK_ahead enc k w q2 blk off d HH.out) hds
            clear l1 l0
            by_cases hlt2 : ip + 1 + k2 < d.size
            · obtain ⟨kp, rfl⟩ : ∃ kp, k2 = kp + 1 := ⟨k2 - 1, by omega⟩
              have off1 : off + (ip + 1) * k + (kp + 1) * k = off + (ip + 1 + (kp + 1)) * k := by rw [Nat.add_mul (ip + 1) (kp + 1) k]; omega
              have off0 : off + (ip + 1) * k + kp * k = off + (ip + 1 + kp) * k := by rw [Nat.add_mul (ip + 1) kp k]; omega
              have m1 : ∀ m, Sem.run P (loadCellsFrom ⟨blk, off + (ip + 1) * k + (kp + 1) * k, none⟩ 0 k #[]) (wr.drewN m) = .ok (enc d[ip + 1 + (kp + 1)]!).toArray (wr.drewN m) := fun m => by
                rw [off1, ← I2.out.high (ip + 1 + (kp + 1)) (by omega)]
                exact run_loadCellsFrom_list P _ _ _ k (HK.out _) (HoldsK.cells (W := wr.drewN m) hHk HK.out (by omega))
              have m0 : ∀ m, Sem.run P (loadCellsFrom ⟨blk, off + (ip + 1) * k + kp * k, none⟩ 0 k #[]) (wr.drewN m) = .ok (enc d[ip + 1 + kp]!).toArray (wr.drewN m) := fun m => by
                rw [off0, ← I2.out.high (ip + 1 + kp) (by omega)]
                exact run_loadCellsFrom_list P _ _ _ k (HK.out _) (HoldsK.cells (W := wr.drewN m) hHk HK.out (by omega))
              have bk : kk * k + k ≤ dk.size * k := by
                have := Nat.mul_le_mul_right k (show kk + 1 ≤ dk.size by omega); rwa [Nat.add_mul, Nat.one_mul] at this
              have st : ∀ m, Sem.run P (storeCells ⟨blk, off + kk * k, none⟩ (enc d[ip + 1 + (kp + 1)]!) 0) (wr.drewN m) = .ok () ((wr.drewN m).setCells blk (off + kk * k) (enc d[ip + 1 + (kp + 1)]!)) := fun m =>
                stores_of_holds P (W := wr.drewN m) hHk (kk * k) _ (by rw [HK.out, size_flatK]; exact bk) (H1.out _)
              generalize hu : d[ip + 1 + (kp + 1)]! = u at m1 st
              generalize hv : d[ip + 1 + kp]! = v at m0
              have C : Aside (d[ip + 1 + (kp + 1)]! = u ∧ d[ip + 1 + kp]! = v) := ⟨hu, hv⟩
              clear hu hv hHk bk off1 off0
              have hwp2 : IntKind.i64.wrap (kp : Int) = (kp : Int) := by rw [IntKind.wrap_i64]; omega
              have jy : (kp : Int) + 1 < (d.size : Int) - (ip + 1) := by omega
              have ju : (kp : Int) + 1 < ((d.size - (ip + 1) : Nat) : Int) := by omega
              have ju1 : (kp : Int) < ((d.size - (ip + 1) : Nat) : Int) := by omega
              have jk : (kk : Int) < (d.size : Int) := by omega
              have hsu : (enc u).length = k := HK.out _
              have ez : ((kp : Int) + 1).toNat = kp + 1 := by omega
              have pz : (0 : Int) ≤ (kp : Int) + 1 := by omega
              by_cases huv : u = v
              · subst huv
                go_wp2_with fail
                go_quiet_o (fail)
                go_wp2
                go_roundg (d.size - (ip + 1 + (kp + 1 + 1)))
                case measure => omega
                case rel =>
                  refine ⟨kk, kp + 1 + 1, q2 + nq, dk, rfl, by go_num, by omega, by omega, Nat.le_refl _, by omega, hds, (show Hid _ from ?_), I2.out.skip (keeps_neg (by omega) (by rw [C.out.1]; exact C.out.2.symm))⟩
                  show _ = _
                  rw [W2.out, putRowK_drewN]
              · go_wp2_with fail
                go_quiet_o (fail)
                go_wp2
                go_roundg (d.size - (ip + 1 + (kp + 1 + 1)))
                case measure => omega
                case rel =>
                  refine ⟨kk + 1, kp + 1 + 1, q2 + nq, dk.setIfInBounds kk u, by go_num, by go_num, by omega, by omega, Nat.le_refl _, by omega, by rw [Array.size_setIfInBounds]; exact hds, (show Hid _ from ?_), (show Hid _ from ?_)⟩
                  · show _ = _
                    exact store_world_K enc k HK.out (by omega) W2.out nq u
                  · have := I2.out.keep hlt2 (keeps_pos (by rw [C.out.1]; intro h; exact huv (h.trans C.out.2)))
                    rw [C.out.1] at this
                    exact this
            · have hend : ip + 1 + k2 = d.size := by omega
              have bz : kk * k + (d.size - kk) * k = d.size * k := by rw [← Nat.add_mul]; congr 1; omega
              have hcl : ∀ ty, (Builtin.clear_ #[ρ.t 22] ty #[.slice (some ⟨blk, off + kk * k, none⟩) (d.size - kk) (cap - kk)]).run P wr = .ok (.tuple #[]) (wr.setCells blk (off + kk * k) (zcells (enc zr) (d.size - kk))) :=
                fun ty => run_clear_K wr _ _ ty _ t22 v23 (H1.out zr) blk (off + kk * k) _ _ (by omega)
                  (fun j hj => by
                    rw [HK.out] at hj
                    rw [Nat.add_assoc, (hHk (kk * k + j) (by rw [size_flatK, hds]; omega)).1]; rfl)
                  (fun j hj => by
                    rw [HK.out] at hj
                    rw [Nat.add_assoc]; exact (hHk (kk * k + j) (by rw [size_flatK, hds]; omega)).2)
              have hc1 : kk ≤ cap := by omega
              have hc2 : kk ≤ d.size := by omega
              have hj0 : ¬ (k2 : Int) < ((d.size - (ip + 1) : Nat) : Int) := by omega
              have BZ : Hid (kk * k + (d.size - kk) * k = d.size * k) := bz
              clear hHk bz
              go_wp2
              go_ret
              have hI := I2.out
              rw [hend] at hI
              refine ⟨by rw [hI.len]; rfl, q2, ?_⟩
              have hd1 := hI.done zr
              rw [hI.len, ← hd1, W2.out]
              unfold putRowK
              rw [setCells_putRow _ _ _ _ _ _ (by rw [zcells_length, HK.out, size_flatK, hds]; exact Nat.le_of_eq BZ.out), ← hds, setMany_clear enc k HK.out dk kk zr (by omega)]
        · go_wp2_with fail
          go_quiet_o (fail)
          go_wp2
          go_roundg (d.size - (ip + 1 + 1))
          case measure => omega
          case rel =>
            refine ⟨ip + 1 + 1, q + nq, by omega, by omega, Nat.le_refl _, by go_num, by rw [← HWQ.out, World.drewN_drewN], (show Hid _ from fun j hj => ?_)⟩
            by_cases e : j = ip + 1
            · subst e
              exact keeps_pos (by rw [B.out.1]; intro h; exact hdup (h.trans B.out.2))
            · exact A.out j (by omega)
      · have : i = d.size := by omega
        subst this
        go_wp2
        go_ret
        obtain ⟨e1, e2⟩ := HS.out q A.out
        exact ⟨by rw [e1]; rfl, q, e2⟩
end Go.Fx

namespace Go.Fx
open Go.Proofs Go.RowKit Go.Sort

set_option maxHeartbeats 1000000 in
theorem w122 (x : Int) (W : World) : Calls Try.prog 122 #[.int .i64 x] W fun e w' => e = .returned (.bool false) ∧ w' = W := by
  go_enter Try.func122, Try.ntmps122
  go_wp2
  go_ret
  simp

set_option maxHeartbeats 1000000 in
theorem w106 (x y : Int) (W : World) : Calls Try.prog 106 #[.int .i64 x, .int .i64 y] W fun e w' => e = .returned (.int .i64 (icmp x y)) ∧ w' = W := by
  have hcon := w122
  generalize hr : icmp x y = r
  have HR : Hid (icmp x y = r) := hr
  clear hr
  go_enter Try.func106, Try.ntmps106
  by_cases h1 : x < y
  · go_wp2_with (go_at_call 122; refine (hcon _ _).mono ?_; rintro e w' ⟨rfl, rfl⟩)
    go_ret
    refine ⟨?_, rfl⟩
    rw [← HR.out]; simp [icmp, h1]
  · by_cases h2 : y < x
    · go_wp2_with (go_at_call 122; refine (hcon _ _).mono ?_; rintro e w' ⟨rfl, rfl⟩)
      go_ret
      refine ⟨?_, rfl⟩
      rw [← HR.out]; simp [icmp, h1, h2]
    · go_wp2_with (go_at_call 122; refine (hcon _ _).mono ?_; rintro e w' ⟨rfl, rfl⟩)
      go_ret
      refine ⟨?_, rfl⟩
      rw [← HR.out]; unfold icmp; split
      · omega
      · split
        · omega
        · rfl

set_option maxHeartbeats 1000000 in
theorem w105 (x y : Int) (b : Nat) (W : World) (h0 : W.cell? ⟨b, 0, none⟩ = some (.int .i64 x)) (h1 : W.cell? ⟨b, 1, none⟩ = some (.int .i64 y)) :
    Calls Try.prog 105 #[.slice (some ⟨b, 0, none⟩) 2 2] W fun e w' => e = .returned (.int .i64 (if x = 0 then y else x)) ∧ w' = W := by
  go_enter Try.func105, Try.ntmps105
  go_wp2
  go_loopg [8] 2 (fun g s8 wr => ∃ k : Nat, k ≤ 2 ∧ 2 - k ≤ g ∧ s8 = .int .i64 k ∧ wr = W ∧ (1 ≤ k → x = 0) ∧ (2 ≤ k → y = 0))
  case atStart => exact ⟨0, by omega, by omega, rfl, rfl, by omega, by omega⟩
  case round =>
    obtain ⟨k, hk, hg, rfl, rfl, hx, hy⟩ := hrel
    rcases Nat.lt_or_ge k 1 with hk1 | hk1
    · obtain rfl : k = 0 := by omega
      by_cases e : x = 0
      · have E : Hid (x = 0) := e
        go_wp2
        go_roundg 1
        case measure => omega
        case rel => exact ⟨1, by omega, by omega, by go_num, rfl, fun _ => E.out, by omega⟩
      · go_wp2
        go_ret
        simp [e]
    · have hxx := hx hk1
      have HX : Hid (x = 0) := hxx
      rcases Nat.lt_or_ge k 2 with hk2 | hk2
      · obtain rfl : k = 1 := by omega
        by_cases e : y = 0
        · have E : Hid (y = 0) := e
          go_wp2
          go_roundg 0
          case measure => omega
          case rel => exact ⟨2, by omega, by omega, by go_num, rfl, fun _ => HX.out, fun _ => E.out⟩
        · go_wp2
          go_ret
          simp [hxx]
      · obtain rfl : k = 2 := by omega
        have hyy := hy hk2
        go_wp2
        go_ret
        simp [hxx, hyy]

theorem w105b (x y : Int) (W : World) : Calls Try.prog 105 #[.slice (some ⟨W.heap.size, 0, none⟩) 2 2] (W.alloc (Obj.cells #[.int .i64 x, .int .i64 y] 3)) fun e w' => e = .returned (.int .i64 (if x = 0 then y else x)) ∧ w' = W.alloc (Obj.cells #[.int .i64 x, .int .i64 y] 3) :=
  w105 x y _ _ (World.cell?_alloc_mark W #[.int .i64 x, .int .i64 y] 3 (0, 0) 0) (World.cell?_alloc_mark W #[.int .i64 x, .int .i64 y] 3 (0, 0) 1)

set_option maxHeartbeats 2000000 in
set_option maxRecDepth 100000 in
theorem w72 (a b : Int × Int) (W : World) : Calls Try.prog 72 #[.agg #[.int .i64 a.1, .int .i64 a.2], .agg #[.int .i64 b.1, .int .i64 b.2]] W fun e w' => e = .returned (.int .i64 (ecmp a b)) ∧ ∃ q os', w' = grow (W.drewN q) os' := by
  have mixed := mixed
  obtain ⟨a1, a2⟩ := a
  obtain ⟨b1, b2⟩ := b
  have hor := w105b (icmp a1 b1) (icmp a2 b2)
  obtain ⟨r, hr⟩ : ∃ r, r = (if icmp a1 b1 = 0 then icmp a2 b2 else icmp a1 b1) := ⟨_, rfl⟩
  rw [← hr] at hor
  have e : ecmp (a1, a2) (b1, b2) = r := by rw [hr]; unfold ecmp; simp only [eq_comm]
  rw [e]
  clear hr e
  show Calls Try.prog 72 #[.agg #[.int .i64 a1, .int .i64 a2], .agg #[.int .i64 b1, .int .i64 b2]] W fun e w' => e = .returned (.int .i64 r) ∧ ∃ q os', w' = grow (W.drewN q) os'
  go_enter Try.func72, Try.ntmps72
  go_wp2_with fail
  refine wp_region_still_tail 10 mixed (by kernel_rfl) ?_
  simp only [List.take_succ_cons, List.take_zero, List.drop_succ_cons, List.drop_zero]
  obtain ⟨w2, hw2⟩ : ∃ w2, w2 = ((W.alloc (Obj.cells #[Value.int IntKind.i64 a1, Value.int IntKind.i64 a2] 32)).alloc (Obj.cells #[Value.int IntKind.i64 b1, Value.int IntKind.i64 b2] 32)).drew := ⟨_, rfl⟩
  have c0 : w2.cell? ⟨W.heap.size, 0, none⟩ = some (.int .i64 a1) := by
    rw [hw2]
    exact Lib.cell?_alloc_some (W := W.alloc (Obj.cells #[Value.int IntKind.i64 a1, Value.int IntKind.i64 a2] 32)) _ (World.cell?_alloc_mark W #[.int .i64 a1, .int .i64 a2] 32 (0, 0) 0)
  have c1 : w2.cell? ⟨W.heap.size, 1, none⟩ = some (.int .i64 a2) := by
    rw [hw2]
    exact Lib.cell?_alloc_some (W := W.alloc (Obj.cells #[Value.int IntKind.i64 a1, Value.int IntKind.i64 a2] 32)) _ (World.cell?_alloc_mark W #[.int .i64 a1, .int .i64 a2] 32 (0, 0) 1)
  have hs : (W.alloc (Obj.cells #[Value.int IntKind.i64 a1, Value.int IntKind.i64 a2] 32)).heap.size = W.heap.size + 1 := by simp
  have c2 : w2.cell? ⟨W.heap.size + 1, 0, none⟩ = some (.int .i64 b1) := by
    rw [hw2, ← hs]
    exact World.cell?_alloc_mark (W.alloc (Obj.cells #[Value.int IntKind.i64 a1, Value.int IntKind.i64 a2] 32)) #[.int .i64 b1, .int .i64 b2] 32 (0, 0) 0
  have c3 : w2.cell? ⟨W.heap.size + 1, 1, none⟩ = some (.int .i64 b2) := by
    rw [hw2, ← hs]
    exact World.cell?_alloc_mark (W.alloc (Obj.cells #[Value.int IntKind.i64 a1, Value.int IntKind.i64 a2] 32)) #[.int .i64 b1, .int .i64 b2] 32 (0, 0) 1
  have HW : Hid (w2 = ((W.alloc (Obj.cells #[Value.int IntKind.i64 a1, Value.int IntKind.i64 a2] 32)).alloc (Obj.cells #[Value.int IntKind.i64 b1, Value.int IntKind.i64 b2] 32)).drew) := hw2
  clear hs
  show wpStill Try.prog _ (((W.alloc (Obj.cells #[Value.int IntKind.i64 a1, Value.int IntKind.i64 a2] 32)).alloc (Obj.cells #[Value.int IntKind.i64 b1, Value.int IntKind.i64 b2] 32)).drew) (fun a' => wpList Try.prog _ _ _ a' (((W.alloc (Obj.cells #[Value.int IntKind.i64 a1, Value.int IntKind.i64 a2] 32)).alloc (Obj.cells #[Value.int IntKind.i64 b1, Value.int IntKind.i64 b2] 32)).drew)) _ _
  rw [← hw2]
  clear hw2
  still_step
  still_step
  still_step
  still_step
  still_call (w106 _ _ _)
  still_step
  still_step
  still_step
  still_step
  still_call (w106 _ _ _)
  refine wpStill_nil ?_
  go_wp2_with (go_at_call 105; refine (hor _).mono ?_; rintro e w' ⟨rfl, rfl⟩)
  go_ret
  exact ⟨rfl, 1, _, by rw [HW.out, alloc_eq_grow, alloc_eq_grow W, alloc_eq_grow (grow W _), drew_grow, drew_grow, grow_grow, grow_grow]; rfl⟩
end Go.Fx

namespace Go.Proofs
open Go.Shelf
def Try.sortE_ren : Go.Shelf.Ren := ⟨fun | 6 => 71 | 15 => 104 | 14 => 103 | 28 => 120 | 29 => 121 | 20 => 112 | 21 => 113 | 22 => 114 | 23 => 115 | 24 => 116 | 25 => 117 | 26 => 118 | 27 => 119 | 46 => 123 | 47 => 124 | 48 => 125 | 49 => 126 | 50 => 127 | 57 => 128 | n => n, fun | 22 => 22 | 24 => 32 | 25 => 92 | 3 => 3 | 39 => 124 | 0 => 0 | 53 => 138 | 55 => 140 | 4 => 4 | 46 => 132 | 45 => 131 | 50 => 115 | 5 => 5 | 9 => 9 | 66 => 141 | 70 => 145 | 76 => 147 | 77 => 148 | n => n, fun | n => n⟩
theorem Try.sortE : Go.Proofs.SlLaysF0.n6 Try.prog Try.sortE_ren := {
  mixed := by kernel_rfl
  f6 := ⟨Try.f71.name, by decide, Try.func71.trans (congrArg some (by kernel_rfl))⟩
  f14 := ⟨Try.f103.name, by decide, Try.func103.trans (congrArg some (by kernel_rfl))⟩
  f15 := Try.func104.trans (congrArg some (by kernel_rfl))
  f20 := ⟨Try.f112.name, by decide, Try.func112.trans (congrArg some (by kernel_rfl))⟩
  f21 := ⟨Try.f113.name, by decide, Try.func113.trans (congrArg some (by kernel_rfl))⟩
  f22 := ⟨Try.f114.name, by decide, Try.func114.trans (congrArg some (by kernel_rfl))⟩
  f23 := ⟨Try.f115.name, by decide, Try.func115.trans (congrArg some (by kernel_rfl))⟩
  f24 := ⟨Try.f116.name, by decide, Try.func116.trans (congrArg some (by kernel_rfl))⟩
  f25 := ⟨Try.f117.name, by decide, Try.func117.trans (congrArg some (by kernel_rfl))⟩
  f26 := ⟨Try.f118.name, by decide, Try.func118.trans (congrArg some (by kernel_rfl))⟩
  f27 := ⟨Try.f119.name, by decide, Try.func119.trans (congrArg some (by kernel_rfl))⟩
  f28 := Try.func120.trans (congrArg some (by kernel_rfl))
  f29 := Try.func121.trans (congrArg some (by kernel_rfl))
  f46 := ⟨Try.f123.name, by decide, Try.func123.trans (congrArg some (by kernel_rfl))⟩
  f47 := Try.func124.trans (congrArg some (by kernel_rfl))
  f48 := Try.func125.trans (congrArg some (by kernel_rfl))
  f49 := ⟨Try.f126.name, by decide, Try.func126.trans (congrArg some (by kernel_rfl))⟩
  f50 := ⟨Try.f127.name, by decide, Try.func127.trans (congrArg some (by kernel_rfl))⟩
  f57 := ⟨Try.f128.name, by decide, Try.func128.trans (congrArg some (by kernel_rfl))⟩
  t0 := Try.underlying0
  a0 := Try.isAgg0
  z0 := Try.sizeOf0
  v0 := Try.zeroValue0
  t3 := Try.underlying3
  a3 := Try.isAgg3
  z3 := Try.sizeOf3
  v3 := Try.zeroValue3
  t4 := Try.underlying4
  a4 := Try.isAgg4
  z4 := Try.sizeOf4
  v4 := Try.zeroValue4
  t5 := Try.underlying5
  a5 := Try.isAgg5
  z5 := Try.sizeOf5
  v5 := Try.zeroValue5
  t9 := Try.underlying9
  a9 := Try.isAgg9
  z9 := Try.sizeOf9
  v9 := Try.zeroValue9
  t22 := Try.underlying22
  a22 := Try.isAgg22
  z22 := Try.sizeOf22
  v22 := Try.zeroValue22
  t25 := Try.underlying92
  a25 := Try.isAgg92
  z25 := Try.sizeOf92
  v25 := Try.zeroValue92
  t39 := Try.underlying124
  a39 := Try.isAgg124
  z39 := Try.sizeOf124
  v39 := Try.zeroValue124
  t45 := Try.underlying131
  a45 := Try.isAgg131
  z45 := Try.sizeOf131
  v45 := Try.zeroValue131
  t46 := Try.underlying132
  a46 := Try.isAgg132
  z46 := Try.sizeOf132
  v46 := Try.zeroValue132
  t50 := Try.underlying115
  a50 := Try.isAgg115
  z50 := Try.sizeOf115
  v50 := Try.zeroValue115
  t53 := Try.underlying138
  a53 := Try.isAgg138
  z53 := Try.sizeOf138
  v53 := Try.zeroValue138
  t55 := Try.underlying140
  a55 := Try.isAgg140
  z55 := Try.sizeOf140
  v55 := Try.zeroValue140
  t66 := Try.underlying141
  a66 := Try.isAgg141
  z66 := Try.sizeOf141
  v66 := Try.zeroValue141
  t70 := Try.underlying145
  a70 := Try.isAgg145
  z70 := Try.sizeOf145
  v70 := Try.zeroValue145
  t76 := Try.underlying147
  a76 := Try.isAgg147
  z76 := Try.sizeOf147
  v76 := Try.zeroValue147
  t77 := Try.underlying148
  a77 := Try.isAgg148
  z77 := Try.sizeOf148
  v77 := Try.zeroValue148 }
end Go.Proofs
namespace Go.Fx
open Go.Proofs Go.Shelf Go.RowKit Go.Lib Go.Sort

def comp_ren : Go.Shelf.Ren := ⟨fun | 43 => 73 | n => n, fun | 22 => 22 | 23 => 32 | 3 => 3 | 4 => 4 | 0 => 0 | n => n, fun | n => n⟩

def encE (x : Int × Int) : List Value := [.int .i64 x.1, .int .i64 x.2]

theorem eqE : EqlAt Try.prog 32 (fun x => .agg (encE x).toArray) (fun x y => decide (x = y)) := by
  refine ⟨fun x y w => ?_, GuardAt.agg _ (by kernel_rfl)⟩
  have u3 := Try.underlying3
  have a3 := Try.isAgg3
  have z3 := Try.sizeOf3
  have hS : Try.prog.underlying 32 = some (.struct (Try.prog.fieldsOf 32)) := by kernel_rfl
  have hp : Try.prog.stoodInHeld 32 = false := by kernel_rfl
  simp only [encE]
  rw [run_eql_struct, show (10000 : Nat) = 9999 + 1 from rfl, run_equalIn_agg w 9999 32 _ _ hS hp]
  simp only [Program.fieldsOf, Try.underlying32]
  go_simp
  obtain ⟨x1, x2⟩ := x
  obtain ⟨y1, y2⟩ := y
  by_cases h1 : x1 = y1 <;> by_cases h2 : x2 = y2 <;> simp [h1, h2]

theorem neE : NeqAt Try.prog 32 (fun x => .agg (encE x).toArray) (fun x y => decide (x = y)) := by
  refine ⟨fun x y w => ?_, GuardAt.agg _ (by kernel_rfl)⟩
  have h := eqE.1 x y w
  rw [run_eql_struct] at h
  rw [run_neq_struct]
  generalize Sem.run Try.prog (Op.equalIn 10000 32 (Value.agg (encE x).toArray) (Value.agg (encE y).toArray)) w = R at h ⊢
  cases R with
  | ok b w' =>
    simp only [Result.andThen, Result.ok.injEq, Value.bool.injEq] at h ⊢
    rw [h.1]; exact ⟨rfl, h.2⟩
  | _ => exact absurd h (by simp [Result.andThen])

theorem lt_e (x y : Int × Int) : ltOf ecmp x y = decide (x.1 < y.1 ∨ x.1 = y.1 ∧ x.2 < y.2) := by
  unfold ltOf ecmp icmp
  by_cases h1 : x.1 < y.1
  · simp [h1]
  · by_cases h2 : y.1 < x.1
    · simp [h1, h2]; omega
    · have e : x.1 = y.1 := by omega
      by_cases h3 : x.2 < y.2
      · simp [e, h3]
      · by_cases h4 : y.2 < x.2 <;> simp [e, h3, h4]

theorem swoE : SWO (ltOf ecmp) where
  irrefl x := by rw [lt_e]; simp
  trans x y z h1 h2 := by rw [lt_e] at *; simp at *; omega
  ntrans x y z h1 h2 := by rw [lt_e] at *; simp at *; omega

theorem cmpLays (blk off size : Nat) (w : World) : CmpLays Try.prog 72 #[] encE 2 ecmp blk off size w :=
  fun _ _ _ _ x y => w72 x y _

theorem sortAt (blk off cap : Nat) (d : Array (Int × Int)) (w : World) (hH : HoldsK encE 2 w blk off d) (hblk : blk < w.heap.size) (hsz : d.size < 4611686018427387904) :
    Calls Try.prog 71 #[.slice (some ⟨blk, off, none⟩) d.size cap, .func (.func 72) #[] #[]] w fun e w' =>
      e = .returned (.tuple #[]) ∧ ∃ d' n os, PermIn 0 d.size d d' ∧ SortedIn (ltOf ecmp) 0 d.size d' ∧ w' = sortWorldK encE 2 w blk off n d' os := by
  have eg : ∀ args w, (callFunc 72 args).run Try.prog w = .ok (.enter 72 args) w := enters_of Try.func72 (by kernel_rfl) rfl
  exact AnyQ.slices_SortFunc Try.sortE 2 Try.isAgg32 Try.sizeOf32 encE (fun _ => rfl) (fun x v hv => by simp [encE] at hv; rcases hv with rfl | rfl <;> rfl) ecmp swoE 72 #[] blk off cap d w eg (cmpLays blk off d.size w) hH hblk hsz

theorem compAt (blk off cap : Nat) (d : Array (Int × Int)) (w : World) (hH : HoldsK encE 2 w blk off d) (hsz : d.size ≤ 9223372036854775807) (hcap : d.size ≤ cap) :
    Calls Try.prog 73 #[.slice (some ⟨blk, off, none⟩) d.size cap] w fun e w' => e = .returned (.slice (some ⟨blk, off, none⟩) (compactUpTo d d.size).length cap) ∧ ∃ q, w' = putRowK encE 2 (Sort.ahead w q) blk off (compactUpTo d d.size ++ List.replicate (d.size - (compactUpTo d d.size).length) (0, 0)).toArray :=
  compactK (P := Try.prog) (ρ := comp_ren) (by kernel_rfl) ⟨Try.f73.name, by decide, Try.func73.trans (congrArg some (by kernel_rfl))⟩
    Try.underlying0 Try.isAgg0 Try.sizeOf0 Try.zeroValue0 Try.underlying3 Try.isAgg3 Try.sizeOf3 Try.zeroValue3 Try.underlying4 Try.isAgg4 Try.sizeOf4 Try.zeroValue4
    Try.underlying22 Try.isAgg22 Try.sizeOf22 Try.zeroValue22 2 Try.isAgg32 Try.sizeOf32 encE (fun _ => rfl) (fun x v hv => by simp [encE] at hv; rcases hv with rfl | rfl <;> rfl) eqE neE (0, 0) Try.zeroValue32 blk off cap d w hH hsz hcap
end Go.Fx

namespace Go.Fx
open Go.Proofs Go.RowKit Go.Lib Go.Sort

theorem eC_enc (x : Int × Int) (i : Nat) (hi : i < 2) (w : World) (X : Nat → Prop) (u : Value) (h : Rep w X (eC x i) u) : u = (encE x)[i]! := by
  rcases Nat.lt_or_ge i 1 with h1 | h1
  · obtain rfl : i = 0 := by omega
    exact h
  · obtain rfl : i = 1 := by omega
    exact h
theorem eC_rep (x : Int × Int) (i : Nat) (hi : i < 2) (w : World) (X : Nat → Prop) : Rep w X (eC x i) (encE x)[i]! := by
  rcases Nat.lt_or_ge i 1 with h1 | h1
  · obtain rfl : i = 0 := by omega
    exact rfl
  · obtain rfl : i = 1 := by omega
    exact rfl

/-- A row of edges in the library's words. -/
theorem holds_of_row {w : World} {X : Nat → Prop} {es : List (Int × Int)} {g o c : Nat} {cur : Array Value} (hg : w.heap[g]? = some (.cells cur 32 (0, 0))) (hsz : o + es.length * 2 ≤ cur.size)
    (h : ∀ j x, es[j]? = some x → ∀ i, i < 2 → ∃ u, cur[o + j * 2 + i]? = some u ∧ Rep w X (eC x i) u) : HoldsK encE 2 w g o es.toArray := by
  intro t ht
  rw [size_flatK] at ht
  have ht' : t < es.length * 2 := by simpa using ht
  have hq : t / 2 < es.length := by omega
  obtain ⟨u, hu, hr⟩ := h (t / 2) es[t / 2] (List.getElem?_eq_getElem hq) (t % 2) (by omega)
  have hu2 := eC_enc _ _ (by omega) _ _ _ hr
  rw [get_flatK _ _ _ t (by simpa using ht')]
  have e1 : o + t / 2 * 2 + t % 2 = o + t := by omega
  rw [e1] at hu
  refine ⟨?_, by simp [World.frozen?, hg]⟩
  rw [cell_of_row w g _ cur 32 (0, 0) hg, hu, hu2]
  congr 2
  simp [hq]

theorem row_of_put {w : World} {X : Nat → Prop} {base : Nat} {es d : List (Int × Int)} {g o c n : Nat} {cur : Array Value} (os : Array Obj) (hb : base ≤ g) (hg : w.heap[g]? = some (.cells cur 32 (0, 0))) (hsz : o + c * 2 ≤ cur.size) (hc : es.length ≤ c) (hm : c ≤ maxI)
    (m : Nat) (hd : d.length = es.length) (hnm : m ≤ d.length) :
    let w' := grow (putRowK encE 2 (Sort.ahead w n) g o d.toArray) os
    w'.os = w.os ∧ w'.tape = w.tape ∧ w'.output = w.output ∧ w.heap.size ≤ w'.heap.size ∧ (∀ b, b < w.heap.size → some g ≠ some b → w'.heap[b]? = w.heap[b]?) ∧
      RowRel w' X base (edgesR (d.take m)) (.slice (some ⟨g, o, none⟩) m c) := by
  have hglt : g < w.heap.size := by
    rcases Nat.lt_or_ge g w.heap.size with h | h
    · exact h
    · rw [Array.getElem?_eq_none h] at hg; cases hg
  have hsame : ∀ b, b < w.heap.size → (grow (putRowK encE 2 (Sort.ahead w n) g o d.toArray) os).heap[b]? = (putRowK encE 2 (Sort.ahead w n) g o d.toArray).heap[b]? := by
    intro b hb
    show ((putRowK encE 2 (Sort.ahead w n) g o d.toArray).heap ++ os)[b]? = _
    rw [Array.getElem?_append_left (by rw [size_putRowK]; exact hb)]
  refine ⟨rfl, rfl, rfl, ?_, ?_, ?_⟩
  · rw [size_grow, size_putRowK]; exact Nat.le_add_right _ _
  · intro b hb hne
    rw [hsame b hb]
    show ((Sort.ahead w n).heap.modify g _)[b]? = _
    rw [Array.getElem?_modify, if_neg (fun e => hne (by rw [e]))]
    rfl
  · refine .inr ⟨g, o, c, putCells id o (flatK encE 2 d.toArray) cur, by simp [hnm], hb, ?_, by simp; omega, hm, by simp [putCells]; exact hsz, ?_⟩
    · rw [hsame g hglt]
      show ((Sort.ahead w n).heap.modify g (onCells _))[g]? = _
      rw [Array.getElem?_modify, if_pos rfl]
      show Option.map _ (w.heap[g]?) = _
      rw [hg]
      rfl
    · intro j x hj i hi
      have hj' : (d.take m)[j]? = some x := hj
      have hjm : j < m := by
        have := (List.getElem?_eq_some_iff.1 hj').1
        simp at this; omega
      have hjd : d[j]? = some x := by rw [List.getElem?_take, if_pos hjm] at hj'; exact hj'
      have hjl : j < d.length := by omega
      have hi2 : i < 2 := hi
      refine ⟨(encE x)[i]!, ?_, eC_rep x i hi2 _ _⟩
      have hlt : o + j * 2 + i < cur.size := by omega
      show (putCells id o (flatK encE 2 d.toArray) cur)[o + j * 2 + i]? = _
      simp only [putCells, Array.getElem?_mapIdx, Array.getElem?_eq_getElem hlt, Option.map_some, size_flatK]
      rw [if_pos (by simp; omega)]
      have e0 : o + j * 2 + i - o = j * 2 + i := by omega
      rw [e0, get_flatK _ _ _ _ (by simp; omega)]
      have e1 : (j * 2 + i) / 2 = j := by omega
      have e2 : (j * 2 + i) % 2 = i := by omega
      rw [e1, e2]
      have e3 : d.toArray[j]! = x := by
        rw [List.getElem?_eq_getElem hjl] at hjd
        simp [hjl]
        exact Option.some.inj hjd
      rw [e3]
      rfl
end Go.Fx

namespace Go.Fx
open Go.Proofs Go.Shelf Go.RowKit Go.Lib Go.Sort

def srt (es : List (Int × Int)) : List (Int × Int) := (pdq (ltOf ecmp) es.toArray 0 es.length (Lib.bitLen es.length) true true).toList
def cmpct (es : List (Int × Int)) : List (Int × Int) := compactUpTo es.toArray es.length

theorem srt_sorts (es : List (Int × Int)) : PermIn 0 es.length es.toArray (srt es).toArray ∧ SortedIn (ltOf ecmp) 0 es.length (srt es).toArray := by
  have h := pdq_sorts (ltOf ecmp) swoE es.toArray 0 es.length (Lib.bitLen es.length) true true (Nat.zero_le _) (Nat.le_of_eq (by simp)) (Or.inl rfl)
  unfold srt
  rw [Array.toArray_toList]
  exact h

theorem srt_length (es : List (Int × Int)) : (srt es).length = es.length := by
  have := (srt_sorts es).1.1
  simpa using this

theorem cmpct_length (es : List (Int × Int)) : (cmpct es).length ≤ es.length := by
  unfold cmpct compactUpTo
  rw [List.length_map]
  exact Nat.le_trans (List.length_filter_le _ _) (by simp)

theorem compNone (w : World) : Calls Try.prog 73 #[.slice none 0 0] w fun e w' => e = .returned (.slice none 0 0) ∧ w' = w := by
  go_enter Try.func73, Try.ntmps73
  go_wp2
  go_ret
  exact ⟨rfl, rfl⟩

theorem mt71 (es : List (Int × Int)) (caps : Nat → CVal) (hlen : es.length < 4611686018427387904) : Mt Try.prog 71 (edgesR es) [.one (.fn 72 0 caps)] false (edgesR (srt es)) := by
  refine ⟨enters_of Try.func71 (by kernel_rfl) rfl, fun w X base v vs hX hbase hrow hargs => ?_⟩
  match vs, hargs with
  | [f], ⟨hf, _⟩ =>
    obtain ⟨cs, rfl, hcs, _⟩ := hf
    obtain rfl : cs = [] := List.eq_nil_of_length_eq_zero hcs
    rcases hrow with ⟨rfl, hnil⟩ | ⟨g, o, c, cur, rfl, hb, hg, hc, hm, hsz, hcells⟩
    · have hes : es = [] := hnil
      subst hes
      refine (AnyF.slices_SortFunc_none Try.sortE none 0 (.func (.func 72) #[] #[]) w).mono ?_
      rintro e w' ⟨rfl, rfl⟩
      refine ⟨.slice none 0 0, rfl, fun _ => rfl, rfl, rfl, rfl, Nat.le_refl _, fun _ _ _ => rfl, fun _ h => .inl h, .inl ⟨rfl, ?_⟩⟩
      exact List.eq_nil_of_length_eq_zero (srt_length [])
    · have hH : HoldsK encE 2 w g o es.toArray := holds_of_row (c := c) hg (by have : es.length ≤ c := hc; have : o + c * 2 ≤ cur.size := hsz; omega) hcells
      have hglt : g < w.heap.size := by
        rcases Nat.lt_or_ge g w.heap.size with h | h
        · exact h
        · rw [Array.getElem?_eq_none h] at hg; cases hg
      have eg : ∀ args w, (callFunc 72 args).run Try.prog w = .ok (.enter 72 args) w := enters_of Try.func72 (by kernel_rfl) rfl
      have hcall := AnyQ.slices_SortFunc_eq Try.sortE 2 Try.isAgg32 Try.sizeOf32 encE (fun _ => rfl) (fun x v hv => by simp [encE] at hv; rcases hv with rfl | rfl <;> rfl) ecmp swoE 72 #[] g o c es.toArray w eg (cmpLays g o es.toArray.size w) hH hglt (by simpa using hlen)
      refine Calls.mono (P := Try.prog) (f := 71) hcall ?_
      rintro e w' ⟨rfl, n, os, rfl⟩
      have hpdq : pdq (ltOf ecmp) es.toArray 0 es.toArray.size (Lib.bitLen es.toArray.size) true true = (srt es).toArray := by simp [srt]
      rw [hpdq]
      obtain ⟨k1, k2, k3, k4, k5, k6⟩ := row_of_put (w := w) (X := fun b => X b ∨ (Value.slice (some ⟨g, o, none⟩) es.length c).ownBlock = some b ∨ (Value.slice (some ⟨g, o, none⟩) es.length c).ownBlock = some b) (base := base) (es := es) (d := srt es) (g := g) (o := o) (c := c) (n := n) (cur := cur) os hb hg hsz hc hm es.length (srt_length es) (by rw [srt_length]; exact Nat.le_refl _)
      refine ⟨.slice (some ⟨g, o, none⟩) es.length c, rfl, fun _ => rfl, k1, k2, k3, k4, fun b hb hn => k5 b hb hn, fun b hb => .inl hb, ?_⟩
      rw [List.take_of_length_le (by rw [srt_length]; exact Nat.le_refl _)] at k6
      exact k6

theorem mt73 (es : List (Int × Int)) (hlen : es.length < 4611686018427387904) : Mt Try.prog 73 (edgesR es) [] true (edgesR (cmpct es)) := by
  refine ⟨enters_of Try.func73 (by kernel_rfl) rfl, fun w X base v vs hX hbase hrow hargs => ?_⟩
  match vs, hargs with
  | [], _ =>
    rcases hrow with ⟨rfl, hnil⟩ | ⟨g, o, c, cur, rfl, hb, hg, hc, hm, hsz, hcells⟩
    · have hes : es = [] := hnil
      subst hes
      refine (compNone w).mono ?_
      rintro e w' ⟨rfl, rfl⟩
      exact ⟨.slice none 0 0, rfl, (fun h => by cases h), rfl, rfl, rfl, Nat.le_refl _, fun _ _ _ => rfl, fun _ h => .inl h, .inl ⟨rfl, rfl⟩⟩
    · have hH : HoldsK encE 2 w g o es.toArray := holds_of_row (c := c) hg (by have : es.length ≤ c := hc; have : o + c * 2 ≤ cur.size := hsz; omega) hcells
      refine (compAt g o c es.toArray w hH (by simp; omega) (by simpa using hc)).mono ?_
      rintro e w' ⟨rfl, n, rfl⟩
      have hcp : compactUpTo es.toArray es.toArray.size = cmpct es := by simp [cmpct]
      rw [hcp]
      have hcl := cmpct_length es
      obtain ⟨k1, k2, k3, k4, k5, k6⟩ := row_of_put (w := w) (X := fun b => X b ∨ (Value.slice (some ⟨g, o, none⟩) es.length c).ownBlock = some b ∨ (Value.slice (some ⟨g, o, none⟩) (cmpct es).length c).ownBlock = some b) (base := base) (es := es) (d := cmpct es ++ List.replicate (es.toArray.size - (cmpct es).length) (0, 0)) (g := g) (o := o) (c := c) (n := n) (cur := cur) #[] hb hg hsz hc hm (cmpct es).length (by simp; omega) (by simp)
      rw [grow_empty] at k1 k2 k3 k4 k5 k6
      refine ⟨.slice (some ⟨g, o, none⟩) (cmpct es).length c, rfl, (fun h => by cases h), k1, k2, k3, k4, fun b hb hn => k5 b hb hn, fun b hb => .inl hb, ?_⟩
      rw [List.take_left] at k6
      exact k6
end Go.Fx

namespace Go.Fx.Gr
open Go.Fx Go.Lib Go.Sort Go.Proofs

def lt2 (x y : Int × Int) : Prop := x.1 < y.1 ∨ x.1 = y.1 ∧ x.2 < y.2

theorem lt2_irrefl (x : Int × Int) : ¬ lt2 x x := by unfold lt2; omega
theorem lt2_asymm {x y : Int × Int} (h : lt2 x y) : ¬ lt2 y x := by unfold lt2 at *; omega
theorem lt2_total {x y : Int × Int} (h : ¬ lt2 x y) (hne : x ≠ y) : lt2 y x := by
  obtain ⟨a, b⟩ := x; obtain ⟨c, d⟩ := y
  unfold lt2 at *
  have : ¬ (a = c ∧ b = d) := fun h => hne (by rw [h.1, h.2])
  omega

/-- Lists in strict order with the same members are equal. -/
theorem strict_ext {α : Type} {lt : α → α → Prop} (hir : ∀ x, ¬ lt x x) (has : ∀ {x y}, lt x y → ¬ lt y x) : ∀ {l m : List α}, l.Pairwise lt → m.Pairwise lt → (∀ x, x ∈ l ↔ x ∈ m) → l = m
  | [], [], _, _, _ => rfl
  | [], y :: m, _, _, h => absurd ((h y).2 (.head _)) (by simp)
  | x :: l, [], _, _, h => absurd ((h x).1 (.head _)) (by simp)
  | x :: l, y :: m, hl, hm, h => by
    rw [List.pairwise_cons] at hl hm
    have e : x = y := by
      rcases List.mem_cons.1 ((h x).1 (.head _)) with e | hx
      · exact e
      · rcases List.mem_cons.1 ((h y).2 (.head _)) with e | hy
        · exact e.symm
        · exact absurd (hl.1 y hy) (has (hm.1 x hx))
    subst e
    congr 1
    refine strict_ext hir has hl.2 hm.2 fun z => ⟨fun hz => ?_, fun hz => ?_⟩
    · rcases List.mem_cons.1 ((h z).1 (.tail _ hz)) with e | hx
      · subst e; exact absurd (hl.1 z hz) (hir z)
      · exact hx
    · rcases List.mem_cons.1 ((h z).2 (.tail _ hz)) with e | hx
      · subst e; exact absurd (hm.1 z hz) (hir z)
      · exact hx

theorem srt_mem (es : List (Int × Int)) (x : Int × Int) : x ∈ srt es ↔ x ∈ es := by
  have h := (srt_sorts es).1.2.2
  have e1 : ((srt es).toArray.extract 0 es.length).toList = srt es := by
    simp [srt_length, List.take_of_length_le (Nat.le_of_eq (srt_length es))]
  have e2 : (es.toArray.extract 0 es.length).toList = es := by simp
  rw [e1, e2] at h
  exact h.mem_iff

theorem compact_mem (es : List (Int × Int)) (x : Int × Int) : x ∈ cmpct es ↔ x ∈ es := by
  unfold cmpct compactUpTo
  constructor
  · intro h
    obtain ⟨j, hj, rfl⟩ := List.mem_map.1 h
    have hj := List.mem_range.1 (List.mem_filter.1 hj).1
    simp [hj]
  · intro h
    obtain ⟨j, hj, rfl⟩ := List.getElem_of_mem h
    induction j with
    | zero => exact List.mem_map.2 ⟨0, List.mem_filter.2 ⟨List.mem_range.2 hj, by simp [keeps]⟩, by simp [hj]⟩
    | succ j ih =>
      by_cases e : es.toArray[j + 1]! = es.toArray[j]!
      · have e' : es[j + 1] = es[j] := by simpa [hj, Nat.lt_of_succ_lt hj] using e
        rw [e']
        exact ih (Nat.lt_of_succ_lt hj) (List.getElem_mem _)
      · exact List.mem_map.2 ⟨j + 1, List.mem_filter.2 ⟨List.mem_range.2 hj, keeps_pos e⟩, by simp [hj]⟩

theorem compact_sorted (es : List (Int × Int)) (h : SortedIn (ltOf ecmp) 0 es.length es.toArray) : (cmpct es).Pairwise lt2 := by
  unfold cmpct compactUpTo
  rw [List.pairwise_map]
  refine List.Pairwise.imp_of_mem (R := (· < ·)) (fun {i j} hi hj hij => ?_) (List.Pairwise.filter _ List.pairwise_lt_range)
  have hjm := List.mem_range.1 (List.mem_filter.1 hj).1
  have hk := (List.mem_filter.1 hj).2
  have hne : es.toArray[j]! ≠ es.toArray[j - 1]! := by
    simp only [keeps, decide_eq_true_eq] at hk
    rcases hk with h | h
    · omega
    · exact h
  have h1 : ¬ lt2 es.toArray[j]! es.toArray[j - 1]! := by
    have := h (j - 1) j (Nat.zero_le _) (by omega) hjm
    rw [lt_e] at this
    simpa [lt2] using this
  have h2 := lt2_total h1 hne
  rcases Nat.lt_or_ge i (j - 1) with hlt | hge
  · have h3 : ¬ lt2 es.toArray[j - 1]! es.toArray[i]! := by
      have := h i (j - 1) (Nat.zero_le _) hlt (by omega)
      rw [lt_e] at this
      simpa [lt2] using this
    unfold lt2 at *
    omega
  · obtain rfl : i = j - 1 := by omega
    exact h2

/-- The edges among n nodes, in order. -/
def mkL (n : Nat) (es : List (Int × Int)) : List (Int × Int) :=
  (List.range n).flatMap fun (a : Nat) => (List.range n).filterMap fun (b : Nat) => if ((a : Int), (b : Int)) ∈ es then some ((a : Int), (b : Int)) else none

theorem mkL_mem (n : Nat) (es : List (Int × Int)) (h : ∀ e ∈ es, (0 ≤ e.1 ∧ e.1 < n) ∧ 0 ≤ e.2 ∧ e.2 < n) (x : Int × Int) : x ∈ mkL n es ↔ x ∈ es := by
  unfold mkL
  simp only [List.mem_flatMap, List.mem_range, List.mem_filterMap]
  constructor
  · rintro ⟨a, ha, b, hb, he⟩
    split at he
    · cases he; assumption
    · cases he
  · intro hx
    obtain ⟨⟨h1, h2⟩, h3, h4⟩ := h x hx
    refine ⟨x.1.toNat, by omega, x.2.toNat, by omega, ?_⟩
    have e1 : ((x.1.toNat : Nat) : Int) = x.1 := by omega
    have e2 : ((x.2.toNat : Nat) : Int) = x.2 := by omega
    rw [e1, e2, if_pos hx]

theorem mkL_sorted (n : Nat) (es : List (Int × Int)) : (mkL n es).Pairwise lt2 := by
  unfold mkL
  rw [List.pairwise_flatMap]
  constructor
  · intro a _
    rw [List.pairwise_filterMap]
    refine List.pairwise_lt_range.imp fun {i j} hij => ?_
    intro x hx y hy
    split at hx
    · split at hy
      · cases hx; cases hy; unfold lt2; simp; omega
      · cases hy
    · cases hx
  · refine List.pairwise_lt_range.imp fun {i j} hij => ?_
    intro x hx y hy
    obtain ⟨b, _, hb⟩ := List.mem_filterMap.1 hx
    obtain ⟨c, _, hc⟩ := List.mem_filterMap.1 hy
    split at hb
    · split at hc
      · cases hb; cases hc; unfold lt2; simp; omega
      · cases hc
    · cases hb

theorem compact_srt (n : Nat) (es : List (Int × Int)) (h : ∀ e ∈ es, (0 ≤ e.1 ∧ e.1 < n) ∧ 0 ≤ e.2 ∧ e.2 < n) : cmpct (srt es) = mkL n es := by
  refine strict_ext lt2_irrefl lt2_asymm (compact_sorted _ ?_) (mkL_sorted n es) fun x => ?_
  · rw [srt_length]; exact (srt_sorts es).2
  · rw [compact_mem, srt_mem, mkL_mem n es h]
end Go.Fx.Gr
