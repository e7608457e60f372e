/-
  What New, at, Take and Put of a queue of pairs do where all that is put is zero.
-/
import Derived.Test.YtaamachonbkjoaaRingA
import Derived.Deep.OwnRows
import Derived.Deep.DeepCutAuto
import Derived.Deep.CutBlock
import Derived.Deep.DeepMust
namespace Go.Proofs.Ytaamachonbkjoaa.ring
open Go.RowKit

/-- A queue of pairs in memory: its counts in block b, its places in block p, of two cells each, all of them zero. -/
structure PairAt (w : World) (b p : Nat) (cap first : Nat) (lost : Int) (k : Nat) : Prop where
  c0 : w.cell? ⟨b, 0, none⟩ = some (.int .i64 k)
  c1 : w.cell? ⟨b, 1, none⟩ = some (.int .i64 cap)
  c2 : w.cell? ⟨b, 2, none⟩ = some (.int .i64 lost)
  c3 : w.cell? ⟨b, 3, none⟩ = some (.slice (some ⟨p, 0, none⟩) cap cap)
  c4 : w.cell? ⟨b, 4, none⟩ = some (.int .i64 first)
  fb : ∀ o, w.frozen? ⟨b, o, none⟩ = false
  fp : ∀ o, w.frozen? ⟨p, o, none⟩ = false
  ne : b ≠ p
  cap1 : 1 ≤ cap
  cap64 : cap ≤ 64
  first_lt : first < cap
  fits : k ≤ cap
  lostb : -9223372036854775808 ≤ lost ∧ lost ≤ 9223372036854775807
  zero : ∀ i, i < cap * 2 → w.cell? ⟨p, i, none⟩ = some (.int .i64 0)

section
variable {w w' : World} {b p cap first k : Nat} {lost : Int}
theorem PairAt.lt_b (h : PairAt w b p cap first lost k) : b < w.heap.size := World.block_lt_of_cell? w _ h.c0
theorem PairAt.lt_p (h : PairAt w b p cap first lost k) : p < w.heap.size := World.block_lt_of_cell? w _ (h.zero 0 (by have := h.cap1; omega))
theorem PairAt.kept (h : PairAt w b p cap first lost k) (eb : w'.heap[b]? = w.heap[b]?) (ep : w'.heap[p]? = w.heap[p]?) : PairAt w' b p cap first lost k :=
  have e (o : Nat) : w'.cell? ⟨b, o, none⟩ = w.cell? ⟨b, o, none⟩ := World.cell?_of_block eb
  have e' (o : Nat) : w'.cell? ⟨p, o, none⟩ = w.cell? ⟨p, o, none⟩ := World.cell?_of_block ep
  ⟨(e 0).trans h.c0, (e 1).trans h.c1, (e 2).trans h.c2, (e 3).trans h.c3, (e 4).trans h.c4, fun o => (World.frozen?_of_block (a := ⟨b, o, none⟩) eb).trans (h.fb o), fun o => (World.frozen?_of_block (a := ⟨p, o, none⟩) ep).trans (h.fp o),
    h.ne, h.cap1, h.cap64, h.first_lt, h.fits, h.lostb, fun i hi => (e' i).trans (h.zero i hi)⟩
theorem PairAt.below (h : PairAt w b p cap first lost k) (hb : Below w.heap.size w w') : PairAt w' b p cap first lost k := h.kept (hb.block b h.lt_b) (hb.block p h.lt_p)
theorem PairAt.touch {b' p' : Nat} (h : PairAt w b p cap first lost k) (ht : Touch w w' b' p') (h1 : b ≠ b') (h2 : b ≠ p') (h3 : p ≠ b') (h4 : p ≠ p') : PairAt w' b p cap first lost k :=
  h.kept (ht.block b h.lt_b h1 h2) (ht.block p h.lt_p h3 h4)

/-- A zero into a place. -/
theorem PairAt.zeroed (h : PairAt w b p cap first lost k) (i : Nat) (hi : i < cap * 2) : PairAt (w.setCell ⟨p, i, none⟩ (.int .i64 0)) b p cap first lost k := by
  have hne := h.ne
  refine ⟨?_, ?_, ?_, ?_, ?_, fun o => (World.frozen?_setCell _ _ _ _).trans (h.fb o), fun o => (World.frozen?_setCell _ _ _ _).trans (h.fp o), hne, h.cap1, h.cap64, h.first_lt, h.fits, h.lostb, fun j hj => ?_⟩
  · rw [cell_far _ _ _ _ _ _ (by omega)]; exact h.c0
  · rw [cell_far _ _ _ _ _ _ (by omega)]; exact h.c1
  · rw [cell_far _ _ _ _ _ _ (by omega)]; exact h.c2
  · rw [cell_far _ _ _ _ _ _ (by omega)]; exact h.c3
  · rw [cell_far _ _ _ _ _ _ (by omega)]; exact h.c4
  · by_cases e : i = j
    · subst e; exact cell_set _ _ _ _ (h.zero i hi)
    · rw [cell_far _ _ _ _ _ _ (by omega)]; exact h.zero j hj
theorem PairAt.count (h : PairAt w b p cap first lost k) (k' : Nat) (hk : k' ≤ cap) : PairAt (w.setCell ⟨b, 0, none⟩ (.int .i64 k')) b p cap first lost k' := by
  have hne := h.ne
  refine ⟨cell_set _ _ _ _ h.c0, ?_, ?_, ?_, ?_, fun o => (World.frozen?_setCell _ _ _ _).trans (h.fb o), fun o => (World.frozen?_setCell _ _ _ _).trans (h.fp o), hne, h.cap1, h.cap64, h.first_lt, hk, h.lostb, fun j hj => ?_⟩
  · rw [cell_far _ _ _ _ _ _ (by omega)]; exact h.c1
  · rw [cell_far _ _ _ _ _ _ (by omega)]; exact h.c2
  · rw [cell_far _ _ _ _ _ _ (by omega)]; exact h.c3
  · rw [cell_far _ _ _ _ _ _ (by omega)]; exact h.c4
  · rw [cell_far _ _ _ _ _ _ (by omega)]; exact h.zero j hj
theorem PairAt.lose (h : PairAt w b p cap first lost k) (l : Int) (hl : -9223372036854775808 ≤ l ∧ l ≤ 9223372036854775807) : PairAt (w.setCell ⟨b, 2, none⟩ (.int .i64 l)) b p cap first l k := by
  have hne := h.ne
  refine ⟨?_, ?_, cell_set _ _ _ _ h.c2, ?_, ?_, fun o => (World.frozen?_setCell _ _ _ _).trans (h.fb o), fun o => (World.frozen?_setCell _ _ _ _).trans (h.fp o), hne, h.cap1, h.cap64, h.first_lt, h.fits, hl, fun j hj => ?_⟩
  · rw [cell_far _ _ _ _ _ _ (by omega)]; exact h.c0
  · rw [cell_far _ _ _ _ _ _ (by omega)]; exact h.c1
  · rw [cell_far _ _ _ _ _ _ (by omega)]; exact h.c3
  · rw [cell_far _ _ _ _ _ _ (by omega)]; exact h.c4
  · rw [cell_far _ _ _ _ _ _ (by omega)]; exact h.zero j hj
theorem PairAt.start (h : PairAt w b p cap first lost k) (f : Nat) (hf : f < cap) : PairAt (w.setCell ⟨b, 4, none⟩ (.int .i64 f)) b p cap f lost k := by
  have hne := h.ne
  refine ⟨?_, ?_, ?_, ?_, cell_set _ _ _ _ h.c4, fun o => (World.frozen?_setCell _ _ _ _).trans (h.fb o), fun o => (World.frozen?_setCell _ _ _ _).trans (h.fp o), hne, h.cap1, h.cap64, hf, h.fits, h.lostb, fun j hj => ?_⟩
  · rw [cell_far _ _ _ _ _ _ (by omega)]; exact h.c0
  · rw [cell_far _ _ _ _ _ _ (by omega)]; exact h.c1
  · rw [cell_far _ _ _ _ _ _ (by omega)]; exact h.c2
  · rw [cell_far _ _ _ _ _ _ (by omega)]; exact h.c3
  · rw [cell_far _ _ _ _ _ _ (by omega)]; exact h.zero j hj
end

theorem zeros_at (m i : Nat) (h : i < m) : (madeCells #[.int .i64 0, .int .i64 0] m)[i]? = some (.int .i64 0) := by
  have : i % 2 = 0 ∨ i % 2 = 1 := by omega
  rcases this with e | e <;> simp [madeCells, h, e]

/-- A new queue of pairs. -/
theorem PairAt.new {w : World} {cap : Nat} {T E : TypeId} (h1 : 1 ≤ cap) (h2 : cap ≤ 64) :
    PairAt ((w.alloc (.cells (madeCells #[.int .i64 0, .int .i64 0] (cap * 2)) E)).alloc (.cells #[.int .i64 0, .int .i64 cap, .int .i64 0, .slice (some ⟨w.heap.size, 0, none⟩) cap cap, .int .i64 0] T)) (w.heap.size + 1) w.heap.size cap 0 0 0 := by
  have hb : ((w.alloc (.cells (madeCells #[.int .i64 0, .int .i64 0] (cap * 2)) E)).alloc (.cells #[.int .i64 0, .int .i64 cap, .int .i64 0, .slice (some ⟨w.heap.size, 0, none⟩) cap cap, .int .i64 0] T)).heap[w.heap.size + 1]? = some (.cells #[.int .i64 0, .int .i64 cap, .int .i64 0, .slice (some ⟨w.heap.size, 0, none⟩) cap cap, .int .i64 0] T) := by
    have := heap_alloc_new (w.alloc (.cells (madeCells #[.int .i64 0, .int .i64 0] (cap * 2)) E)) (.cells #[.int .i64 0, .int .i64 cap, .int .i64 0, .slice (some ⟨w.heap.size, 0, none⟩) cap cap, .int .i64 0] T)
    simpa using this
  have hp : ((w.alloc (.cells (madeCells #[.int .i64 0, .int .i64 0] (cap * 2)) E)).alloc (.cells #[.int .i64 0, .int .i64 cap, .int .i64 0, .slice (some ⟨w.heap.size, 0, none⟩) cap cap, .int .i64 0] T)).heap[w.heap.size]? = some (.cells (madeCells #[.int .i64 0, .int .i64 0] (cap * 2)) E) := by
    rw [Below.heap_alloc _ _ _ (by simp)]
    exact heap_alloc_new w _
  have cb (o : Nat) := cell_of_row _ _ o _ _ _ hb
  have cp (o : Nat) := cell_of_row _ _ o _ _ _ hp
  exact ⟨by rw [cb]; rfl, by rw [cb]; rfl, by rw [cb]; rfl, by rw [cb]; rfl, by rw [cb]; rfl, fun o => frozen_of_row _ _ o _ _ hb, fun o => frozen_of_row _ _ o _ _ hp, by omega, h1, h2, by omega, by omega, by omega, fun i hi => by rw [cp]; exact zeros_at _ _ hi⟩

/-- What New leaves. -/
def MadeP (n : Int) (w : World) (e : Ending) (w' : World) : Prop :=
  ∃ b p, e = .returned (.pointer (some ⟨b, 0, none⟩)) ∧ w.heap.size ≤ b ∧ w.heap.size ≤ p ∧ PairAt w' b p (capOf n) 0 0 0 ∧ Below w.heap.size w w'

theorem info_pair : (Try.prog.info? 43).map (fun i => (i.zero, i.size, i.bytes)) = some (some (.agg #[.int .i64 0, .int .i64 0]), 2, 16) := by kernel_rfl

theorem make_pairs (n : Nat) (hn : n ≤ 64) (w : World) : (Instr.makeSlice 50 (.int .i64 (n : Int)) (.int .i64 (n : Int))).run Try.prog w = .ok (.slice (some ⟨w.heap.size, 0, none⟩) n n) (w.alloc (.cells (madeCells #[.int .i64 0, .int .i64 0] (n * 2)) 43)) := by
  obtain ⟨i, hi, hzz⟩ := Option.map_eq_some_iff.1 info_pair
  simp only [Prod.mk.injEq] at hzz
  obtain ⟨hz, hs, hb⟩ := hzz
  have hr := run_make (P := Try.prog) w 50 43 i _ Try.underlying50 hi hz .i64 .i64 n n (by omega) (by omega) (by rw [hb]; omega) (by omega)
  rw [hs] at hr
  simp only [Int.toNat_natCast] at hr
  exact hr

theorem newP_any (n : Int) (w : World) : Calls Try.prog 15 #[.int .i64 n] w fun e w' => MadeP n w e w' := by
  have hc := capOf_in n
  go_enter Try.func15, Try.ntmps15
  go_upto_region 2 with (fail)
  rw [capOf_eq n]
  have HH := Lib.hid (PairAt.new (w := w) (T := 54) (E := 43) hc.1 hc.2)
  generalize hcn : ring.capOf n = c at *
  have HC := Lib.hid hcn
  clear hcn
  have hmk := fun W => make_pairs c (by omega) W
  go_wp2
  all_goals
    go_ret
    exact ⟨w.heap.size + 1, w.heap.size, rfl, Nat.le_succ _, Nat.le_refl _, HC.out ▸ HH.out, below_new (below_new (Below.refl _ _) _) _⟩

theorem atP_any (b p cap first : Nat) (lost : Int) (k : Nat) (i : Nat) (w : World) (h : PairAt w b p cap first lost k) (hi : i ≤ 64) :
    Calls Try.prog 28 #[.pointer (some ⟨b, 0, none⟩), .int .i64 i] w fun e w' => e = .returned (.pointer (some ⟨p, (first + i) % cap * 2, none⟩)) ∧ Below w.heap.size w w' := by
  have hb := h.lt_b
  have c1 := h.c1
  have c3 := h.c3
  have c4 := h.c4
  have k1 := h.cap1
  have k2 := h.cap64
  have k3 := h.first_lt
  have m0 : (0 : Int) ≤ ((first : Int) + i) % cap := Int.emod_nonneg _ (by omega)
  have m1 : ((first : Int) + i) % cap < cap := Int.emod_lt_of_pos _ (by omega)
  clear h
  go_enter Try.func28, Try.ntmps28
  go_wp2
  refine wp_region_later (by kernel_rfl) (by kernel_rfl) ?_
  repeat (go_big_quiet_step (fail))
  refine wpQuiet_nil ?_
  intro w1 hb1
  go_wp2
  go_ret
  exact ⟨rfl, hb1⟩
end Go.Proofs.Ytaamachonbkjoaa.ring
