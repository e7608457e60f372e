/-
  Three queues within one statement that puts into each: where the walk stands, as one predicate on the world.
-/
import Derived.Test.YtaamachonbkjoaaRingKeepsA
import Derived.Test.YtaamachonbkjoaaRingPairC
namespace Go.Proofs.Ytaamachonbkjoaa.ring
open Go.RowKit

/-! Rows of zeros, as make lays them: the world behind each under a name of its own. -/
def rowI (w : World) (n : Nat) : World := w.alloc (.cells (madeCells #[.int .i64 0] n) 3)
def rowT (w : World) (n : Nat) : World := w.alloc (.cells (madeCells #[.string ⟨#[]⟩] n) 9)
def rowP (w : World) (n : Nat) : World := w.alloc (.cells (madeCells #[.int .i64 0, .int .i64 0] (n * 2)) 43)
theorem rowI_below (w : World) (n : Nat) : Below w.heap.size w (rowI w n) := below_new (Below.refl _ _) _
theorem rowT_below (w : World) (n : Nat) : Below w.heap.size w (rowT w n) := below_new (Below.refl _ _) _
theorem rowP_below (w : World) (n : Nat) : Below w.heap.size w (rowP w n) := below_new (Below.refl _ _) _
theorem makeI (n : Nat) (hn : n ≤ 64) (w : World) : (Instr.makeSlice 38 (.int .i64 (n : Int)) (.int .i64 (n : Int))).run Try.prog w = .ok (.slice (some ⟨w.heap.size, 0, none⟩) n n) (rowI w n) :=
  run_make_row' (P := Try.prog) 38 3 (.int .i64 0) 8 Try.underlying38 info_int rfl .i64 .i64 n (by omega) (by omega) w
theorem makeT (n : Nat) (hn : n ≤ 64) (w : World) : (Instr.makeSlice 26 (.int .i64 (n : Int)) (.int .i64 (n : Int))).run Try.prog w = .ok (.slice (some ⟨w.heap.size, 0, none⟩) n n) (rowT w n) :=
  run_make_row' (P := Try.prog) 26 9 (.string ⟨#[]⟩) 16 Try.underlying26 info_string rfl .i64 .i64 n (by omega) (by omega) w
theorem makeP (n : Nat) (hn : n ≤ 64) (w : World) : (Instr.makeSlice 50 (.int .i64 (n : Int)) (.int .i64 (n : Int))).run Try.prog w = .ok (.slice (some ⟨w.heap.size, 0, none⟩) n n) (rowP w n) := make_pairs n hn w

/-- Block g holds n cells of v. -/
structure Full (w : World) (g n : Nat) (v : Value) : Prop where
  lt : g < w.heap.size
  cell : ∀ i, i < n → w.cell? ⟨g, i, none⟩ = some v
theorem Full.below {w w' : World} {g n : Nat} {v : Value} (h : Full w g n v) (hb : Below w.heap.size w w') : Full w' g n v := ⟨Nat.lt_of_lt_of_le h.lt hb.size, fun i hi => (hb.cell (p := ⟨g, i, none⟩) h.lt).trans (h.cell i hi)⟩
theorem Full.touch {w w' : World} {g n b p : Nat} {v : Value} (h : Full w g n v) (ht : Touch w w' b p) (h1 : g ≠ b) (h2 : g ≠ p) : Full w' g n v := ⟨Nat.lt_of_lt_of_le h.lt ht.size, fun i hi => ht.cell (h.cell i hi) h1 h2⟩
theorem full_one (w : World) (n : Nat) (z : Value) (t : TypeId) : Full (w.alloc (.cells (madeCells #[z] n) t)) w.heap.size n z := by
  refine ⟨by simp, fun i hi => ?_⟩
  rw [cell_of_row _ _ i _ _ _ (heap_alloc_new w _)]
  simp [madeCells, hi, Nat.mod_one]
theorem rowI_full (w : World) (n : Nat) : Full (rowI w n) w.heap.size n (.int .i64 0) := full_one w n _ _
theorem rowT_full (w : World) (n : Nat) : Full (rowT w n) w.heap.size n (.string ⟨#[]⟩) := full_one w n _ _
theorem rowP_full (w : World) (n : Nat) : Full (rowP w n) w.heap.size (n * 2) (.int .i64 0) := by
  refine ⟨by simp [rowP], fun i hi => ?_⟩
  unfold rowP
  rw [cell_of_row _ _ i _ _ _ (heap_alloc_new w _)]
  exact zeros_at _ _ hi
theorem replicate_cells {w : World} {g n : Nat} {V : Type} {enc : V → Value} {z : V} (h : Full w g n (enc z)) : ∀ i x, (List.replicate n z)[i]? = some x → w.cell? ⟨g, 0 + i, none⟩ = some (enc x) := by
  intro i x hx
  rw [List.getElem?_replicate] at hx
  split at hx
  · injection hx with hx
    subst hx
    rw [Nat.zero_add]
    exact h.cell i (by assumption)
  · cases hx

/-- What is fixed in that statement: the queues' blocks, what they held ahead of it, how many zeros each is handed. -/
structure Three where
  w0 : World
  b1 : Nat
  p1 : Nat
  b2 : Nat
  p2 : Nat
  b3 : Nat
  p3 : Nat
  N : Nat
  cap : Nat
  f1 : Nat
  f2 : Nat
  f3 : Nat
  lost : Int
  q1 : List Int
  q2 : List ByteArray
  k : Nat
  m : Nat

structure Three.Ok (T : Three) : Prop where
  n1 : T.b1 < T.N
  n2 : T.p1 < T.N
  n3 : T.b2 < T.N
  n4 : T.p2 < T.N
  n5 : T.b3 < T.N
  n6 : T.p3 < T.N
  a : T.b1 ≠ T.b2 ∧ T.b1 ≠ T.p2 ∧ T.p1 ≠ T.b2 ∧ T.p1 ≠ T.p2
  b : T.b1 ≠ T.b3 ∧ T.b1 ≠ T.p3 ∧ T.p1 ≠ T.b3 ∧ T.p1 ≠ T.p3
  c : T.b2 ≠ T.b3 ∧ T.b2 ≠ T.p3 ∧ T.p2 ≠ T.b3 ∧ T.p2 ≠ T.p3
  d : T.w0.heap.size ≤ T.b1 ∧ T.w0.heap.size ≤ T.p1 ∧ T.w0.heap.size ≤ T.b2 ∧ T.w0.heap.size ≤ T.p2 ∧ T.w0.heap.size ≤ T.b3 ∧ T.w0.heap.size ≤ T.p3
  l1 : T.q1.length = T.k
  l2 : T.q2.length = T.k
  m64 : T.m ≤ 64

def Three.d (T : Three) : Nat := T.m - min T.m (T.cap - T.k)
def Three.lost' (T : Three) (s : Bool) : Int := if s then wrap64 (T.lost + T.d) else T.lost
def Three.q1' (T : Three) (s : Bool) : List Int := if s then T.q1 ++ (List.replicate T.m 0).take (T.cap - T.q1.length) else T.q1
def Three.q2' (T : Three) (s : Bool) : List ByteArray := if s then T.q2 ++ (List.replicate T.m ⟨#[]⟩).take (T.cap - T.q2.length) else T.q2
def Three.k' (T : Three) (s : Bool) : Nat := if s then T.k + min T.m (T.cap - T.k) else T.k

/-- Where the statement stands: which of the three have been put into. -/
structure Three.At (T : Three) (s1 s2 s3 : Bool) (w : World) : Prop where
  ok : T.Ok
  i : RingAt int.enc w T.b1 T.p1 T.cap T.f1 (T.lost' s1) (T.q1' s1)
  t : RingAt text.enc w T.b2 T.p2 T.cap T.f2 (T.lost' s2) (T.q2' s2)
  p : PairAt w T.b3 T.p3 T.cap T.f3 (T.lost' s3) (T.k' s3)
  below : Below T.w0.heap.size T.w0 w
  size : T.N ≤ w.heap.size

theorem Three.At.later {T : Three} {s1 s2 s3 : Bool} {w w' : World} (h : T.At s1 s2 s3 w) (hb : Below w.heap.size w w') : T.At s1 s2 s3 w' :=
  ⟨h.ok, h.i.below hb, h.t.below hb, h.p.below hb, below_step h.below hb, Nat.le_trans h.size hb.size⟩
theorem Three.At.rowI {T : Three} {s1 s2 s3 : Bool} {w : World} {n : Nat} (h : T.At s1 s2 s3 w) : T.At s1 s2 s3 (rowI w n) := h.later (rowI_below _ _)
theorem Three.At.rowT {T : Three} {s1 s2 s3 : Bool} {w : World} {n : Nat} (h : T.At s1 s2 s3 w) : T.At s1 s2 s3 (rowT w n) := h.later (rowT_below _ _)
theorem Three.At.rowP {T : Three} {s1 s2 s3 : Bool} {w : World} {n : Nat} (h : T.At s1 s2 s3 w) : T.At s1 s2 s3 (rowP w n) := h.later (rowP_below _ _)

/-- A row of zeros behind all three. -/
structure Three.Row (T : Three) (g n : Nat) (z : Value) (w : World) : Prop where
  low : T.N ≤ g
  full : Full w g n z
theorem Three.Row.later {T : Three} {g n : Nat} {z : Value} {w w' : World} (h : T.Row g n z w) (hb : Below w.heap.size w w') : T.Row g n z w' := ⟨h.low, h.full.below hb⟩
theorem Three.Row.rowI {T : Three} {g n m : Nat} {z : Value} {w : World} (h : T.Row g n z w) : T.Row g n z (rowI w m) := h.later (rowI_below _ _)
theorem Three.Row.rowT {T : Three} {g n m : Nat} {z : Value} {w : World} (h : T.Row g n z w) : T.Row g n z (rowT w m) := h.later (rowT_below _ _)
theorem Three.Row.rowP {T : Three} {g n m : Nat} {z : Value} {w : World} (h : T.Row g n z w) : T.Row g n z (rowP w m) := h.later (rowP_below _ _)
theorem Three.At.newI {T : Three} {s1 s2 s3 : Bool} {w : World} {n : Nat} (h : T.At s1 s2 s3 w) : T.Row w.heap.size n (.int .i64 0) (ring.rowI w n) := ⟨h.size, rowI_full _ _⟩
theorem Three.At.newT {T : Three} {s1 s2 s3 : Bool} {w : World} {n : Nat} (h : T.At s1 s2 s3 w) : T.Row w.heap.size n (.string ⟨#[]⟩) (ring.rowT w n) := ⟨h.size, rowT_full _ _⟩
theorem Three.At.newP {T : Three} {s1 s2 s3 : Bool} {w : World} {n : Nat} (h : T.At s1 s2 s3 w) : T.Row w.heap.size (n * 2) (.int .i64 0) (ring.rowP w n) := ⟨h.size, rowP_full _ _⟩
/-- What a Put keeps of the rows. -/
def Three.Keeps (T : Three) (w w' : World) : Prop := ∀ g n z, T.Row g n z w → T.Row g n z w'
theorem Three.Keeps.row {T : Three} {g n : Nat} {z : Value} {w w' : World} (h : T.Keeps w w') (hr : T.Row g n z w) : T.Row g n z w' := h g n z hr
theorem Three.At.newI' {T : Three} {s1 s2 s3 : Bool} {w : World} {g n : Nat} (h : T.At s1 s2 s3 w) (hg : g = w.heap.size) : T.Row g n (.int .i64 0) (ring.rowI w n) := hg ▸ h.newI
theorem Three.At.newT' {T : Three} {s1 s2 s3 : Bool} {w : World} {g n : Nat} (h : T.At s1 s2 s3 w) (hg : g = w.heap.size) : T.Row g n (.string ⟨#[]⟩) (ring.rowT w n) := hg ▸ h.newT
theorem Three.At.newP' {T : Three} {s1 s2 s3 : Bool} {w : World} {g n : Nat} (h : T.At s1 s2 s3 w) (hg : g = w.heap.size) : T.Row g (n * 2) (.int .i64 0) (ring.rowP w n) := hg ▸ h.newP
end Go.Proofs.Ytaamachonbkjoaa.ring
