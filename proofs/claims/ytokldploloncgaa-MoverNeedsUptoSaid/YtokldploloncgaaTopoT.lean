/-
  A row of numbers of one's own, as 'make' lays it and as it is written.
-/
import Derived.Test.YtokldploloncgaaTopoP
import Derived.Deep.OwnRows
namespace Go.Proofs.Ytokldploloncgaa.topo
open Go.RowKit Go.Deep

theorem info_int : (Try.prog.info? 3).map (fun i => (i.zero, i.size, i.bytes)) = some (some (.int .i64 0), 1, 8) := by kernel_rfl
def rowI (w : World) (n : Nat) : World := w.alloc (.cells (madeCells #[.int .i64 0] n) 3)
theorem rowI_below (w : World) (n : Nat) : Below w.heap.size w (rowI w n) := below_new (Below.refl _ _) _
theorem makeI (n : Nat) (h63 : n ≤ 9223372036854775807) (hn : n * 8 ≤ 281474976710656) (w : World) : (Instr.makeSlice 37 (.int .i64 (n : Int)) (.int .i64 (n : Int))).run Try.prog w = .ok (.slice (some ⟨w.heap.size, 0, none⟩) n n) (rowI w n) :=
  run_make_row' (P := Try.prog) 37 3 (.int .i64 0) 8 Try.underlying37 info_int rfl .i64 .i64 n (by omega) h63 w

structure OwnI (w : World) (g n : Nat) (B : List Int) : Prop where
  len : B.length = n
  lt : g < w.heap.size
  cell : ∀ (i : Nat) (x : Int), B[i]? = some x → w.cell? ⟨g, i, none⟩ = some (.int .i64 x)
  free : ∀ o, w.frozen? ⟨g, o, none⟩ = false
theorem rowI_own (w : World) (n : Nat) : OwnI (rowI w n) w.heap.size n (List.replicate n 0) := by
  have hh : (rowI w n).heap[w.heap.size]? = some (.cells (madeCells #[.int .i64 0] n) 3) := heap_alloc_new w _
  refine ⟨List.length_replicate, by simp [rowI], fun i x hx => ?_, fun o => frozen_of_row _ _ o _ _ hh⟩
  rw [List.getElem?_replicate] at hx
  split at hx
  · rename_i hi
    injection hx with hx
    subst hx
    rw [cell_of_row _ _ i _ _ _ hh]
    simp [madeCells, hi, Nat.mod_one]
  · cases hx
section
variable {w w' : World} {g n : Nat} {B : List Int}
theorem OwnI.below (h : OwnI w g n B) (hb : Below w.heap.size w w') : OwnI w' g n B :=
  ⟨h.len, Nat.lt_of_lt_of_le h.lt hb.size, fun i x hx => (hb.cell (p := ⟨g, i, none⟩) h.lt).trans (h.cell i x hx), fun o => (hb.frozen (p := ⟨g, o, none⟩) h.lt).trans (h.free o)⟩
theorem OwnI.set (h : OwnI w g n B) {i : Nat} (hi : i < n) (v : Int) : OwnI (w.setCell ⟨g, i, none⟩ (.int .i64 v)) g n (B.set i v) := by
  have hB : i < B.length := by rw [h.len]; exact hi
  refine ⟨by rw [List.length_set]; exact h.len, by simpa using h.lt, fun j x hx => ?_, fun o => (World.frozen?_setCell _ _ _ _).trans (h.free o)⟩
  by_cases e : j = i
  · subst e
    rw [List.getElem?_set_self hB] at hx
    injection hx with hx
    subst hx
    exact cell_set _ _ _ _ (h.cell j _ (List.getElem?_eq_getElem hB))
  · rw [List.getElem?_set_ne (fun e' => e e'.symm)] at hx
    rw [World.cell?_setCell_other _ _ _ _ (by intro e2; injection e2 with e3 e4; exact e e4.symm)]
    exact h.cell j x hx
theorem OwnI.rows (h : OwnI w g n B) (hn : n ≤ 9223372036854775807) : RowsAt 1 enc1 w (some ⟨g, 0, none⟩) n n B := by
  refine ⟨h.len, Nat.le_refl _, hn, fun e => (by cases e), .inr ⟨g, 0, rfl, h.lt, fun i x hx j u hu => ?_⟩⟩
  have hj : j = 0 := by have := (List.getElem?_eq_some_iff.1 hu).1; simp [enc1] at this; omega
  subst hj
  simp [enc1] at hu
  subst hu
  rw [Nat.zero_add, Nat.mul_one, Nat.add_zero]
  exact h.cell i x hx
end
end Go.Proofs.Ytokldploloncgaa.topo
