/-
  A row of numbers that came in, as the walks of the queues speak of it.
-/
import Derived.Test.YtaamachonbkjoaaRingKeepsA
import Derived.Test.YtaamachonbkjoaaOpen
namespace Go.Proofs.Ytaamachonbkjoaa.ring
open Go.ChangeShapes Go.WideShapes Go.ChangeAt Go.RowKit Go.Joins Go.Deep

section
variable {H : Type} {enc : TypeId × Value → H} {P : Program} {w : World} {base : Nat} {spare : Nat → Bool} {held : Bool}
/-- A row of numbers that came in. -/
theorem open_nums {t e : TypeId} {fuel : Nat} {v : Value} {x : DataW H × List MemPlace} (ht : P.underlying t = some (.slice e)) (he : P.underlying e = some (.int .i64)) (hC : P.cellsOf e = 1)
    (h : DataW.trod enc P w base spare held fuel t [v] = some x) : ∃ (ao : Option Addr) (len cap : Nat) (L : List Int), v = .slice ao len cap ∧ Nums w ao len cap L := by
  rcases open_ints ht he hC h with ⟨h0, h1⟩ | ⟨a, len, cap, zs, hcs, hb, hl, hm, hz, hx, hcell, hwz⟩
  · simp only [List.cons.injEq, and_true] at h0
    exact ⟨none, 0, 0, [], h0, ⟨rfl, Nat.le_refl _, by omega, fun _ => rfl, .inl rfl⟩⟩
  · simp only [List.cons.injEq, and_true] at hcs
    have hlz : len ≤ zs.length := by rw [hz]; split <;> omega
    refine ⟨some a, len, cap, zs.take len, hcs, ⟨by rw [List.length_take]; omega, hl, by unfold maxLen at hm; omega, fun e => (by cases e), ?_⟩⟩
    by_cases h0 : len = 0
    · exact .inl h0
    have hu0 := hcell 0 (by omega)
    obtain ⟨b, off, sp⟩ := a
    have hsp : sp = none := by simpa [Addr.add] using World.cell?_spot hu0
    subst hsp
    rw [plain_add] at hu0
    refine .inr ⟨b, off, rfl, World.block_lt_of_cell? _ _ hu0, fun i x hx => ?_⟩
    have hi : i < len := by have := (List.getElem?_eq_some_iff.1 hx).1; rw [List.length_take] at this; omega
    have hc := hcell i (by omega)
    rw [plain_add, List.getD_eq_getElem?_getD] at hc
    rw [List.getElem?_take_of_lt hi] at hx
    rw [hx] at hc
    exact hc
end
end Go.Proofs.Ytaamachonbkjoaa.ring
