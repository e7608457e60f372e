/-
  Two integers, as an array by value.
-/
import Derived.Test.YtokldploloncgaaOpen
namespace Go.Proofs.Ytokldploloncgaa
open Go.ChangeShapes Go.WideShapes Go.ChangeAt Go.RowKit Go.Joins Go.Deep

section
variable {H : Type} {enc : TypeId × Value → H} {P : Program} {w : World} {base : Nat} {spare : Nat → Bool} {held : Bool}
theorem open_arr2 {r : Reach} {b0 : Nat} {t e : TypeId} {v : Value} {d : DataW H} {p : List MemPlace} (ht : P.underlying t = some (.array 2 e)) (he : P.underlying e = some (.int .i64)) (hct : P.cellsOf t = 2) (hce : P.cellsOf e = 1)
    (hv : Value.okWide P w r b0 t v) (h : DataW.Trod enc P w base spare held t v d p) :
    ∃ x y, v = .agg #[.int .i64 x, .int .i64 y] ∧ (-9223372036854775808 ≤ x ∧ x ≤ 9223372036854775807) ∧ (-9223372036854775808 ≤ y ∧ y ≤ 9223372036854775807) := by
  simp only [Value.okWide, ht] at hv
  obtain ⟨cs, rfl, hsz, _⟩ := hv
  obtain ⟨l⟩ := cs
  match l, hsz.trans hct with
  | [c0, c1], _ =>
    obtain ⟨fuel, hf⟩ := h
    obtain ⟨xs, m, _, _, _, hl, hi⟩ := DataW.trod_array ht hf
    have h0 := hi 0 (by omega)
    have h1 := hi 1 (by omega)
    rw [List.getElem?_eq_getElem (by omega)] at h0 h1
    simp only [hce, Value.cells, List.drop_zero, List.drop_succ_cons, List.take_succ_cons, List.take_zero, Nat.mul_one] at h0 h1
    obtain ⟨x, rfl, _, bx⟩ := int_cell he h0
    obtain ⟨y, rfl, _, by'⟩ := int_cell he h1
    exact ⟨x, y, rfl, bx, by'⟩
end
end Go.Proofs.Ytokldploloncgaa
