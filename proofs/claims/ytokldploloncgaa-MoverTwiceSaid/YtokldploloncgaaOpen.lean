/-
  What an argument of a law is, cell by cell, given that it reads as data.
-/
import Derived.Test.YtokldploloncgaaLaw
import Derived.Lib.SmallJoins
import Derived.OpenShut
import Derived.SizedLaws
namespace Go.Proofs.Ytokldploloncgaa
open Go.ChangeShapes Go.WideShapes Go.ChangeAt Go.RowKit Go.Joins

section
variable {H : Type} {enc : TypeId × Value → H} {P : Program} {w : World} {base : Nat} {spare : Nat → Bool} {held : Bool}

/-- An integer of 64 bits is within its bounds. -/
theorem bounds {n : Int} (h : (Lit.int .i64 n).wf = true) : -9223372036854775808 ≤ n ∧ n ≤ 9223372036854775807 := by
  have h1 : IntKind.i64.min = -9223372036854775808 := rfl
  have h2 : IntKind.i64.max = 9223372036854775807 := rfl
  simp only [Lit.wf, Bool.and_eq_true, decide_eq_true_eq] at h
  omega

/-- One cell that reads as an integer. -/
theorem int_cell {t : TypeId} {c : Value} {fuel : Nat} {x : DataW H × List MemPlace} (ht : P.underlying t = some (.int .i64)) (h : DataW.trod enc P w base spare held fuel t [c] = some x) :
    ∃ n, c = .int .i64 n ∧ x = (.lit (.int .i64 n), []) ∧ (-9223372036854775808 ≤ n ∧ n ≤ 9223372036854775807) := by
  obtain ⟨n, e, hx, hw⟩ := DataW.trod_int ht h
  exact ⟨n, by simpa using e, hx, bounds hw⟩
theorem bool_cell {t : TypeId} {c : Value} {fuel : Nat} {x : DataW H × List MemPlace} (ht : P.underlying t = some .bool) (h : DataW.trod enc P w base spare held fuel t [c] = some x) : ∃ b, c = .bool b ∧ x = (.lit (.bool b), []) := by
  obtain ⟨b, e, hx⟩ := DataW.trod_bool ht h
  exact ⟨b, by simpa using e, hx⟩

/-- Three integers, as an array by value. -/
theorem open_arr3 {r : Reach} {b0 : Nat} {t e : TypeId} {v : Value} {d : DataW H} {p : List MemPlace} (ht : P.underlying t = some (.array 3 e)) (he : P.underlying e = some (.int .i64)) (hct : P.cellsOf t = 3) (hce : P.cellsOf e = 1)
    (hv : Value.okWide P w r b0 t v) (h : DataW.Trod enc P w base spare held t v d p) :
    ∃ x y z, v = .agg #[.int .i64 x, .int .i64 y, .int .i64 z] ∧ (-9223372036854775808 ≤ x ∧ x ≤ 9223372036854775807) ∧ (-9223372036854775808 ≤ y ∧ y ≤ 9223372036854775807) ∧ (-9223372036854775808 ≤ z ∧ z ≤ 9223372036854775807) := by
  simp only [Value.okWide, ht] at hv
  obtain ⟨cs, rfl, hsz, _⟩ := hv
  obtain ⟨l⟩ := cs
  match l, hsz.trans hct with
  | [c0, c1, c2], _ =>
    obtain ⟨fuel, hf⟩ := h
    obtain ⟨xs, m, _, _, _, hl, hi⟩ := DataW.trod_array ht hf
    have h0 := hi 0 (by omega)
    have h1 := hi 1 (by omega)
    have h2 := hi 2 (by omega)
    rw [List.getElem?_eq_getElem (by omega)] at h0 h1 h2
    simp only [hce, Value.cells, List.drop_zero, List.drop_succ_cons, List.take_succ_cons, List.take_zero, Nat.mul_one] at h0 h1 h2
    obtain ⟨x, rfl, _, bx⟩ := int_cell he h0
    obtain ⟨y, rfl, _, by'⟩ := int_cell he h1
    obtain ⟨z, rfl, _, bz⟩ := int_cell he h2
    exact ⟨x, y, z, rfl, bx, by', bz⟩
end
end Go.Proofs.Ytokldploloncgaa
