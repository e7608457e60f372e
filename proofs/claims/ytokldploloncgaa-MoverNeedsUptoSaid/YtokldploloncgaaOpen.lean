/-
  What an argument of a law is, cell by cell, given that it reads as data.
-/
import Derived.Test.YtokldploloncgaaLaw
import Derived.Lib.SmallJoins
import Derived.OpenShut
import Derived.SizedLaws
import Derived.Deep.Slices
import Derived.Deep.Fields
namespace Go.Proofs.Ytokldploloncgaa
open Go.ChangeShapes Go.WideShapes Go.ChangeAt Go.RowKit Go.Joins Go.Deep

section
variable {H : Type} {enc : TypeId × Value → H} {P : Program} {w : World} {base : Nat} {spare : Nat → Bool} {held : Bool}

/-- An integer of 64 bits is within its bounds. -/
theorem bounds {n : Int} (h : (Lit.int .i64 n).wf = true) : -9223372036854775808 ≤ n ∧ n ≤ 9223372036854775807 := by
  have h1 : IntKind.i64.min = -9223372036854775808 := rfl
  have h2 : IntKind.i64.max = 9223372036854775807 := rfl
  simp only [Lit.wf, Bool.and_eq_true, decide_eq_true_eq] at h
  omega

/-- One cell that reads as an integer. -/
theorem int_cell {t : TypeId} {c : Value} {fuel : Nat} {x : DataW H × List MemPlace} (ht : P.underlying t = some (.int .i64)) (h : DataW.trod enc P w base spare held fuel t [c] = some x) :
    ∃ n, c = .int .i64 n ∧ x = (.lit (.int .i64 n), []) ∧ (-9223372036854775808 ≤ n ∧ n ≤ 9223372036854775807) := by
  obtain ⟨n, e, hx, hw⟩ := DataW.trod_int ht h
  exact ⟨n, by simpa using e, hx, bounds hw⟩
theorem bool_cell {t : TypeId} {c : Value} {fuel : Nat} {x : DataW H × List MemPlace} (ht : P.underlying t = some .bool) (h : DataW.trod enc P w base spare held fuel t [c] = some x) : ∃ b, c = .bool b ∧ x = (.lit (.bool b), []) := by
  obtain ⟨b, e, hx⟩ := DataW.trod_bool ht h
  exact ⟨b, by simpa using e, hx⟩

/-- Three integers, as an array by value. -/
theorem open_arr3 {r : Reach} {b0 : Nat} {t e : TypeId} {v : Value} {d : DataW H} {p : List MemPlace} (ht : P.underlying t = some (.array 3 e)) (he : P.underlying e = some (.int .i64)) (hct : P.cellsOf t = 3) (hce : P.cellsOf e = 1)
    (hv : Value.okWide P w r b0 t v) (h : DataW.Trod enc P w base spare held t v d p) :
    ∃ x y z, v = .agg #[.int .i64 x, .int .i64 y, .int .i64 z] ∧ (-9223372036854775808 ≤ x ∧ x ≤ 9223372036854775807) ∧ (-9223372036854775808 ≤ y ∧ y ≤ 9223372036854775807) ∧ (-9223372036854775808 ≤ z ∧ z ≤ 9223372036854775807) := by
  simp only [Value.okWide, ht] at hv
  obtain ⟨cs, rfl, hsz, _⟩ := hv
  obtain ⟨l⟩ := cs
  match l, hsz.trans hct with
  | [c0, c1, c2], _ =>
    obtain ⟨fuel, hf⟩ := h
    obtain ⟨xs, m, _, _, _, hl, hi⟩ := DataW.trod_array ht hf
    have h0 := hi 0 (by omega)
    have h1 := hi 1 (by omega)
    have h2 := hi 2 (by omega)
    rw [List.getElem?_eq_getElem (by omega)] at h0 h1 h2
    simp only [hce, Value.cells, List.drop_zero, List.drop_succ_cons, List.take_succ_cons, List.take_zero, Nat.mul_one] at h0 h1 h2
    obtain ⟨x, rfl, _, bx⟩ := int_cell he h0
    obtain ⟨y, rfl, _, by'⟩ := int_cell he h1
    obtain ⟨z, rfl, _, bz⟩ := int_cell he h2
    exact ⟨x, y, z, rfl, bx, by', bz⟩

theorem plain_add (b o n : Nat) : (⟨b, o, none⟩ : Addr).add n = ⟨b, o + n, none⟩ := by
  unfold Addr.add
  split
  · rename_i h; subst h; rfl
  · rfl
theorem add_off (b o n : Nat) (s : Option Nat) (h : s = none) : (⟨b, o, s⟩ : Addr).add n = ⟨b, o + n, none⟩ := by subst h; exact plain_add b o n

/-- A slice of structs whose fields are of one cell each: every element, field by field. -/
theorem open_rows {t e : TypeId} {fs : Array Field} {fuel : Nat} {v : Value} {x : DataW H × List MemPlace} (ht : P.underlying t = some (.slice e)) (he : P.underlying e = some (.struct fs))
    (hone : oneCellFields P fs = true) (hC : P.cellsOf e = fs.size) (hpos : 0 < fs.size) (h : DataW.trod enc P w base spare held fuel t [v] = some x) :
    ∃ (ao : Option Addr) (len cap : Nat), v = .slice ao len cap ∧ len ≤ cap ∧ cap ≤ maxLen ∧
      (len = 0 ∨ ∃ (elems sp : List (DataW H)), x.1 = .slice elems sp ∧ elems.length = len ∧ ∃ b off, ao = some ⟨b, off, none⟩ ∧
        ∀ i, i < len → ∃ n, ∀ (j : Nat) (f : Field), fs[j]? = some f → ∃ (u : Value) (y : DataW H × List MemPlace), w.cell? ⟨b, off + i * fs.size + j, none⟩ = some u ∧ DataW.trod enc P w base spare held n f.type [u] = some y) := by
  rcases open_slice ht h with ⟨h0, h1⟩ | ⟨a, len, cap, m, n, D, Pl, hcs, hb, hl, hm, hmm, hx, hi⟩
  · simp only [List.cons.injEq, and_true] at h0
    exact ⟨none, 0, 0, h0, Nat.le_refl _, Nat.zero_le _, .inl rfl⟩
  · simp only [List.cons.injEq, and_true] at hcs
    refine ⟨some a, len, cap, hcs, hl, hm, ?_⟩
    by_cases h0 : len = 0
    · exact .inl h0
    have hlm : len ≤ m := by rw [hmm]; split <;> omega
    have each : ∀ i, i < len → ∃ k, ∀ (j : Nat) (f : Field), fs[j]? = some f → ∃ (u : Value) (y : DataW H × List MemPlace), w.cell? ((a.add (i * fs.size)).add j) = some u ∧ DataW.trod enc P w base spare held k f.type [u] = some y := by
      intro i hil
      obtain ⟨cs', hc, ht'⟩ := hi i (by omega)
      rw [hC] at hc
      obtain ⟨ys, k, _, _, _, hyl, hf⟩ := DataW.trod_struct he ht'
      obtain ⟨_, hcl, hat⟩ := World.cells?_some hc
      refine ⟨k, fun j f hj => ?_⟩
      obtain ⟨ho, hk⟩ := hone_of hone j f hj
      have hjl : j < fs.size := (Array.getElem?_eq_some_iff.1 hj).1
      have h1 := hf j f hj
      rw [ho, hk, List.drop_eq_getElem_cons (by omega)] at h1
      have h2 : ys[j]? = some (ys[j]'(by omega)) := List.getElem?_eq_getElem (by omega)
      exact ⟨cs'[j]'(by omega), ys[j]'(by omega), by rw [hat j hjl]; exact List.getElem?_eq_getElem (by omega), h1.trans h2⟩
    obtain ⟨k0, hk0⟩ := each 0 (by omega)
    obtain ⟨u0, _, hu0, _⟩ := hk0 0 (fs[0]'hpos) (Array.getElem?_eq_getElem hpos)
    obtain ⟨b, off, sp⟩ := a
    have hsp : sp = none := by simpa [Addr.add] using World.cell?_spot hu0
    subst hsp
    refine .inr ⟨_, _, by rw [hx], by simp, b, off, rfl, fun i hil => ?_⟩
    obtain ⟨k, hk⟩ := each i hil
    refine ⟨k, fun j f hj => ?_⟩
    obtain ⟨u, y, hu, hy⟩ := hk j f hj
    rw [plain_add, plain_add] at hu
    exact ⟨u, y, hu, hy⟩

/-- A slice of integers. -/
theorem open_row {t e : TypeId} {fuel : Nat} {v : Value} {x : DataW H × List MemPlace} (ht : P.underlying t = some (.slice e)) (he : P.underlying e = some (.int .i64)) (hC : P.cellsOf e = 1)
    (h : DataW.trod enc P w base spare held fuel t [v] = some x) :
    ∃ (ao : Option Addr) (len cap : Nat), v = .slice ao len cap ∧ len ≤ cap ∧ cap ≤ maxLen ∧
      (len = 0 ∨ ∃ (elems sp : List (DataW H)), x.1 = .slice elems sp ∧ elems.length = len ∧ ∃ b off, ao = some ⟨b, off, none⟩ ∧
        ∀ i, i < len → ∃ n, w.cell? ⟨b, off + i, none⟩ = some (.int .i64 n) ∧ (-9223372036854775808 ≤ n ∧ n ≤ 9223372036854775807)) := by
  rcases open_ints ht he hC h with ⟨h0, h1⟩ | ⟨a, len, cap, zs, hcs, hb, hl, hm, hz, hx, hcell, hwz⟩
  · simp only [List.cons.injEq, and_true] at h0
    exact ⟨none, 0, 0, h0, Nat.le_refl _, Nat.zero_le _, .inl rfl⟩
  · simp only [List.cons.injEq, and_true] at hcs
    refine ⟨some a, len, cap, hcs, hl, hm, ?_⟩
    by_cases h0 : len = 0
    · exact .inl h0
    have hlz : len ≤ zs.length := by rw [hz]; split <;> omega
    have hu0 := hcell 0 (by omega)
    obtain ⟨b, off, sp⟩ := a
    have hsp : sp = none := by simpa [Addr.add] using World.cell?_spot hu0
    subst hsp
    refine .inr ⟨_, _, by rw [hx], by simp [lits]; omega, b, off, rfl, fun i hil => ?_⟩
    have hi := hcell i (by omega)
    rw [plain_add] at hi
    refine ⟨_, hi, bounds (hwz _ ?_)⟩
    rw [List.getD_eq_getElem?_getD, List.getElem?_eq_getElem (by omega)]
    exact List.getElem_mem _
end
end Go.Proofs.Ytokldploloncgaa
