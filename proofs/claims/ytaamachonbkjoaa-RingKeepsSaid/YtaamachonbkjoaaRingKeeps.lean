/-
  RingKeeps answers true of every size and row of numbers, and leaves all that was there as it was.
  Conditions: none.
-/
import Derived.Test.YtaamachonbkjoaaRingKeepsA
namespace Go.Proofs.Ytaamachonbkjoaa.ring
open Go.ChangeShapes Go.WideShapes Go.ChangeAt Go.RowKit Go.Joins Go.Deep

section
variable {H : Type} {enc : TypeId × Value → H} {P : Program} {w : World} {base : Nat} {spare : Nat → Bool} {held : Bool}
/-- A row of numbers that came in. -/
theorem open_nums {t e : TypeId} {fuel : Nat} {v : Value} {x : DataW H × List MemPlace} (ht : P.underlying t = some (.slice e)) (he : P.underlying e = some (.int .i64)) (hC : P.cellsOf e = 1)
    (h : DataW.trod enc P w base spare held fuel t [v] = some x) : ∃ (ao : Option Addr) (len cap : Nat) (L : List Int), v = .slice ao len cap ∧ Nums w ao len cap L := by
  rcases open_ints ht he hC h with ⟨h0, h1⟩ | ⟨a, len, cap, zs, hcs, hb, hl, hm, hz, hx, hcell, hwz⟩
  · simp only [List.cons.injEq, and_true] at h0
    exact ⟨none, 0, 0, [], h0, ⟨rfl, Nat.le_refl _, by omega, fun _ => rfl, .inl rfl⟩⟩
  · simp only [List.cons.injEq, and_true] at hcs
    have hlz : len ≤ zs.length := by rw [hz]; split <;> omega
    refine ⟨some a, len, cap, zs.take len, hcs, ⟨by rw [List.length_take]; omega, hl, by unfold maxLen at hm; omega, fun e => (by cases e), ?_⟩⟩
    by_cases h0 : len = 0
    · exact .inl h0
    have hu0 := hcell 0 (by omega)
    obtain ⟨b, off, sp⟩ := a
    have hsp : sp = none := by simpa [Addr.add] using World.cell?_spot hu0
    subst hsp
    rw [plain_add] at hu0
    refine .inr ⟨b, off, rfl, World.block_lt_of_cell? _ _ hu0, fun i x hx => ?_⟩
    have hi : i < len := by have := (List.getElem?_eq_some_iff.1 hx).1; rw [List.length_take] at this; omega
    have hc := hcell i (by omega)
    rw [plain_add, List.getD_eq_getElem?_getD] at hc
    rw [List.getElem?_take_of_lt hi] at hx
    rw [hx] at hc
    exact hc
end
end Go.Proofs.Ytaamachonbkjoaa.ring

namespace Go.Proofs.Ytaamachonbkjoaa.ringKeeps
open Go.ChangeShapes Go.WideShapes Go.ChangeAt Go.RowKit Go.Joins

set_option maxRecDepth 100000 in
theorem contract (H : Type) (enc : TypeId × Value → H) (W : World) (base : Nat) (args : Array Value) (ds gs : List (DataW H)) (before : List MemPlace)
    (hval0 : ∀ (j : Nat) t v, Try.f6.params[j]? = some t → args[j]? = some v → Value.okWide Try.prog W .any base t v)
    (hW : DataW.Whole enc Try.prog Try.f6.params.toList Rows.ringKeepsSpec.vars false W args.toList ds gs before) :
    Calls Try.prog 6 args W fun e W' => e = .returned (.bool true) ∧ Below W.heap.size W W' := by
  have hval := hval0
  clear hval0
  obtain ⟨p, q, hA0, hV, _, _, _⟩ := hW
  have hA : DataW.TrodAll enc Try.prog W 0 (fun _ => true) true Try.f6.params.toList args.toList ds p := hA0
  obtain ⟨rfl, rfl⟩ := trodVars_none hV
  rw [Try.params6] at hA hval
  obtain ⟨v0, v1, d0, d1, p0, p1, rfl, rfl, rfl, h0, h1⟩ := trodAll_two hA
  obtain ⟨n, rfl, -, -, -⟩ := open_int Try.underlying3 (hval 0 _ v0 rfl rfl) h0
  obtain ⟨fuel, hf⟩ := h1
  obtain ⟨a, l, c, rfl⟩ := okWide_slice Try.underlying38 (hval 1 _ v1 rfl rfl)
  obtain ⟨ao, len, cap, L, hv, hL⟩ := ring.open_nums Try.underlying38 Try.underlying3 (by kernel_rfl) hf
  simp only [Value.slice.injEq] at hv
  obtain ⟨rfl, rfl, rfl⟩ := hv
  exact ring.keeps_any n _ _ _ L W hL

set_option maxRecDepth 100000 in
theorem lifted (os : Os) (started : os.Started) (H : Type) (enc : TypeId × Value → H) :
    ReturnsInHanded {} Try.checked os 6 .any (Rows.ringKeepsSpec.pre6 enc Try.prog Try.f6 Rows.ringKeepsRow.domain false) (Rows.ringKeepsSpec.post enc Try.prog Try.f6 false true false false) := by
  refine returnsInHanded_of_change_sized (C := Try.checked) own started (by kernel_rfl) Try.func6
    (ChangeSpec.witness6 (enc := enc) (C := Try.checked) false ⟨#[], #[.int .i64 0, .slice none 0 0], []⟩ 8 (by kernel_rfl) (by kernel_rfl) (by kernel_rfl) (by kernel_rfl)) ?_
  intro W base args ds gs before hval hW _ _ _
  have hW0 : DataW.Whole enc Try.prog Try.f6.params.toList Rows.ringKeepsSpec.vars false W args.toList ds gs before := hW
  refine (contract H enc W base args ds gs before hval hW).mono fun e W' ⟨he, hb⟩ => ⟨_, he, post_law laidOut (by kernel_rfl) (by kernel_rfl : Try.prog.underlying 4 = some .bool) (by kernel_rfl) rfl hW0 ?_ hb⟩
  obtain ⟨p, q, hA0, _⟩ := hW0
  have hA : DataW.TrodAll enc Try.prog W 0 (fun _ => true) true Try.f6.params.toList args.toList ds p := hA0
  rw [Try.params6] at hA
  obtain ⟨v0, vs0, d0, ds0, p0, q0, hargs, rfl, rfl, h0, r0⟩ := trodAll_cons hA
  obtain ⟨v1, vs1, d1, ds1, p1, q1, rfl, rfl, rfl, h1, r1⟩ := trodAll_cons r0
  obtain ⟨rfl, rfl, rfl⟩ := trodAll_nil r1
  rfl

theorem holds : Rows.RingKeepsSaid :=
  OpenClaim.holds_of_wide 6 Try.f6 rfl rfl rfl rfl rfl rfl rfl ⟨rfl, rfl, rfl, rfl, rfl⟩ rfl rfl rfl rfl rfl (by kernel_rfl) Try.func6 (by kernel_rfl)
    (of_decide_eq_true (by kernel_rfl)) (by unfold Func.isWrapper; first | (rw [if_pos (by decide +kernel)]; kernel_rfl) | (rw [if_neg (by decide +kernel)]; exact ⟨rfl, rfl⟩))
    (fun os started H enc _ => lifted os started H enc)
#print axioms holds
end Go.Proofs.Ytaamachonbkjoaa.ringKeeps
