/-
  What a row of one's own, written step by step, keeps of the way (plain).
-/
import Derived.Test.YtokldploloncgaaTopoO
namespace Go.Proofs.Ytokldploloncgaa.topo
open Go.RowKit

theorem follow_good {S : List (Int × Int × Int)} {J : List (Int × Int × Int × Int)} {P : List Int} : ∀ (m : Nat) (L : List (Int × Int × Int)) (s i : Int), (∀ x ∈ L, goodAt S x.1 x.2.1) → ∀ x ∈ followT S J P m L s i, goodAt S x.1 x.2.1
  | 0, L, s, i, h => by simpa [followT] using h
  | m + 1, L, s, i, h => by
    by_cases hg : goodAt S s i ∧ seenIn L s = false
    · have hc : ∀ e, ∀ x ∈ L ++ [(s, i, e)], goodAt S x.1 x.2.1 := fun e x hx => by
        rcases List.mem_append.1 hx with hx | hx
        · exact h x hx
        · rw [List.mem_singleton] at hx
          subst hx
          exact hg.1
      rw [followT, if_pos hg]
      cases hw : wayT (kindAt S s) i (posAt P s) with
      | none => exact hc (-1)
      | some e =>
        cases hx : nextT J s e with
        | none => simpa only [hx] using hc e
        | some q =>
          obtain ⟨s', i'⟩ := q
          simpa only [hx] using follow_good m _ s' i' (hc e)
    · rw [followT, if_neg hg]
      exact h

/-- What is kept of the first k steps. -/
def Kept (S : List (Int × Int × Int)) (P B : List Int) (Wy : List (Int × Int × Int)) (k : Nat) : Prop := B.length = P.length ∧ ∀ j x, j < k → Wy[j]? = some x → kindAt S x.1 = 1 → B[x.1.toNat]? = P[x.1.toNat]?
theorem Kept.skip {S : List (Int × Int × Int)} {P B : List Int} {Wy : List (Int × Int × Int)} {k : Nat} (h : Kept S P B Wy k) {x : Int × Int × Int} (hx : Wy[k]? = some x) (hk : kindAt S x.1 ≠ 1) : Kept S P B Wy (k + 1) :=
  ⟨h.1, fun j y hj hy hy1 => by
    by_cases e : j = k
    · subst e
      rw [hx] at hy
      injection hy with hy
      subst hy
      exact absurd hy1 hk
    · exact h.2 j y (by omega) hy hy1⟩
theorem Kept.put {S : List (Int × Int × Int)} {P B : List Int} {Wy : List (Int × Int × Int)} {k : Nat} (h : Kept S P B Wy k) {x : Int × Int × Int} (hx : Wy[k]? = some x) {n : Nat} {v : Int} (hn : x.1 = n) (hv : P[n]? = some v) : Kept S P (B.set n v) Wy (k + 1) :=
  ⟨by rw [List.length_set, h.1], fun j y hj hy hy1 => by
    by_cases e : y.1.toNat = n
    · rw [e, hv, List.getElem?_set_self (by rw [h.1]; exact (List.getElem?_eq_some_iff.1 hv).1)]
    · rw [List.getElem?_set_ne (fun e' => e e'.symm)]
      by_cases ej : j = k
      · subst ej
        rw [hx] at hy
        injection hy with hy
        subst hy
        exact absurd (by rw [hn]; rfl) e
      · exact h.2 j y (by omega) hy hy1⟩
/-- The way with what was kept is the way. -/
theorem Kept.same {S : List (Int × Int × Int)} {J : List (Int × Int × Int × Int)} {P B : List Int} {Wy : List (Int × Int × Int)} {m : Nat} {s i : Int} (hW : followT S J P m [] s i = Wy) (h : Kept S P B Wy Wy.length) : followT S J B m [] s i = Wy := by
  rw [← hW]
  refine follow_blind S J P B m [] s i (fun x hx hk => ?_)
  have hg := follow_good m [] s i (by simp) x hx
  rw [hW] at hx
  obtain ⟨j, hj⟩ := List.getElem?_of_mem hx
  have := h.2 j x (List.getElem?_eq_some_iff.1 hj).1 hj hk
  have h0 : 0 ≤ x.1 := hg.1.1
  unfold posAt
  rw [h.1]
  by_cases hl : x.1 < (P.length : Int)
  · rw [if_pos hl, if_pos hl, List.getD_eq_getElem?_getD, List.getD_eq_getElem?_getD, this]
  · rw [if_neg hl, if_neg hl]
end Go.Proofs.Ytokldploloncgaa.topo
