/-
  The position of a way.
-/
import Derived.Test.YtokldploloncgaaTopoM
namespace Go.Proofs.Ytokldploloncgaa.topo

theorem posT_cases (k i o : Int) : posT k i o = if k = 0 then (if (i = 0 ∧ o = 1) ∨ (i = 1 ∧ o = 0) then some 0 else none)
    else if k = 1 then (if (i = 0 ∧ o = 1) ∨ (i = 1 ∧ o = 0) then some 1 else if (i = 0 ∧ o = 2) ∨ (i = 2 ∧ o = 0) then some 2 else none)
    else if k = 2 then (if (i = 0 ∧ o = 1) ∨ (i = 1 ∧ o = 0) ∨ (i = 2 ∧ o = 3) ∨ (i = 3 ∧ o = 2) then some 0 else none) else none := by
  have key : ∀ a b : Int, a ≠ b → (otherT a b i = some o ↔ (i = a ∧ o = b) ∨ (i = b ∧ o = a)) := by
    intro a b hab
    unfold otherT
    by_cases h1 : i = a
    · rw [if_pos h1]
      simp
      omega
    · rw [if_neg h1]
      by_cases h2 : i = b
      · rw [if_pos h2]
        simp
        omega
      · rw [if_neg h2]
        simp
        omega
  unfold posT tab
  by_cases h0 : k = 0
  · simp only [if_pos h0, posL]
    by_cases h : otherT 0 1 i = some o
    · rw [if_pos h, if_pos ((key 0 1 (by decide)).1 h)]
    · rw [if_neg h, if_neg (fun h2 => h ((key 0 1 (by decide)).2 h2))]
  · simp only [if_neg h0]
    by_cases h1 : k = 1
    · simp only [if_pos h1, posL]
      by_cases h : otherT 0 1 i = some o
      · rw [if_pos h, if_pos ((key 0 1 (by decide)).1 h)]
      · rw [if_neg h, if_neg (fun h2 => h ((key 0 1 (by decide)).2 h2))]
        by_cases h2 : otherT 0 2 i = some o
        · rw [if_pos h2, if_pos ((key 0 2 (by decide)).1 h2)]
        · rw [if_neg h2, if_neg (fun h3 => h2 ((key 0 2 (by decide)).2 h3))]
    · simp only [if_neg h1]
      by_cases h2 : k = 2
      · simp only [if_pos h2, posL]
        by_cases h : otherT 0 1 i = some o
        · rw [if_pos h, if_pos (by have := (key 0 1 (by decide)).1 h; omega)]
        · rw [if_neg h]
          by_cases h3 : otherT 2 3 i = some o
          · rw [if_pos h3, if_pos (by have := (key 2 3 (by decide)).1 h3; omega)]
          · rw [if_neg h3, if_neg]
            intro h4
            rcases h4 with h4 | h4 | h4 | h4
            · exact h ((key 0 1 (by decide)).2 (.inl h4))
            · exact h ((key 0 1 (by decide)).2 (.inr h4))
            · exact h3 ((key 2 3 (by decide)).2 (.inl h4))
            · exact h3 ((key 2 3 (by decide)).2 (.inr h4))
      · simp only [if_neg h2]
        rfl
theorem pos_ne {k i o q : Int} (h : posT k i o = some q) : i ≠ o := by
  rw [posT_cases] at h
  split at h
  · split at h
    · omega
    · cases h
  · split at h
    · split at h
      · omega
      · split at h
        · omega
        · cases h
    · split at h
      · split at h
        · omega
        · cases h
      · cases h
theorem way_pos {k i p o : Int} (h : wayT k i p = some o) : ∃ q, posT k i o = some q ∧ (q = 0 ∨ q = p) := by
  rw [wayT_cases] at h
  rw [posT_cases]
  by_cases h0 : k = 0
  · rw [if_pos h0] at h
    refine ⟨0, ?_, .inl rfl⟩
    rw [if_pos h0, if_pos]
    split at h
    · injection h with h; omega
    · split at h
      · injection h with h; omega
      · cases h
  · rw [if_neg h0] at h
    rw [if_neg h0]
    by_cases h1 : k = 1
    · rw [if_pos h1] at h
      rw [if_pos h1]
      split at h
      · rename_i hp
        refine ⟨1, ?_, .inr hp.symm⟩
        rw [if_pos]
        split at h
        · injection h with h; omega
        · split at h
          · injection h with h; omega
          · cases h
      · split at h
        · rename_i hp
          refine ⟨2, ?_, .inr hp.symm⟩
          split at h
          · injection h with h; rw [if_neg (by omega), if_pos (by omega)]
          · split at h
            · injection h with h; rw [if_neg (by omega), if_pos (by omega)]
            · cases h
        · cases h
    · rw [if_neg h1] at h
      rw [if_neg h1]
      by_cases h2 : k = 2
      · rw [if_pos h2] at h
        refine ⟨0, ?_, .inl rfl⟩
        rw [if_pos h2, if_pos]
        split at h
        · injection h with h; omega
        · split at h
          · injection h with h; omega
          · split at h
            · injection h with h; omega
            · split at h
              · injection h with h; omega
              · cases h
      · rw [if_neg h2] at h
        cases h
end Go.Proofs.Ytokldploloncgaa.topo
