/-
  A way goes both ways round; of each kind just its ends have one.
-/
import Derived.Test.YtokldploloncgaaTopoA
namespace Go.Proofs.Ytokldploloncgaa.topo

theorem wayT_cases (k i p : Int) : wayT k i p = if k = 0 then (if i = 0 then some 1 else if i = 1 then some 0 else none)
    else if k = 1 then (if p = 1 then (if i = 0 then some 1 else if i = 1 then some 0 else none) else if p = 2 then (if i = 0 then some 2 else if i = 2 then some 0 else none) else none)
    else if k = 2 then (if i = 0 then some 1 else if i = 1 then some 0 else if i = 2 then some 3 else if i = 3 then some 2 else none) else none := by
  unfold wayT tab
  by_cases h0 : k = 0
  · simp only [if_pos h0, wayL, otherT]
    by_cases hi0 : i = 0
    · subst hi0; simp
    · by_cases hi1 : i = 1
      · subst hi1; simp
      · simp [hi0, hi1]
  · rw [if_neg h0, if_neg h0]
    by_cases h1 : k = 1
    · simp only [if_pos h1, wayL, otherT]
      by_cases hp1 : p = 1
      · subst hp1
        by_cases hi0 : i = 0
        · subst hi0; simp
        · by_cases hi1 : i = 1
          · subst hi1; simp
          · by_cases hi2 : i = 2
            · subst hi2; simp
            · simp [hi0, hi1, hi2]
      · by_cases hp2 : p = 2
        · subst hp2
          by_cases hi0 : i = 0
          · subst hi0; simp
          · by_cases hi1 : i = 1
            · subst hi1; simp
            · by_cases hi2 : i = 2
              · subst hi2; simp
              · simp [hi0, hi1, hi2]
        · have n1 : ¬(1 : Int) = p := fun h => hp1 h.symm
          have n2 : ¬(2 : Int) = p := fun h => hp2 h.symm
          by_cases hi0 : i = 0
          · subst hi0; simp [hp1, hp2, n1, n2]
          · by_cases hi1 : i = 1
            · subst hi1; simp [hp1, hp2, n1]
            · by_cases hi2 : i = 2
              · subst hi2; simp [hp1, hp2, n2]
              · simp [hi0, hi1, hi2]
    · rw [if_neg h1, if_neg h1]
      by_cases h2 : k = 2
      · simp only [if_pos h2, wayL, otherT]
        by_cases hi0 : i = 0
        · subst hi0; simp
        · by_cases hi1 : i = 1
          · subst hi1; simp
          · by_cases hi2 : i = 2
            · subst hi2; simp
            · by_cases hi3 : i = 3
              · subst hi3; simp
              · simp [hi0, hi1, hi2, hi3]
      · rw [if_neg h2, if_neg h2]
        rfl
/-- A way goes both ways round, to another end of the section. -/
theorem way_back {k i p o : Int} (h : wayT k i p = some o) : wayT k o p = some i ∧ o ≠ i ∧ 0 ≤ o ∧ o < endsT k ∧ 0 ≤ i ∧ i < endsT k := by
  rw [wayT_cases] at h ⊢
  unfold endsT
  by_cases h0 : k = 0
  · rw [if_pos h0] at h ⊢
    rw [if_pos h0]
    split at h
    · injection h with h; subst h; simp [*]
    · split at h
      · injection h with h; subst h; simp [*]
      · cases h
  · rw [if_neg h0] at h ⊢
    rw [if_neg h0]
    by_cases h1 : k = 1
    · rw [if_pos h1] at h ⊢
      rw [if_pos h1]
      split at h
      · split at h
        · injection h with h; subst h; simp [*]
        · split at h
          · injection h with h; subst h; simp [*]
          · cases h
      · split at h
        · split at h
          · injection h with h; subst h; simp [*]
          · split at h
            · injection h with h; subst h; simp [*]
            · cases h
        · cases h
    · rw [if_neg h1] at h ⊢
      rw [if_neg h1]
      by_cases h2 : k = 2
      · rw [if_pos h2] at h ⊢
        rw [if_pos h2]
        split at h
        · injection h with h; subst h; simp [*]
        · split at h
          · injection h with h; subst h; simp [*]
          · split at h
            · injection h with h; subst h; simp [*]
            · split at h
              · injection h with h; subst h; simp [*]
              · cases h
      · rw [if_neg h2] at h
        cases h
def fnd (k e : Int) (P : List Int) : Bool := P.any fun p => (wayT k e p).isSome
theorem fnd_all (k e : Int) : fnd k e [0, 1, 2] = (decide (0 ≤ e) && decide (e < endsT k)) := by
  simp only [fnd, List.any_cons, List.any_nil, Bool.or_false]
  rw [wayT_cases, wayT_cases, wayT_cases]
  unfold endsT
  by_cases h0 : k = 0
  · simp only [if_pos h0]
    by_cases e0 : e = 0
    · subst e0; decide
    · by_cases e1 : e = 1
      · subst e1; decide
      · simp [e0, e1]; omega
  · simp only [if_neg h0]
    by_cases h1 : k = 1
    · simp only [if_pos h1]
      by_cases e0 : e = 0
      · subst e0; decide
      · by_cases e1 : e = 1
        · subst e1; decide
        · by_cases e2 : e = 2
          · subst e2; decide
          · simp [e0, e1, e2]; omega
    · simp only [if_neg h1]
      by_cases h2 : k = 2
      · simp only [if_pos h2]
        by_cases e0 : e = 0
        · subst e0; decide
        · by_cases e1 : e = 1
          · subst e1; decide
          · by_cases e2 : e = 2
            · subst e2; decide
            · by_cases e3 : e = 3
              · subst e3; decide
              · simp [e0, e1, e2, e3]; omega
      · simp [h2]

end Go.Proofs.Ytokldploloncgaa.topo
