/-
  What Check's yes says of a plan; what meets which end, both ways; the way of a train as a chain.
-/
import Derived.Test.YtokldploloncgaaTopoJ
import Derived.Test.YtokldploloncgaaTopoM
namespace Go.Proofs.Ytokldploloncgaa.topo

/-- Of a plan that Check lets by. -/
structure Plan (S : List (Int × Int × Int)) (J : List (Int × Int × Int × Int)) : Prop where
  small : 1 ≤ S.length ∧ S.length ≤ 16
  joints : J.length ≤ 24
  nodup : (spots J).Nodup
  there : ∀ x ∈ spots J, spotOk S x = true
  apart : ∀ x ∈ J, x.1 ≠ x.2.2.1

theorem runI_spec {S : List (Int × Int × Int)} : ∀ (r T : List (Int × Int)), T.Nodup → runI S T r = true → (T ++ r).Nodup ∧ ∀ x ∈ r, spotOk S x = true
  | [], T, hT, _ => by simpa using hT
  | x :: r, T, hT, h => by
    simp only [runI, Bool.and_eq_true, Bool.not_eq_true'] at h
    obtain ⟨⟨h1, h2⟩, h3⟩ := h
    have hx : x ∉ T := by simpa using h2
    have hT' : (T ++ [x]).Nodup := List.nodup_append.2 ⟨hT, by simp, fun a ha b hb e => by simp at hb; subst hb; exact hx (e ▸ ha)⟩
    obtain ⟨h4, h5⟩ := runI_spec r (T ++ [x]) hT' h3
    refine ⟨by simpa using h4, fun y hy => ?_⟩
    rcases List.mem_cons.1 hy with rfl | hy
    · exact h1
    · exact h5 y hy

theorem runJ_spec {S : List (Int × Int × Int)} : ∀ (J : List (Int × Int × Int × Int)) (T : List (Int × Int)), T.Nodup → runJ S T J = true →
    (T ++ spots J).Nodup ∧ (∀ x ∈ spots J, spotOk S x = true) ∧ ∀ x ∈ J, x.1 ≠ x.2.2.1
  | [], T, hT, _ => by simpa [spots] using hT
  | (a, ae, b, be) :: r, T, hT, h => by
    simp only [runJ, Bool.and_eq_true, decide_eq_true_eq] at h
    obtain ⟨⟨h1, h2⟩, h3⟩ := h
    obtain ⟨h4, h5⟩ := runI_spec [(a, ae), (b, be)] T hT h1
    obtain ⟨h6, h7, h8⟩ := runJ_spec r (T ++ [(a, ae), (b, be)]) h4 h3
    refine ⟨by simpa [spots] using h6, fun x hx => ?_, fun x hx => ?_⟩
    · have hx' : x ∈ [(a, ae), (b, be)] ∨ x ∈ spots r := by simpa [spots, or_assoc] using hx
      rcases hx' with hx | hx
      · exact h5 x hx
      · exact h7 x hx
    · rcases List.mem_cons.1 hx with rfl | hx
      · exact h2
      · exact h8 x hx

theorem Plan.of_ok {S : List (Int × Int × Int)} {J : List (Int × Int × Int × Int)} (h : okT S J = true) : Plan S J := by
  simp only [okT, Bool.and_eq_true, decide_eq_true_eq] at h
  obtain ⟨⟨⟨h1, h2⟩, h3⟩, -⟩ := h
  obtain ⟨h4, h5, h6⟩ := runJ_spec J [] List.nodup_nil h3
  exact ⟨h1, h2, by simpa using h4, h5, h6⟩

theorem next_mem : ∀ (J : List (Int × Int × Int × Int)) (s e t f : Int), nextT J s e = some (t, f) → (t, f) ∈ spots J ∧ (s, e) ∈ spots J
  | [], _, _, _, _, h => by simp [nextT] at h
  | (a, ae, b, be) :: r, s, e, t, f, h => by
    rw [nextT] at h
    split at h
    · rename_i h1
      simp only [Option.some.injEq, Prod.mk.injEq] at h
      simp [spots, h, h1]
    · split at h
      · rename_i h1
        simp only [Option.some.injEq, Prod.mk.injEq] at h
        simp [spots, h, h1]
      · have := next_mem r s e t f h
        simp only [spots, List.flatMap_cons, List.mem_append]
        exact ⟨.inr this.1, .inr this.2⟩
/-- Two ends meet one another. -/
theorem next_sym : ∀ (J : List (Int × Int × Int × Int)) (s e t f : Int), (spots J).Nodup → (∀ x ∈ J, x.1 ≠ x.2.2.1) → nextT J s e = some (t, f) → nextT J t f = some (s, e) ∧ t ≠ s
  | [], _, _, _, _, _, _, h => by simp [nextT] at h
  | (a, ae, b, be) :: r, s, e, t, f, hn, hne, h => by
    have hab : a ≠ b := hne _ List.mem_cons_self
    rw [nextT] at h
    split at h
    · rename_i h1
      obtain ⟨rfl, rfl⟩ := h1
      simp only [Option.some.injEq, Prod.mk.injEq] at h
      obtain ⟨rfl, rfl⟩ := h
      rw [nextT, if_neg (fun h => hab h.1), if_pos ⟨rfl, rfl⟩]
      exact ⟨rfl, hab.symm⟩
    · split at h
      · rename_i h1
        obtain ⟨rfl, rfl⟩ := h1
        simp only [Option.some.injEq, Prod.mk.injEq] at h
        obtain ⟨rfl, rfl⟩ := h
        rw [nextT, if_pos ⟨rfl, rfl⟩]
        exact ⟨rfl, hab⟩
      · have hn' : ([(a, ae), (b, be)] ++ spots r).Nodup := by simpa [spots] using hn
        obtain ⟨-, hr, hd⟩ := List.nodup_append.1 hn'
        obtain ⟨ih1, ih2⟩ := next_sym r s e t f hr (fun x hx => hne x (List.mem_cons_of_mem _ hx)) h
        have hm := (next_mem r s e t f h).1
        rw [nextT, if_neg, if_neg]
        · exact ⟨ih1, ih2⟩
        · rintro ⟨rfl, rfl⟩
          exact hd (b, be) (by simp) (b, be) hm rfl
        · rintro ⟨rfl, rfl⟩
          exact hd (a, ae) (by simp) (a, ae) hm rfl

section
variable {S : List (Int × Int × Int)} {J : List (Int × Int × Int × Int)}
theorem Plan.next (h : Plan S J) {s e t f : Int} (hn : nextT J s e = some (t, f)) : nextT J t f = some (s, e) ∧ t ≠ s ∧ goodAt S t f := by
  obtain ⟨h1, h2⟩ := next_sym J s e t f h.nodup h.apart hn
  have h3 := h.there _ (next_mem J s e t f hn).1
  simp only [spotOk, decide_eq_true_eq] at h3
  exact ⟨h1, h2, ⟨h3.1, h3.2.1⟩, h3.2.2⟩
end

/-- The way hangs on the positions of Points alone. -/
theorem wayT_blind {k i p p' : Int} (hk : k ≠ 1) : wayT k i p = wayT k i p' := by
  rw [wayT_cases, wayT_cases, if_neg hk, if_neg hk]
theorem follow_prefix (S : List (Int × Int × Int)) (J : List (Int × Int × Int × Int)) (P : List Int) : ∀ (m : Nat) (L : List (Int × Int × Int)) (s i : Int), ∃ L', followT S J P m L s i = L ++ L'
  | 0, L, s, i => ⟨[], by simp [followT]⟩
  | m + 1, L, s, i => by
    rw [followT]
    split
    · split
      · exact ⟨_, rfl⟩
      · split
        · exact ⟨_, rfl⟩
        · rename_i s' i' _
          obtain ⟨L', h⟩ := follow_prefix S J P m _ s' i'
          exact ⟨_, by rw [h, List.append_assoc]⟩
    · exact ⟨[], by simp⟩
theorem follow_blind (S : List (Int × Int × Int)) (J : List (Int × Int × Int × Int)) (P P' : List Int) : ∀ (m : Nat) (L : List (Int × Int × Int)) (s i : Int),
    (∀ x ∈ followT S J P m L s i, kindAt S x.1 = 1 → posAt P x.1 = posAt P' x.1) → followT S J P' m L s i = followT S J P m L s i
  | 0, L, s, i, _ => by simp [followT]
  | m + 1, L, s, i, h => by
    by_cases hg : goodAt S s i ∧ seenIn L s = false
    · have hmem : ∃ e, (s, i, e) ∈ followT S J P (m + 1) L s i := by
        rw [followT, if_pos hg]
        split
        · exact ⟨-1, by simp⟩
        · rename_i e _
          split
          · exact ⟨e, by simp⟩
          · rename_i s' i' _
            obtain ⟨L', hL⟩ := follow_prefix S J P m (L ++ [(s, i, e)]) s' i'
            exact ⟨e, by rw [hL]; simp⟩
      obtain ⟨e0, he0⟩ := hmem
      have hw : wayT (kindAt S s) i (posAt P' s) = wayT (kindAt S s) i (posAt P s) := by
        by_cases hk : kindAt S s = 1
        · rw [h _ he0 hk]
        · exact wayT_blind hk
      rw [followT, if_pos hg] at h
      rw [followT, followT, if_pos hg, if_pos hg, hw]
      cases hwv : wayT (kindAt S s) i (posAt P s) with
      | none => rfl
      | some e =>
        rw [hwv] at h
        simp only at h ⊢
        cases hn : nextT J s e with
        | none => rfl
        | some q =>
          obtain ⟨s', i'⟩ := q
          rw [hn] at h
          simp only at h ⊢
          exact follow_blind S J P P' m _ s' i' h
    · rw [followT, followT, if_neg hg, if_neg hg]
end Go.Proofs.Ytokldploloncgaa.topo
