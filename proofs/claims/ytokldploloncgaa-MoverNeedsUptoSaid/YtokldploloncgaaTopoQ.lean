/-
  The way back of a train is its way, the other way round (plain).
-/
import Derived.Test.YtokldploloncgaaTopoO
namespace Go.Proofs.Ytokldploloncgaa.topo

def Full (S : List (Int × Int × Int)) (P : List Int) (x : Int × Int × Int) : Prop := goodAt S x.1 x.2.1 ∧ wayT (kindAt S x.1) x.2.1 (posAt P x.1) = some x.2.2
def RChain (S : List (Int × Int × Int)) (J : List (Int × Int × Int × Int)) (P : List Int) : List (Int × Int × Int) → Prop
  | [] => True
  | x :: r => Full S P x ∧ (match r with | [] => True | y :: _ => nextT J y.1 y.2.2 = some (x.1, x.2.1)) ∧ RChain S J P r
def flip (x : Int × Int × Int) : Int × Int × Int := (x.1, x.2.2, x.2.1)

section
variable {S : List (Int × Int × Int)} {J : List (Int × Int × Int × Int)} {P : List Int}
theorem not_seen {L : List (Int × Int × Int)} {s : Int} : seenIn L s = false ↔ s ∉ L.map (·.1) := by
  unfold seenIn
  rw [List.any_eq_false]
  constructor
  · intro h hm
    obtain ⟨x, hx, e⟩ := List.mem_map.1 hm
    exact h x hx (by simpa using e)
  · intro h x hx e
    exact h (List.mem_map.2 ⟨x, hx, by simpa using e⟩)
theorem follow_len : ∀ (m : Nat) (L : List (Int × Int × Int)) (s i : Int), (followT S J P m L s i).length ≤ L.length + m
  | 0, L, s, i => by simp [followT]
  | m + 1, L, s, i => by
    rw [followT]
    split
    · split
      · simp
      · rename_i e _
        split
        · simp
        · rename_i s' i' _
          have := follow_len m (L ++ [(s, i, e)]) s' i'
          simp only [List.length_append, List.length_cons, List.length_nil] at this
          exact Nat.le_trans this (by omega)
    · omega
theorem nodup_snoc {L : List Int} {s : Int} (h : L.Nodup) (hs : s ∉ L) : (L ++ [s]).Nodup :=
  List.nodup_append.2 ⟨h, by simp, fun a ha b hb e => by simp at hb; subst hb; exact hs (e ▸ ha)⟩

theorem nodup_rev : ∀ {l : List Int}, l.Nodup → l.reverse.Nodup
  | [], _ => by simp
  | a :: l, h => by
    obtain ⟨h1, h2⟩ := List.nodup_cons.1 h
    rw [List.reverse_cons]
    exact nodup_snoc (nodup_rev h2) (by simpa using h1)
theorem follow_full : ∀ (m : Nat) (L : List (Int × Int × Int)) (s i : Int), RChain S J P L.reverse → (∀ x r, L.reverse = x :: r → nextT J x.1 x.2.2 = some (s, i)) → (L.map (·.1)).Nodup →
    ((followT S J P m L s i).map (·.1)).Nodup ∧ (RChain S J P (followT S J P m L s i).reverse ∨ ∃ L' s' i', followT S J P m L s i = L' ++ [(s', i', -1)])
  | 0, L, s, i, h1, _, h3 => by simpa [followT] using ⟨h3, .inl h1⟩
  | m + 1, L, s, i, h1, h2, h3 => by
    by_cases hg : goodAt S s i ∧ seenIn L s = false
    · have hs := not_seen.1 hg.2
      cases hw : wayT (kindAt S s) i (posAt P s) with
      | none =>
        rw [followT, if_pos hg, hw]
        exact ⟨by rw [List.map_append]; exact nodup_snoc h3 hs, .inr ⟨L, s, i, rfl⟩⟩
      | some e =>
        have hc : RChain S J P (L ++ [(s, i, e)]).reverse := by
          rw [List.reverse_append, List.reverse_singleton, List.singleton_append]
          refine ⟨⟨hg.1, hw⟩, ?_, h1⟩
          cases hr : L.reverse with
          | nil => trivial
          | cons y r => exact h2 y r hr
        have hn : ((L ++ [(s, i, e)]).map (·.1)).Nodup := by rw [List.map_append]; exact nodup_snoc h3 hs
        cases hx : nextT J s e with
        | none =>
          rw [followT, if_pos hg, hw]
          simp only [hx]
          exact ⟨hn, .inl hc⟩
        | some q =>
          obtain ⟨s', i'⟩ := q
          rw [followT, if_pos hg, hw]
          simp only [hx]
          refine follow_full m _ s' i' hc (fun x r hr => ?_) hn
          rw [List.reverse_append, List.reverse_singleton, List.singleton_append] at hr
          injection hr with hr _
          rw [← hr]
          exact hx
    · rw [followT, if_neg hg]
      exact ⟨h3, .inl h1⟩

theorem back_run (hp : Plan S J) : ∀ (r : List (Int × Int × Int)) (x : Int × Int × Int) (m : Nat) (L : List (Int × Int × Int)), RChain S J P (x :: r) → r.length < m → (∀ y ∈ x :: r, y.1 ∉ L.map (·.1)) → ((x :: r).map (·.1)).Nodup →
    ∃ rest, followT S J P m L x.1 x.2.2 = L ++ (x :: r).map flip ++ rest
  | r, x, 0, L, _, hm, _, _ => by omega
  | r, x, m + 1, L, h, hm, hL, hn => by
    obtain ⟨s, i, e⟩ := x
    obtain ⟨⟨hg, hw⟩, hnx, hr⟩ := h
    simp only at hg hw hnx hL ⊢
    obtain ⟨wb, -, e0, e1, -, -⟩ := way_back hw
    have hgood : goodAt S s e ∧ seenIn L s = false := ⟨⟨hg.1, e0, e1⟩, not_seen.2 (hL (s, i, e) List.mem_cons_self)⟩
    rw [followT, if_pos hgood, wb]
    simp only
    cases r with
    | nil =>
      split
      · exact ⟨[], by simp [flip]⟩
      · rename_i s' i' _
        obtain ⟨L', h'⟩ := follow_prefix S J P m (L ++ [(s, e, i)]) s' i'
        exact ⟨L', by rw [h']; simp [flip]⟩
    | cons y r =>
      simp only at hnx
      obtain ⟨h1, -, -⟩ := hp.next hnx
      rw [h1]
      simp only
      have hn2 := hn
      simp only [List.map_cons, List.nodup_cons] at hn2
      obtain ⟨rest, h2⟩ := back_run hp r y m (L ++ [(s, e, i)]) hr (by simp at hm; omega) (fun z hz => by
        rw [List.map_append, List.mem_append]
        rintro (h3 | h3)
        · exact hL z (List.mem_cons_of_mem _ hz) h3
        · simp only [List.map_cons, List.map_nil, List.mem_singleton] at h3
          have : z.1 ∈ (y :: r).map (·.1) := List.mem_map.2 ⟨z, hz, rfl⟩
          simp only [List.map_cons] at this
          rw [h3] at this
          exact hn2.1 this) (by simpa using hn2.2)
      exact ⟨rest, by rw [h2]; simp [flip]⟩

/-- The way back, whole. -/
theorem way_reversed (hp : Plan S J) {m : Nat} {s0 i0 : Int} {x : Int × Int × Int} {r : List (Int × Int × Int)} (h : (followT S J P m [] s0 i0).reverse = x :: r) (hx : 0 ≤ x.2.2) :
    ∃ rest, followT S J P m [] x.1 x.2.2 = (x :: r).map flip ++ rest := by
  obtain ⟨h1, h2⟩ := follow_full (S := S) (J := J) (P := P) m [] s0 i0 trivial (fun x r hr => by simp at hr) (by simp)
  have hl := follow_len (S := S) (J := J) (P := P) m [] s0 i0
  have hlen : (x :: r).length ≤ m := by
    rw [← h, List.length_reverse]
    simpa using hl
  have hc : RChain S J P (x :: r) := by
    rcases h2 with h2 | ⟨L', s', i', h2⟩
    · rw [h] at h2
      exact h2
    · rw [h2, List.reverse_append, List.reverse_singleton, List.singleton_append] at h
      injection h with h _
      rw [← h] at hx
      simp at hx
  have hn : ((x :: r).map (·.1)).Nodup := by
    rw [← h, List.map_reverse]
    exact nodup_rev h1
  obtain ⟨rest, h3⟩ := back_run (P := P) hp r x m [] hc (by simp at hlen; omega) (by simp) hn
  exact ⟨rest, by simpa using h3⟩
end
end Go.Proofs.Ytokldploloncgaa.topo
