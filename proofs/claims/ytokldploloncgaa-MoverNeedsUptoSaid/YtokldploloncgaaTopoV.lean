/-
  The way of a train hangs together (plain); a map of the sections that were met; a row of steps of one's own that is written over.
-/
import Derived.Test.YtokldploloncgaaTopoU
namespace Go.Proofs.Ytokldploloncgaa.topo
open Go.RowKit

/-- Step by step: a joint leads from each step to the next one, and just the last may lead nowhere. -/
def Link (J : List (Int × Int × Int × Int)) (W : List (Int × Int × Int)) : Prop := ∀ i x y, W[i]? = some x → W[i + 1]? = some y → nextT J x.1 x.2.2 = some (y.1, y.2.1) ∧ x.2.2 ≠ -1
section
variable {S : List (Int × Int × Int)} {J : List (Int × Int × Int × Int)} {P : List Int}
theorem link_snoc {L : List (Int × Int × Int)} {s i e : Int} (h : Link J L) (hl : ∀ x, L.getLast? = some x → nextT J x.1 x.2.2 = some (s, i) ∧ x.2.2 ≠ -1) : Link J (L ++ [(s, i, e)]) := by
  intro k x y hx hy
  have hk : k + 1 < L.length + 1 := by have := (List.getElem?_eq_some_iff.1 hy).1; simpa using this
  rw [List.getElem?_append_left (by omega)] at hx
  by_cases h1 : k + 1 < L.length
  · rw [List.getElem?_append_left h1] at hy
    exact h k x y hx hy
  · have hkl : k + 1 = L.length := by omega
    rw [hkl, List.getElem?_concat_length] at hy
    injection hy with hy
    subst hy
    refine hl x ?_
    rw [List.getLast?_eq_getElem?, ← hx]
    congr 1
    omega
theorem follow_link : ∀ (m : Nat) (L : List (Int × Int × Int)) (s i : Int), Link J L → (∀ x, L.getLast? = some x → nextT J x.1 x.2.2 = some (s, i) ∧ x.2.2 ≠ -1) → (∀ x ∈ L, 0 ≤ x.1 ∧ x.1 < S.length) →
    Link J (followT S J P m L s i) ∧ ∀ x ∈ followT S J P m L s i, 0 ≤ x.1 ∧ x.1 < S.length
  | 0, L, s, i, h1, _, h3 => by rw [followT]; exact ⟨h1, h3⟩
  | m + 1, L, s, i, h1, h2, h3 => by
    by_cases hg : goodAt S s i ∧ seenIn L s = false
    · have hin : ∀ e : Int, ∀ x ∈ L ++ [(s, i, e)], 0 ≤ x.1 ∧ x.1 < S.length := fun e x hx => by
        rcases List.mem_append.1 hx with hx | hx
        · exact h3 x hx
        · simp only [List.mem_singleton] at hx
          subst hx
          exact hg.1.1
      cases hw : wayT (kindAt S s) i (posAt P s) with
      | none =>
        rw [followT, if_pos hg, hw]
        exact ⟨link_snoc h1 h2, hin _⟩
      | some e =>
        obtain ⟨-, -, e0, -, -, -⟩ := way_back hw
        cases hx : nextT J s e with
        | none =>
          rw [followT, if_pos hg, hw]
          simp only [hx]
          exact ⟨link_snoc h1 h2, hin _⟩
        | some q =>
          obtain ⟨s', i'⟩ := q
          rw [followT, if_pos hg, hw]
          simp only [hx]
          refine follow_link m _ s' i' (link_snoc h1 h2) (fun x hx' => ?_) (hin _)
          rw [List.getLast?_concat] at hx'
          injection hx' with hx'
          subst hx'
          exact ⟨hx, by simp only; omega⟩
    · rw [followT, if_neg hg]
      exact ⟨h1, h3⟩
theorem take_seen {W : List (Int × Int × Int)} (h : (W.map (·.1)).Nodup) {i : Nat} {x : Int × Int × Int} (hx : W[i]? = some x) : seenIn (W.take i) x.1 = false ∧ W.take i ++ [x] = W.take (i + 1) := by
  obtain ⟨hi, rfl⟩ := List.getElem?_eq_some_iff.1 hx
  refine ⟨?_, by rw [List.take_add_one, hx]; rfl⟩
  rw [not_seen]
  intro hm
  have h1 : W.map (·.1) = (W.take (i + 1)).map (·.1) ++ (W.drop (i + 1)).map (·.1) := by rw [← List.map_append, List.take_append_drop]
  rw [h1, List.take_add_one, hx] at h
  simp only [Option.toList_some, List.map_append, List.map_cons, List.map_nil] at h
  have h2 := (List.nodup_append.1 h).1
  exact (List.nodup_append.1 h2).2.2 _ hm _ (by simp) rfl
end

/-- Map B counts what sections were met. -/
structure Seen (w : World) (B : Nat) (wr : World) (L : List (Int × Int × Int)) : Prop where
  map : CountMap 3 B L.length (fun k => match k with | .int .i64 s => if seenIn L s then 1 else 0 | _ => 0) wr
  below : Below B w wr
  size : w.heap.size = B
section
variable {w wr w' : World} {B : Nat} {L : List (Int × Int × Int)}
theorem Seen.made (w : World) : Seen w w.heap.size (w.alloc (.map #[] 0)) [] := by
  refine ⟨?_, below_new (Below.refl _ _) _, rfl⟩
  obtain ⟨D, h1, h2, h3⟩ := CountMap.made 3 w
  exact ⟨D, h1, h2, fun key kl hk => (h3 key kl hk).trans (congrArg (fun z : Int => DataW.lit (.int .i64 z)) (by dsimp only; split <;> rfl))⟩
theorem Seen.lt (h : Seen w B wr L) : B < wr.heap.size := h.map.lt
theorem Seen.later (h : Seen w B wr L) (hb : Below wr.heap.size wr w') : Seen w B w' L :=
  ⟨h.map.below hb, h.below.trans (hb.mono (by have := h.below.size; have := h.size; omega)), h.size⟩
theorem Seen.look (h : Seen w B wr L) {s : Int} (hs : -9223372036854775808 ≤ s ∧ s ≤ 9223372036854775807) {c : Bool} (hc : seenIn L s = c) :
    (Instr.lookup 76 (.map (some B)) (.int .i64 s) false).run Try.prog wr = .ok (.int .i64 (if c then 1 else 0)) wr := by
  have := h.map.look lawI Try.underlying76 (key_int hs)
  rw [this]
  subst hc
  rfl
theorem Seen.look0 (h : Seen w B wr L) {s : Int} (hs : -9223372036854775808 ≤ s ∧ s ≤ 9223372036854775807) (hc : seenIn L s = false) :
    (Instr.lookup 76 (.map (some B)) (.int .i64 s) false).run Try.prog wr = .ok (.int .i64 0) wr := h.look hs hc
theorem Seen.look1 (h : Seen w B wr L) {s : Int} (hs : -9223372036854775808 ≤ s ∧ s ≤ 9223372036854775807) (hc : seenIn L s = true) :
    (Instr.lookup 76 (.map (some B)) (.int .i64 s) false).run Try.prog wr = .ok (.int .i64 1) wr := h.look hs hc
theorem Seen.mark (h : Seen w B wr L) {s i e : Int} (hs : -9223372036854775808 ≤ s ∧ s ≤ 9223372036854775807) (hl : L.length < maxLen) :
    ∃ w1, (Instr.mapUpdate 76 (.map (some B)) (.int .i64 s) (.int .i64 1)).run Try.prog wr = .ok () w1 ∧ Seen w B w1 (L ++ [(s, i, e)]) ∧ wr.grownBy w1 (some B) := by
  obtain ⟨w1, h1, h2, h3⟩ := h.map.update lawI Try.underlying76 hl (key_int hs) (x := 1) (by decide)
  refine ⟨w1, h1, ⟨?_, h.below.grown h3 (by have := h.below.size; have := h.size; omega) (fun j hj => by injection hj; omega), h.size⟩, h3⟩
  obtain ⟨D, d1, d2, d3⟩ := h2
  refine ⟨D, by simpa using d1, d2, fun key kl hk => ?_⟩
  refine (d3 key kl hk).trans (congrArg (fun z : Int => DataW.lit (.int .i64 z)) ?_)
  by_cases e2 : key = .int .i64 s
  · subst e2
    simp only [seen_snoc]
    simp
  · simp only [if_neg e2]
    split
    · rename_i t
      have : (s == t) = false := by rw [beq_eq_false_iff_ne]; intro e3; exact e2 (by rw [e3])
      rw [seen_snoc, this, Bool.or_false]
    · rfl
end

section
variable {w w' w'' : World}
theorem grown_trans {row : Option Nat} (h : w.grownBy w' row) (k : w'.grownBy w'' row) : w.grownBy w'' row :=
  ⟨k.os.trans h.os, k.tape.trans h.tape, k.output.trans h.output, Nat.le_trans h.size k.size, fun i hi hne => (k.block i (Nat.lt_of_lt_of_le hi h.size) hne).trans (h.block i hi hne)⟩
theorem own_ne {B e s n : Nat} {v : Value} {xs : List Value} (h : w.ownsRow B e s v n xs) {row : Option Nat} (hne : ∀ g, v.ownBlock = some g → row ≠ some g) (hg : w.grownBy w' row) : w'.ownsRow B e s v n xs := by
  refine h.kept hg ?_
  cases hv : v.ownBlock with
  | none => exact .inl rfl
  | some g => exact .inr fun e2 => hne g hv e2.symm
/-- A step is written over. -/
theorem own_step {B g n c : Nat} {xs : List Value} {i : Nat} {u0 u1 u2 : Value} (h : w.ownsRow B 71 3 (.slice (some ⟨g, 0, none⟩) n c) n xs) :
    ∃ xs', (((w.setCell ⟨g, i * 3, none⟩ u0).setCell ⟨g, i * 3 + 1, none⟩ u1).setCell ⟨g, i * 3 + 2, none⟩ u2).ownsRow B 71 3 (.slice (some ⟨g, 0, none⟩) n c) n xs' ∧
      w.grownBy (((w.setCell ⟨g, i * 3, none⟩ u0).setCell ⟨g, i * 3 + 1, none⟩ u1).setCell ⟨g, i * 3 + 2, none⟩ u2) (some g) := by
  obtain ⟨h1, k1⟩ := h.stored (i * 3) u0
  obtain ⟨h2, k2⟩ := h1.stored (i * 3 + 1) u1
  obtain ⟨h3, k3⟩ := h2.stored (i * 3 + 2) u2
  exact ⟨_, h3, grown_trans (grown_trans k1 k2) k3⟩
end
end Go.Proofs.Ytokldploloncgaa.topo
