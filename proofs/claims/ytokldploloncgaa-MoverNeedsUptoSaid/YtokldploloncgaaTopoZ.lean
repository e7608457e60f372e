/-
  Rows of records, one behind the other: cell by cell; a row of one's own as rows of records.
-/
import Derived.Test.YtokldploloncgaaTopoU
import Derived.Test.YtokldploloncgaaTopoY
namespace Go.Proofs.Ytokldploloncgaa.topo
open Go.RowKit

section
variable {α : Type} {m : Nat} {enc : α → List Value}
theorem flatG_get (hm : ∀ x, (enc x).length = m) : ∀ (L : List α) (i : Nat) (x : α), L[i]? = some x → ∀ (j : Nat) (u : Value), (enc x)[j]? = some u → (L.flatMap enc)[i * m + j]? = some u
  | [], _, _, h, _, _, _ => by simp at h
  | y :: L, 0, x, h, j, u, hu => by
    simp only [List.getElem?_cons_zero, Option.some.injEq] at h
    subst h
    have hj : j < (enc y).length := (List.getElem?_eq_some_iff.1 hu).1
    rw [List.flatMap_cons, Nat.zero_mul, Nat.zero_add, List.getElem?_append_left hj]
    exact hu
  | y :: L, i + 1, x, h, j, u, hu => by
    have := flatG_get hm L i x (by simpa using h) j u hu
    have hy := hm y
    rw [List.flatMap_cons, List.getElem?_append_right (by rw [hy, Nat.add_mul, Nat.one_mul]; omega), ← this]
    congr 1
    rw [hy, Nat.add_mul, Nat.one_mul]
    omega
theorem flatG_inv (hm : ∀ x, (enc x).length = m) : ∀ (L : List α) (j : Nat) (u : Value), (L.flatMap enc)[j]? = some u → ∃ i x r, L[i]? = some x ∧ (enc x)[r]? = some u ∧ j = i * m + r
  | [], j, u, h => by simp at h
  | y :: L, j, u, h => by
    rw [List.flatMap_cons] at h
    have hy := hm y
    by_cases hj : j < (enc y).length
    · rw [List.getElem?_append_left hj] at h
      exact ⟨0, y, j, rfl, h, by omega⟩
    · rw [List.getElem?_append_right (by omega)] at h
      obtain ⟨i, x, r, h1, h2, h3⟩ := flatG_inv hm L _ u h
      exact ⟨i + 1, x, r, by simpa using h1, h2, by rw [Nat.add_mul, Nat.one_mul]; omega⟩
theorem flatG_length (hm : ∀ x, (enc x).length = m) (L : List α) : (L.flatMap enc).length = L.length * m := by
  induction L with
  | nil => simp
  | cons x L ih => rw [List.flatMap_cons, List.length_append, ih, hm, List.length_cons, Nat.add_mul, Nat.one_mul]; omega
theorem flatG_one (h1 : ∀ x, ∀ u ∈ enc x, u.oneCell' = true) (L : List α) : ∀ u ∈ L.flatMap enc, u.oneCell' = true := by
  intro u hu
  obtain ⟨x, -, h⟩ := List.mem_flatMap.1 hu
  exact h1 x u h
/-- The cells of rows of records, as append wants them. -/
theorem rows_news {w : World} {ao : Option Addr} {ln lc : Nat} {L : List α} (hm : ∀ x, (enc x).length = m) (h : RowsAt m enc w ao ln lc L) (o : Obj) :
    ∀ ad, ao = some ad → ∀ j u, (L.flatMap enc)[j]? = some u → (w.alloc o).cell? (ad.add j) = some u := by
  intro ad had j u hu
  obtain ⟨i, x, r, h1, h2, rfl⟩ := flatG_inv hm L j u hu
  have hi : i < L.length := (List.getElem?_eq_some_iff.1 h1).1
  have hl := h.len
  obtain ⟨g, o', hao, hg, hc⟩ := h.at'.resolve_left (by omega)
  rw [hao] at had
  injection had with had
  subst had
  rw [plain_add, World.cell?_alloc_lt _ _ _ hg, ← Nat.add_assoc]
  exact hc i x h1 r u h2
/-- A row of one's own that holds something, record by record. -/
theorem own_fullG {w : World} {B t n : Nat} {v : Value} {L : List α} (hm : ∀ x, (enc x).length = m) (h : w.ownsRow B t m v n (L.flatMap enc)) (h0 : 0 < n) :
    ∃ g c, v = .slice (some ⟨g, 0, none⟩) n c ∧ B ≤ g ∧ g < w.heap.size ∧ n ≤ c ∧ c ≤ 9223372036854775807 ∧ (∀ i x, L[i]? = some x → ∀ j u, (enc x)[j]? = some u → w.cell? ⟨g, 0 + i * m + j, none⟩ = some u) := by
  rcases h.2 with ⟨hv, h1⟩ | ⟨g, cap, cur, hv, hb, hg, h1, h2, h3, h4⟩
  · omega
  · refine ⟨g, cap, hv, hb, lt_size hg, h1, by unfold maxLen at h2; omega, fun i x hx j u hu => ?_⟩
    have := h.cells (g := g) (by rw [hv]; rfl) (i * m + j) u (flatG_get hm L i x hx j u hu)
    rw [plain_add] at this
    rw [Nat.add_assoc]
    exact this
/-- .. of which the first ones are rows again. -/
theorem rows_first {w : World} {g n c : Nat} {L : List α} {y : α} (hn : L.length = n) (hg : g < w.heap.size) (hc : n + 1 ≤ c) (hcm : c ≤ 9223372036854775807)
    (h : ∀ i x, (L ++ [y])[i]? = some x → ∀ j u, (enc x)[j]? = some u → w.cell? ⟨g, 0 + i * m + j, none⟩ = some u) : RowsAt m enc w (some ⟨g, 0, none⟩) n c L :=
  ⟨hn, by omega, hcm, fun e => (by cases e), .inr ⟨g, 0, rfl, hg, fun i x hx j u hu => h i x (by rw [List.getElem?_append_left (List.getElem?_eq_some_iff.1 hx).1]; exact hx) j u hu⟩⟩
end
theorem enc3_len (x : Int × Int × Int) : (enc3 x).length = 3 := rfl
theorem enc4_len (x : Int × Int × Int × Int) : (enc4 x).length = 4 := rfl
theorem enc3_one (x : Int × Int × Int) : ∀ u ∈ enc3 x, u.oneCell' = true := by
  intro u hu
  simp only [enc3, List.mem_cons, List.not_mem_nil, or_false] at hu
  rcases hu with rfl | rfl | rfl <;> rfl
theorem enc4_one (x : Int × Int × Int × Int) : ∀ u ∈ enc4 x, u.oneCell' = true := by
  intro u hu
  simp only [enc4, List.mem_cons, List.not_mem_nil, or_false] at hu
  rcases hu with rfl | rfl | rfl | rfl <;> rfl
theorem news4 (W : World) (a b c d : Value) (t : TypeId) : ∀ j u, [a, b, c, d][j]? = some u → (W.alloc (.cells #[a, b, c, d] t)).cell? ((⟨W.heap.size, 0, none⟩ : Addr).add j) = some u := by
  intro j u hu
  rw [plain_add, Nat.zero_add, cell_of_row _ _ j _ _ _ (heap_alloc_new W _)]
  simpa using hu
theorem one4 (a b c d : Int) : ∀ u ∈ [Value.int .i64 a, .int .i64 b, .int .i64 c, .int .i64 d], u.oneCell' = true := by
  intro u hu
  simp only [List.mem_cons, List.not_mem_nil, or_false] at hu
  rcases hu with rfl | rfl | rfl | rfl <;> rfl
theorem info_sec : (Try.prog.info? 62).map (fun i => (i.zero, i.size, i.bytes)) = some (some (.agg #[.int .i64 0, .int .i64 0, .int .i64 0]), 3, 24) := by kernel_rfl
theorem info_joint : (Try.prog.info? 64).map (fun i => (i.zero, i.size, i.bytes)) = some (some (.agg #[.int .i64 0, .int .i64 0, .int .i64 0, .int .i64 0]), 4, 32) := by kernel_rfl
theorem ansP_is (N : Option (Int × Int)) : ∃ a b k, ansP N = .tuple #[.int .i64 a, .int .i64 b, .bool k] := by
  cases N with
  | none => exact ⟨0, 0, false, rfl⟩
  | some q => exact ⟨q.1, q.2, true, rfl⟩
end Go.Proofs.Ytokldploloncgaa.topo
