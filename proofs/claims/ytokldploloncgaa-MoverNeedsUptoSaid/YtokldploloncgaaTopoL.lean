/-
  The example that each law of the plans begins with.
-/
import Derived.Test.YtokldploloncgaaTopoF
import Derived.Test.YtokldploloncgaaTopoH
import Derived.Test.YtokldploloncgaaTopoK
namespace Go.Proofs.Ytokldploloncgaa.topo
open Go.RowKit

theorem flat_at {α : Type} {m : Nat} {enc : α → List Value} (hlen : ∀ x, (enc x).length = m) : ∀ (L : List α) (i : Nat) (x : α), L[i]? = some x → ∀ (j : Nat) (u : Value), (enc x)[j]? = some u → (L.flatMap enc)[i * m + j]? = some u
  | [], _, _, h, _, _, _ => by simp at h
  | y :: L, 0, x, h, j, u, hu => by
    simp only [List.getElem?_cons_zero, Option.some.injEq] at h
    subst h
    have hj : j < (enc y).length := (List.getElem?_eq_some_iff.1 hu).1
    rw [List.flatMap_cons, Nat.zero_mul, Nat.zero_add, List.getElem?_append_left hj]
    exact hu
  | y :: L, i + 1, x, h, j, u, hu => by
    have := flat_at hlen L i x (by simpa using h) j u hu
    rw [List.flatMap_cons, List.getElem?_append_right (by rw [hlen, Nat.add_mul]; omega), hlen, ← this]
    congr 1
    rw [Nat.add_mul]
    omega
/-- A block that was laid just now, as rows. -/
theorem rows_new {α : Type} {m : Nat} {enc : α → List Value} (hlen : ∀ x, (enc x).length = m) {w : World} {g : Nat} {cs : Array Value} {t : TypeId} (L : List α) (h : w.heap[g]? = some (.cells cs t)) (hcs : cs.toList = L.flatMap enc) (n : Nat) (hn : L.length = n) (hm : n ≤ 9223372036854775807) :
    RowsAt m enc w (some ⟨g, 0, none⟩) n n L := by
  refine ⟨hn, Nat.le_refl _, hm, fun e => (by cases e), .inr ⟨g, 0, rfl, (Array.getElem?_eq_some_iff.1 h).1, fun i x hx j u hu => ?_⟩⟩
  rw [Nat.zero_add, cell_of_row _ _ _ _ _ _ h]
  have := flat_at hlen L i x hx j u hu
  rw [← hcs] at this
  simpa using this

def S0 : List (Int × Int × Int) := [(0, 0, 0), (1, 0, 0), (0, 0, 0), (0, 0, 0)]
def J0 : List (Int × Int × Int × Int) := [(0, 1, 1, 0), (1, 1, 2, 0), (1, 2, 3, 0)]
theorem follow0 : followT S0 J0 [0, 2] 5 [] 0 0 = [(0, 0, 1), (1, 0, 2), (3, 0, 1)] := by decide
theorem ok0 : okT S0 J0 = true := by decide

set_option maxRecDepth 100000 in
set_option maxHeartbeats 1000000 in
theorem lives_any (w : World) : Calls Try.prog 27 #[] w fun e w' => e = .returned (.bool true) ∧ Below w.heap.size w w' := by
  go_enter Try.func27, Try.ntmps27
  go_upto_region 2 with (fail)
  obtain ⟨W3, hW3⟩ : ∃ W3, ((w.alloc (.cells #[.int .i64 0, .int .i64 0, .int .i64 0, .int .i64 1, .int .i64 0, .int .i64 0, .int .i64 0, .int .i64 0, .int .i64 0, .int .i64 0, .int .i64 0, .int .i64 0] 62)).alloc
    (.cells #[.int .i64 0, .int .i64 1, .int .i64 1, .int .i64 0, .int .i64 1, .int .i64 1, .int .i64 2, .int .i64 0, .int .i64 1, .int .i64 2, .int .i64 3, .int .i64 0] 64)).alloc
    (.cells #[.slice (some ⟨w.heap.size, 0, none⟩) 4 4, .slice (some ⟨w.heap.size + 1, 0, none⟩) 3 3] 60) = W3 := ⟨_, rfl⟩
  rw [hW3]
  have hS : RowsAt 3 enc3 W3 (some ⟨w.heap.size, 0, none⟩) 4 4 S0 := by
    refine rows_new (enc := enc3) (fun _ => rfl) S0 (cs := #[.int .i64 0, .int .i64 0, .int .i64 0, .int .i64 1, .int .i64 0, .int .i64 0, .int .i64 0, .int .i64 0, .int .i64 0, .int .i64 0, .int .i64 0, .int .i64 0]) (t := 62) ?_ rfl 4 rfl (by omega)
    rw [← hW3, Below.heap_alloc _ _ _ (by simp; omega), Below.heap_alloc _ _ _ (by simp)]
    exact heap_alloc_new w _
  have hJ : RowsAt 4 enc4 W3 (some ⟨w.heap.size + 1, 0, none⟩) 3 3 J0 := by
    refine rows_new (enc := enc4) (fun _ => rfl) J0 (cs := #[.int .i64 0, .int .i64 1, .int .i64 1, .int .i64 0, .int .i64 1, .int .i64 1, .int .i64 2, .int .i64 0, .int .i64 1, .int .i64 2, .int .i64 3, .int .i64 0]) (t := 64) ?_ rfl 3 rfl (by omega)
    rw [← hW3, Below.heap_alloc _ _ _ (by simp)]
    have := heap_alloc_new (w.alloc (.cells #[.int .i64 0, .int .i64 0, .int .i64 0, .int .i64 1, .int .i64 0, .int .i64 0, .int .i64 0, .int .i64 0, .int .i64 0, .int .i64 0, .int .i64 0, .int .i64 0] 62)) (.cells #[.int .i64 0, .int .i64 1, .int .i64 1, .int .i64 0, .int .i64 1, .int .i64 1, .int .i64 2, .int .i64 0, .int .i64 1, .int .i64 2, .int .i64 3, .int .i64 0] 64)
    simpa using this
  have hp : W3.heap[w.heap.size + 1 + 1]? = some (.cells #[.slice (some ⟨w.heap.size, 0, none⟩) 4 4, .slice (some ⟨w.heap.size + 1, 0, none⟩) 3 3] 60) := by
    rw [← hW3]
    have := heap_alloc_new ((w.alloc (.cells #[.int .i64 0, .int .i64 0, .int .i64 0, .int .i64 1, .int .i64 0, .int .i64 0, .int .i64 0, .int .i64 0, .int .i64 0, .int .i64 0, .int .i64 0, .int .i64 0] 62)).alloc
      (.cells #[.int .i64 0, .int .i64 1, .int .i64 1, .int .i64 0, .int .i64 1, .int .i64 1, .int .i64 2, .int .i64 0, .int .i64 1, .int .i64 2, .int .i64 3, .int .i64 0] 64)) (.cells #[.slice (some ⟨w.heap.size, 0, none⟩) 4 4, .slice (some ⟨w.heap.size + 1, 0, none⟩) 3 3] 60)
    simpa using this
  have c0 : W3.cell? ⟨w.heap.size + 1 + 1, 0, none⟩ = some (.slice (some ⟨w.heap.size, 0, none⟩) 4 4) := by rw [cell_of_row _ _ 0 _ _ _ hp]; rfl
  have c1 : W3.cell? ⟨w.heap.size + 1 + 1, 1, none⟩ = some (.slice (some ⟨w.heap.size + 1, 0, none⟩) 3 3) := by rw [cell_of_row _ _ 1 _ _ _ hp]; rfl
  have hb3 : Below w.heap.size w W3 := by rw [← hW3]; exact below_new (below_new (below_new (Below.refl _ _) _) _) _
  have hz3 : w.heap.size + 1 + 1 < W3.heap.size := World.block_lt_of_cell? _ _ c0
  clear hW3 hp
  have hP : RowsAt 1 enc1 (W3.alloc (.cells #[.int .i64 0, .int .i64 2] 3)) (some ⟨W3.heap.size, 0, none⟩) 2 2 [0, 2] := rows_new (enc := enc1) (fun _ => rfl) [0, 2] (heap_alloc_new W3 _) rfl 2 rfl (by omega)
  have hF := follow_any S0 J0 [0, 2] _ _ _ 4 4 3 3 2 2 0 0 _ (hS.below (below_new (Below.refl _ _) _)) (hJ.below (below_new (Below.refl _ _) _)) hP (by omega)
  rw [follow0] at hF
  have hC : ∀ W, Below W3.heap.size W3 W → Calls Try.prog 28 #[.slice (some ⟨w.heap.size, 0, none⟩) 4 4, .slice (some ⟨w.heap.size + 1, 0, none⟩) 3 3] W fun e w' => e = .returned (.int .i64 0) ∧ Below W.heap.size W w' := by
    intro W hW
    have := check_any S0 J0 _ _ 4 4 3 3 W (hS.below hW) (hJ.below hW) (by decide) (by decide)
    rw [ok0] at this
    exact this
  have HF := Lib.hid hF
  have HC := Lib.hid hC
  clear hF hC hS hJ hP
  go_wp2_with (first
    | (go_at_call 32; go_must (refine HF.out.mono ?_; rintro e w5 ⟨v, rfl, hrow, hb5⟩; obtain ⟨a5, c5, rfl, hrows⟩ := own_rows hrow rfl; have hb5' := below_step (below_new (Below.refl _ _) _) hb5; obtain ⟨r5, f5⟩ := below_reads hb5'; have hHC := Lib.hid (HC.out w5 hb5')))
    | (go_at_call 28; go_must (refine hHC.out.mono ?_; rintro e w6 ⟨rfl, hb6⟩))
    | (go_at_call 34; go_must (refine (same_steps [(0, 0, 1), (1, 0, 2), (3, 0, 1)] a5 (some ⟨w6.heap.size, 0, none⟩) 3 c5 3 _ ((hrows.below hb6).below (below_new (Below.refl _ _) _)) (rows_new (enc := enc3) (fun _ => rfl) [(0, 0, 1), (1, 0, 2), (3, 0, 1)] (heap_alloc_new w6 _) rfl 3 rfl (by omega))).mono ?_; rintro e w8 ⟨rfl, hb8⟩)))
  go_ret
  exact ⟨rfl, below_step (below_step (below_step hb3 hb5') hb6) (below_step (below_new (Below.refl _ _) _) hb8)⟩
end Go.Proofs.Ytokldploloncgaa.topo
