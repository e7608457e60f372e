/-
  Way, Pos and Ends, in the program and in the reference.
-/
import Derived.Test.YtokldploloncgaaTopoA
namespace Go.Proofs.Ytokldploloncgaa.topo
open Go.RowKit

theorem drop_at {α : Type} {L : List α} {j : Nat} {x : α} (h : L[j]? = some x) : L.drop j = x :: L.drop (j + 1) := by
  obtain ⟨h1, h2⟩ := List.getElem?_eq_some_iff.1 h
  rw [List.drop_eq_getElem_cons h1, h2]

/-- The row of a table under hand. -/
theorem TabAt.row {w : World} {ao : Option Addr} {n : Nat} {L : List (Int × Int × Int)} (h : TabAt w ao n L) {j : Nat} (hj : j < n) :
    ∃ g a b q, ao = some ⟨g, 0, none⟩ ∧ g < w.heap.size ∧ L.drop j = (a, b, q) :: L.drop (j + 1) ∧ w.cell? ⟨g, j * 3, none⟩ = some (.int .i64 a) ∧ w.cell? ⟨g, j * 3 + 1, none⟩ = some (.int .i64 b) ∧ w.cell? ⟨g, j * 3 + 2, none⟩ = some (.int .i64 q) := by
  obtain ⟨g, e, hc⟩ := h.at'.resolve_left (by omega)
  have hl := h.len
  obtain ⟨x, hx⟩ : ∃ x, L[j]? = some x := ⟨_, List.getElem?_eq_getElem (by omega)⟩
  obtain ⟨a, b, q⟩ := x
  obtain ⟨h1, h2, h3⟩ := hc j a b q hx
  exact ⟨g, a, b, q, e, World.block_lt_of_cell? _ _ h1, drop_at hx, h1, h2, h3⟩

set_option maxHeartbeats 400000 in
theorem way_any (k i p : Int) (w : World) : Calls Try.prog 36 #[.int .i64 k, .int .i64 i, .int .i64 p] w fun e w' => e = .returned (ansV (wayT k i p)) ∧ Below w.heap.size w w' := by
  go_enter Try.func36, Try.ntmps36
  go_wp2_with (go_at_call 48; go_must (refine (ways_any k _).mono ?_; rintro e w1 ⟨ao, n, rfl, hT, hb1⟩))
  obtain ⟨R, hR⟩ : ∃ R, wayT k i p = R := ⟨_, rfl⟩
  have hR0 : wayL ((tab k).drop 0) i p = R := hR
  have HR0 := Lib.hid hR0
  have HW := Lib.hid hR
  have hn2 := hT.small
  clear hR hR0
  go_loopg [15] n (fun m c wr => ∃ j : Nat, j + m = n ∧ c = .int .i64 j ∧ TabAt wr ao n (tab k) ∧ Below w.heap.size w wr ∧ wayL ((tab k).drop j) i p = R)
  case atStart => exact ⟨0, by omega, rfl, hT, hb1, HR0.out⟩
  case round =>
    clear hT hb1
    obtain ⟨j, hjm, rfl, hT, hbl, hR⟩ := hrel
    have HR := Lib.hid hR
    clear hR
    obtain ⟨W1, rfl⟩ : ∃ W1 : World, W1 = wr := ⟨_, rfl⟩
    by_cases hj : j < n
    · have hjd : decide ((j : Int) < (n : Int)) = true := by simpa using hj
      have hjl : (j : Int) < n := by omega
      obtain ⟨g, a, b, q, rfl, hg, hd, k0, k1, k2⟩ := hT.row hj
      have HD := Lib.hid hd
      clear hd
      cases ho : otherT a b i with
      | none =>
        go_wp2_with (go_at_call 49; go_must (refine (other_any a b q i _).mono ?_; rintro e w5 ⟨rfl, hb5⟩; rw [ho]))
        go_roundg (n - j - 1)
        case measure => omega
        case rel =>
          have hb := (below_new (Below.refl W1.heap.size W1) (.cells #[.int .i64 a, .int .i64 b, .int .i64 q] 101)).trans (hb5.mono (by simp))
          refine ⟨j + 1, by omega, by go_num, hT.below hb, below_step hbl hb, ?_⟩
          rw [← HR.out, HD.out, wayL, ho]
      | some o =>
        by_cases hq : q = 0 ∨ q = p
        · have HF : Hid (R = some o) := Lib.hid (by rw [← HR.out, HD.out, wayL, ho]; simp only; rw [if_pos hq])
          by_cases hq0 : q = 0
          · have b0 : (q == 0) = true := by simpa using hq0
            clear hq hq0
            go_wp2_with (go_at_call 49; go_must (refine (other_any a b q i _).mono ?_; rintro e w5 ⟨rfl, hb5⟩; obtain ⟨c5, f5⟩ := below_reads hb5; rw [ho]))
            go_ret2
            exact ⟨by rw [HW.out, HF.out]; rfl, below_step (below_new hbl _) hb5⟩
          · have b0 : (q == 0) = false := by simpa using hq0
            have b1 : (q == p) = true := by simpa using hq.resolve_left hq0
            clear hq hq0
            go_wp2_with (go_at_call 49; go_must (refine (other_any a b q i _).mono ?_; rintro e w5 ⟨rfl, hb5⟩; obtain ⟨c5, f5⟩ := below_reads hb5; rw [ho]))
            go_ret2
            exact ⟨by rw [HW.out, HF.out]; rfl, below_step (below_new hbl _) hb5⟩
        · have b0 : (q == 0) = false := by simp; omega
          have b1 : (q == p) = false := by simp; omega
          have HF : Hid (wayL ((a, b, q) :: (tab k).drop (j + 1)) i p = wayL ((tab k).drop (j + 1)) i p) := Lib.hid (by rw [wayL, ho]; simp only; rw [if_neg hq])
          clear hq
          go_wp2_with (go_at_call 49; go_must (refine (other_any a b q i _).mono ?_; rintro e w5 ⟨rfl, hb5⟩; obtain ⟨c5, f5⟩ := below_reads hb5; rw [ho]))
          go_roundg (n - j - 1)
          case measure => omega
          case rel =>
            have hb := (below_new (Below.refl W1.heap.size W1) (.cells #[.int .i64 a, .int .i64 b, .int .i64 q] 101)).trans (hb5.mono (by simp))
            refine ⟨j + 1, by omega, by go_num, hT.below hb, below_step hbl hb, ?_⟩
            rw [← HF.out, ← HD.out]
            exact HR.out
    · have hjd : decide ((j : Int) < (n : Int)) = false := by simpa using hj
      have hl := hT.len
      have HF : Hid (R = none) := Lib.hid (by rw [← HR.out, List.drop_of_length_le (by omega)]; rfl)
      clear hl
      go_wp2
      go_ret2
      exact ⟨by rw [HW.out, HF.out]; rfl, hbl⟩
end Go.Proofs.Ytokldploloncgaa.topo
