/-
  Two rows that hold the same are the same: numbers, steps.
-/
import Derived.Test.YtokldploloncgaaTopoG
import Derived.BigQuiet
namespace Go.Proofs.Ytokldploloncgaa.topo
open Go.RowKit

theorem same_ints (L : List Int) (a1 a2 : Option Addr) (n c1 c2 : Nat) (w : World) (k1 : RowsAt 1 enc1 w a1 n c1 L) (k2 : RowsAt 1 enc1 w a2 n c2 L) :
    Calls Try.prog 25 #[.slice a1 n c1, .slice a2 n c2] w fun e w' => e = .returned (.bool true) ∧ Below w.heap.size w w' := by
  have hn : n ≤ 9223372036854775807 := Nat.le_trans k1.le k1.max
  go_enter Try.func25, Try.ntmps25
  go_wp2
  go_loopg [13] n (fun m v wr => ∃ k : Nat, k + m = n ∧ v = .int .i64 k ∧ Below w.heap.size w wr)
  case atStart => exact ⟨0, by omega, rfl, Below.refl _ _⟩
  case round =>
    obtain ⟨k, hk, rfl, hb⟩ := hrel
    by_cases hlt : k < n
    · obtain ⟨g1, o1, x, rfl, q1, h1, -, r1⟩ := (k1.below hb).row hlt
      obtain ⟨g2, o2, y, rfl, q2, h2, -, r2⟩ := (k2.below hb).row hlt
      obtain rfl : x = y := by rw [h1] at h2; injection h2
      have y1 := r1 0 _ rfl
      have y2 := r2 0 _ rfl
      rw [Nat.add_zero, Nat.mul_one] at y1 y2
      have hkd : decide ((k : Int) < (n : Int)) = true := by simpa using hlt
      have z0 : (0 : Int) ≤ k := by omega
      have z1 : (k : Int) < n := by omega
      clear h1 h2 r1 r2 k1 k2
      go_wp2
      refine wp_region_later (by kernel_rfl) (by kernel_rfl) ?_
      repeat (go_big_quiet_step (fail))
      refine wpQuiet_nil ?_
      intro w1 hb1
      go_wp2
      go_roundg (n - k - 1)
      case measure => omega
      case rel => exact ⟨k + 1, by omega, by go_num, below_step hb hb1⟩
    · have hkd : decide ((k : Int) < (n : Int)) = false := by simpa using hlt
      go_wp2
      go_ret
      exact ⟨rfl, hb⟩

theorem same_steps (L : List (Int × Int × Int)) (a1 a2 : Option Addr) (n c1 c2 : Nat) (w : World) (k1 : RowsAt 3 enc3 w a1 n c1 L) (k2 : RowsAt 3 enc3 w a2 n c2 L) :
    Calls Try.prog 34 #[.slice a1 n c1, .slice a2 n c2] w fun e w' => e = .returned (.bool true) ∧ Below w.heap.size w w' := by
  have hn : n ≤ 9223372036854775807 := Nat.le_trans k1.le k1.max
  go_enter Try.func34, Try.ntmps34
  go_wp2
  go_loopg [13] n (fun m v wr => ∃ k : Nat, k + m = n ∧ v = .int .i64 k ∧ Below w.heap.size w wr)
  case atStart => exact ⟨0, by omega, rfl, Below.refl _ _⟩
  case round =>
    obtain ⟨k, hk, rfl, hb⟩ := hrel
    by_cases hlt : k < n
    · obtain ⟨g1, o1, x, rfl, q1, h1, -, r1⟩ := (k1.below hb).row hlt
      obtain ⟨g2, o2, y, rfl, q2, h2, -, r2⟩ := (k2.below hb).row hlt
      obtain rfl : x = y := by rw [h1] at h2; injection h2
      obtain ⟨a, b, c⟩ := x
      have y1 := r1 0 _ rfl
      have y2 := r1 1 _ rfl
      have y3 := r1 2 _ rfl
      have y4 := r2 0 _ rfl
      have y5 := r2 1 _ rfl
      have y6 := r2 2 _ rfl
      rw [Nat.add_zero] at y1 y4
      have hkd : decide ((k : Int) < (n : Int)) = true := by simpa using hlt
      have z0 : (0 : Int) ≤ k := by omega
      have z1 : (k : Int) < n := by omega
      clear h1 h2 r1 r2 k1 k2
      go_wp2
      refine wp_region_later (by kernel_rfl) (by kernel_rfl) ?_
      repeat (go_big_quiet_step (fail))
      refine wpQuiet_nil ?_
      intro w1 hb1
      go_wp2
      go_roundg (n - k - 1)
      case measure => omega
      case rel => exact ⟨k + 1, by omega, by go_num, below_step hb hb1⟩
    · have hkd : decide ((k : Int) < (n : Int)) = false := by simpa using hlt
      go_wp2
      go_ret
      exact ⟨rfl, hb⟩
end Go.Proofs.Ytokldploloncgaa.topo
