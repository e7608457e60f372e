/-
  mover.Proven and its reference answer one and the same Bool.
-/
import Derived.Test.YtokldploloncgaaMoverA
namespace Go.Proofs.Ytokldploloncgaa.mover
open Go.RowKit

def prv (c o v s : Int) (b : Bool) (age : Int) : Bool := b && !(c == 0) && v == c && decide (bnd age < bnd s - bnd o)

theorem proven_any (c o v s : Int) (b : Bool) (age : Int) (w : World) : Calls Try.prog 18 #[.agg #[.int .i64 c, .int .i64 o], .agg #[.int .i64 v, .int .i64 s, .bool b], .int .i64 age] w fun e w' =>
    e = .returned (.bool (prv c o v s b age)) ∧ Below w.heap.size w w' := by
  by_cases h1 : b = false
  · subst h1
    have e : prv c o v s false age = false := by simp [prv]
    rw [e]
    go_enter Try.func18, Try.ntmps18
    go_wp2
    go_ret
    exact ⟨rfl, ((Below.refl _ _).alloc (Nat.le_refl _) _).alloc (by simp) _⟩
  obtain rfl : b = true := by simpa using h1
  by_cases h2 : c = 0
  · subst h2
    have e : prv 0 o v s true age = false := by simp [prv]
    rw [e]
    go_enter Try.func18, Try.ntmps18
    go_wp2
    go_ret
    exact ⟨rfl, ((Below.refl _ _).alloc (Nat.le_refl _) _).alloc (by simp) _⟩
  have b2 : (c == 0) = false := by simpa using h2
  by_cases h3 : v = c
  · subst h3
    have e : prv v o v s true age = decide (bnd age < bnd s - bnd o) := by simp [prv, h2]
    rw [e]
    clear e h1 h2
    have i1 := bnd_in s
    have i2 := bnd_in o
    go_enter Try.func18, Try.ntmps18
    go_wp2
    refine wp_region_later (by kernel_rfl) (by kernel_rfl) ?_
    repeat (go_big_quiet_step (first | (go_at_call 41; exact later_same (bound_any _ _))))
    refine wpQuiet_nil ?_
    intro w1 hb1
    go_wp2
    go_ret
    exact ⟨rfl, (((Below.refl _ _).alloc (Nat.le_refl _) _).alloc (by simp) _).trans (hb1.mono (by simp; omega))⟩
  · have e : prv c o v s true age = false := by simp [prv, h3]
    have b3 : (v != c) = true := by simpa using h3
    rw [e]
    clear e h1
    go_enter Try.func18, Try.ntmps18
    go_wp2
    go_ret
    exact ⟨rfl, ((Below.refl _ _).alloc (Nat.le_refl _) _).alloc (by simp) _⟩

theorem refProven_any (c o v s : Int) (b : Bool) (age : Int) (w : World) : Calls Try.prog 19 #[.agg #[.int .i64 c, .int .i64 o], .agg #[.int .i64 v, .int .i64 s, .bool b], .int .i64 age] w fun e w' =>
    e = .returned (.bool (prv c o v s b age)) ∧ Below w.heap.size w w' := by
  by_cases h1 : b = false
  · subst h1
    have e : prv c o v s false age = false := by simp [prv]
    rw [e]
    go_enter Try.func19, Try.ntmps19
    go_wp2
    refine wp_region_later (by kernel_rfl) (by kernel_rfl) ?_
    repeat (go_big_quiet_step (first | (go_at_call 42; exact later_same (within_any _ _))))
    refine wpQuiet_nil ?_
    intro w1 hb1
    go_wp2
    go_ret
    exact ⟨rfl, (((Below.refl _ _).alloc (Nat.le_refl _) _).alloc (by simp) _).trans (hb1.mono (by simp; omega))⟩
  obtain rfl : b = true := by simpa using h1
  by_cases h2 : c = 0
  · subst h2
    have e : prv 0 o v s true age = false := by simp [prv]
    rw [e]
    go_enter Try.func19, Try.ntmps19
    go_wp2
    refine wp_region_later (by kernel_rfl) (by kernel_rfl) ?_
    repeat (go_big_quiet_step (first | (go_at_call 42; exact later_same (within_any _ _))))
    refine wpQuiet_nil ?_
    intro w1 hb1
    go_wp2
    go_ret
    exact ⟨rfl, (((Below.refl _ _).alloc (Nat.le_refl _) _).alloc (by simp) _).trans (hb1.mono (by simp; omega))⟩
  have b2 : (c != 0) = true := by simpa using h2
  by_cases h3 : v = c
  · subst h3
    have e : prv v o v s true age = decide (bnd age < bnd s - bnd o) := by simp [prv, h2]
    rw [e]
    clear e h1 h2
    have i1 := bnd_in s
    have i2 := bnd_in o
    go_enter Try.func19, Try.ntmps19
    go_wp2
    refine wp_region_later (by kernel_rfl) (by kernel_rfl) ?_
    repeat (go_big_quiet_step (first | (go_at_call 42; exact later_same (within_any _ _))))
    refine wpQuiet_nil ?_
    intro w1 hb1
    go_wp2
    go_ret
    exact ⟨rfl, (((Below.refl _ _).alloc (Nat.le_refl _) _).alloc (by simp) _).trans (hb1.mono (by simp; omega))⟩
  · have e : prv c o v s true age = false := by simp [prv, h3]
    have b3 : (c == v) = false := by simpa using fun h => h3 h.symm
    rw [e]
    clear e h1
    go_enter Try.func19, Try.ntmps19
    go_wp2
    refine wp_region_later (by kernel_rfl) (by kernel_rfl) ?_
    repeat (go_big_quiet_step (first | (go_at_call 42; exact later_same (within_any _ _))))
    refine wpQuiet_nil ?_
    intro w1 hb1
    go_wp2
    go_ret
    exact ⟨rfl, (((Below.refl _ _).alloc (Nat.le_refl _) _).alloc (by simp) _).trans (hb1.mono (by simp; omega))⟩
end Go.Proofs.Ytokldploloncgaa.mover
