/-
  What the functions of package mover that compute with numbers alone answer.
-/
import Derived.Test.YtokldploloncgaaLaw
import Derived.Test.YtokldploloncgaaRegion
namespace Go.Proofs.Ytokldploloncgaa.mover
open Go.RowKit

theorem ret_int {k : IntKind} {a b : Int} (h : a = b) : Ending.returned (.int k a) = .returned (.int k b) := by rw [h]

/-- A number within -1 and 2^62. -/
def bnd (n : Int) : Int := if n < -1 then -1 else if 4611686018427387904 < n then 4611686018427387904 else n
theorem bnd_in (n : Int) : -1 ≤ bnd n ∧ bnd n ≤ 4611686018427387904 := by unfold bnd; split <;> (try split) <;> omega

theorem bound_any (n : Int) (w : World) : Calls Try.prog 41 #[.int .i64 n] w fun e w' => e = .returned (.int .i64 (bnd n)) ∧ w = w' := by
  by_cases h1 : n < -1
  · have e : bnd n = -1 := by unfold bnd; rw [if_pos h1]
    rw [e]
    go_enter Try.func41, Try.ntmps41
    go_wp2
    go_ret
    exact ⟨rfl, rfl⟩
  by_cases h2 : 4611686018427387904 < n
  · have e : bnd n = 4611686018427387904 := by unfold bnd; rw [if_neg h1, if_pos h2]
    rw [e]
    go_enter Try.func41, Try.ntmps41
    go_wp2
    go_ret
    exact ⟨rfl, rfl⟩
  · have e : bnd n = n := by unfold bnd; rw [if_neg h1, if_neg h2]
    rw [e]
    go_enter Try.func41, Try.ntmps41
    go_wp2
    go_ret
    exact ⟨rfl, rfl⟩
theorem within_any (n : Int) (w : World) : Calls Try.prog 42 #[.int .i64 n] w fun e w' => e = .returned (.int .i64 (bnd n)) ∧ w = w' := by
  by_cases h1 : n < -1
  · have e : bnd n = -1 := by unfold bnd; rw [if_pos h1]
    rw [e]
    go_enter Try.func42, Try.ntmps42
    go_wp2
    go_ret
    exact ⟨rfl, rfl⟩
  by_cases h2 : 4611686018427387904 < n
  · have e : bnd n = 4611686018427387904 := by unfold bnd; rw [if_neg h1, if_pos h2]
    rw [e]
    go_enter Try.func42, Try.ntmps42
    go_wp2
    go_ret
    exact ⟨rfl, rfl⟩
  · have e : bnd n = n := by unfold bnd; rw [if_neg h1, if_neg h2]
    rw [e]
    go_enter Try.func42, Try.ntmps42
    go_wp2
    go_ret
    exact ⟨rfl, rfl⟩

theorem start_any (n : Int) (w : World) : Calls Try.prog 15 #[.int .i64 n] w fun e w' => e = .returned (.agg #[.int .i64 0, .int .i64 n]) ∧ Below w.heap.size w w' := by
  go_enter Try.func15, Try.ntmps15
  go_wp2
  refine bodyPost_ret (v := .agg #[.int .i64 0, .int .i64 n]) (by simp [results, Try.results15, go_sem]) rfl ⟨rfl, ?_⟩
  exact (Below.refl _ _).alloc (Nat.le_refl _) _

/-- Since when a mover has its command, behind Command. -/
def othOf (c o now cmd : Int) : Int := if c = cmd then o else now

theorem command_any (c o now cmd : Int) (w : World) : Calls Try.prog 16 #[.agg #[.int .i64 c, .int .i64 o], .int .i64 now, .int .i64 cmd] w fun e w' =>
    e = .returned (.agg #[.int .i64 cmd, .int .i64 (othOf c o now cmd)]) ∧ Below w.heap.size w w' := by
  by_cases h : c = cmd
  · subst h
    have e : othOf c o now c = o := if_pos rfl
    rw [e]
    go_enter Try.func16, Try.ntmps16
    go_wp2
    refine bodyPost_ret (v := .agg #[.int .i64 c, .int .i64 o]) (by simp [results, Try.results16, go_sem]) rfl ⟨rfl, ?_⟩
    exact ((Below.refl _ _).alloc (Nat.le_refl _) _).alloc (by simp) _
  · have e : othOf c o now cmd = now := if_neg h
    rw [e]
    have hb : (c != cmd) = true := by simpa using h
    go_enter Try.func16, Try.ntmps16
    go_wp2
    refine bodyPost_ret (v := .agg #[.int .i64 cmd, .int .i64 now]) (by simp [results, Try.results16, go_sem]) rfl ⟨rfl, ?_⟩
    exact ((Below.refl _ _).alloc (Nat.le_refl _) _).alloc (by simp) _
theorem refCommand_any (c o now cmd : Int) (w : World) : Calls Try.prog 17 #[.agg #[.int .i64 c, .int .i64 o], .int .i64 now, .int .i64 cmd] w fun e w' =>
    e = .returned (.agg #[.int .i64 cmd, .int .i64 (othOf c o now cmd)]) ∧ Below w.heap.size w w' := by
  by_cases h : c = cmd
  · subst h
    have e : othOf c o now c = o := if_pos rfl
    rw [e]
    go_enter Try.func17, Try.ntmps17
    go_wp2
    refine bodyPost_ret (v := .agg #[.int .i64 c, .int .i64 o]) (by simp [results, Try.results17, go_sem]) rfl ⟨rfl, ?_⟩
    exact ((Below.refl _ _).alloc (Nat.le_refl _) _).alloc (by simp) _
  · have e : othOf c o now cmd = now := if_neg h
    rw [e]
    have hb : (c == cmd) = false := by simpa using h
    go_enter Try.func17, Try.ntmps17
    go_wp2
    refine bodyPost_ret (v := .agg #[.int .i64 cmd, .int .i64 now]) (by simp [results, Try.results17, go_sem]) rfl ⟨rfl, ?_⟩
    exact ((Below.refl _ _).alloc (Nat.le_refl _) _).alloc (by simp) _

end Go.Proofs.Ytokldploloncgaa.mover
