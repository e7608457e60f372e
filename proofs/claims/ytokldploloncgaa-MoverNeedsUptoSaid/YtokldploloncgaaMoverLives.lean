/-
  The examples of layer 12 hold.
-/
import Derived.Test.YtokldploloncgaaMoverB
namespace Go.Proofs.Ytokldploloncgaa.mover
open Go.RowKit

/-- The examples. -/
theorem lives_any (w : World) : Calls Try.prog 14 #[] w fun e w' => e = .returned (.bool true) ∧ Below w.heap.size w w' := by
  have p1 : prv 1 9 1 12 true 2 = true := by decide
  have p2 : prv 1 9 1 11 true 2 = false := by decide
  have p3 : othOf 0 5 9 1 = 9 := by decide
  go_enter Try.func14, Try.ntmps14
  go_wp2_with (first
    | (go_at_call 15; refine (start_any _ _).mono ?_; rintro e w1 ⟨rfl, hb1⟩; obtain ⟨c1, f1⟩ := below_reads hb1)
    | (go_at_call 16; refine (command_any _ _ _ _ _).mono ?_; rintro e w2 ⟨rfl, hb2⟩; obtain ⟨c2, f2⟩ := below_reads hb2)
    | (go_at_call 18; refine (proven_any _ _ _ _ _ _ _).mono ?_; rintro e w3 ⟨rfl, hb3⟩; obtain ⟨c3, f3⟩ := below_reads hb3))
  go_ret
  exact ⟨rfl, by repeat (first | assumption | exact Below.refl _ _ | refine below_new ?_ _ | refine below_step ?_ (by assumption))⟩
end Go.Proofs.Ytokldploloncgaa.mover
