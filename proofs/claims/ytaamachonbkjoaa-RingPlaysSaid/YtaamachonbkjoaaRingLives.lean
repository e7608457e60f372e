/-
  Len, Cap and Lost; the examples of layer 4 hold.
-/
import Derived.Test.YtaamachonbkjoaaRingInt
namespace Go.Proofs.Ytaamachonbkjoaa.ring
open Go.RowKit

theorem len_any (b : Nat) (v : Int) (w : World) (h : w.cell? ⟨b, 0, none⟩ = some (.int .i64 v)) : Calls Try.prog 11 #[.pointer (some ⟨b, 0, none⟩)] w fun e w' => e = .returned (.int .i64 v) ∧ Below w.heap.size w w' := by
  go_enter Try.func11, Try.ntmps11
  go_wp2
  go_ret
  exact ⟨rfl, Below.refl _ _⟩

theorem cap_any (b : Nat) (v : Int) (w : World) (h : w.cell? ⟨b, 1, none⟩ = some (.int .i64 v)) : Calls Try.prog 25 #[.pointer (some ⟨b, 0, none⟩)] w fun e w' => e = .returned (.int .i64 v) ∧ Below w.heap.size w w' := by
  go_enter Try.func25, Try.ntmps25
  go_wp2
  go_ret
  exact ⟨rfl, Below.refl _ _⟩

theorem lost_any (b : Nat) (v : Int) (w : World) (h : w.cell? ⟨b, 2, none⟩ = some (.int .i64 v)) : Calls Try.prog 12 #[.pointer (some ⟨b, 0, none⟩)] w fun e w' => e = .returned (.int .i64 v) ∧ Below w.heap.size w w' := by
  go_enter Try.func12, Try.ntmps12
  go_wp2
  go_ret
  exact ⟨rfl, Below.refl _ _⟩

/-- The examples. -/
theorem lives_any (w : World) : Calls Try.prog 7 #[] w fun e w' => e = .returned (.bool true) ∧ Below w.heap.size w w' := by
  go_enter Try.func7, Try.ntmps7
  go_upto_region 2 with (go_at_call 14; refine (int.new_any 2 _).mono ?_; rintro e w1 ⟨b, p, rfl, hwb, hwp, hr1, hb1⟩)
  have hbs := hr1.lt_b
  have hps := hr1.lt_p
  have hne := hr1.ne
  have g1 := hb1.size
  have hb1' := hb1
  clear hb1
  have hl : int.lostBy 0 1 = 1 := by simp [int.lostBy, wrap64]
  go_upto_region 4 with (go_at_call 18; go_must (refine (int.put_as b p 2 0 0 [] [1, 2, 3] w1.heap.size 0 3 3 _ (hr1.below (below_new (Below.refl _ _) _)) 1 [1, 2] 1 rfl (by omega) (by omega) (by omega) (by omega) (by intro i x hx; rcases i with _ | _ | _ | i <;> simp at hx <;> subst hx <;> simp) rfl rfl hl).mono ?_; rintro e w2 ⟨rfl, hr2, ht2⟩))
  have g2 := ht2.size
  simp at g2
  have T2 := Touch.under (below_new hb1' _) ht2 hwb hwp
  clear ht2
  go_upto_region 5 with (go_at_call 16; refine (int.take_any b p 2 0 1 [1, 2] _ hr2).mono ?_; rintro e w3 ⟨rfl, hr3, ht3⟩; have c0 := hr3.c0; have c1 := hr3.c1; have c2 := hr3.c2; have hb3 := hr3.lt_b)
  have T3 := Touch.under T2 ht3 hwb hwp
  clear ht3 T2 hr2 hr1 hb1'
  go_wp2_with (first
    | (go_at_call 11; refine (len_any b _ _ c0).mono ?_; rintro e w4 ⟨rfl, hb4⟩; obtain ⟨r4, f4⟩ := below_reads hb4)
    | (go_at_call 25; refine (cap_any b _ _ ((r4 b 1 hb3).trans c1)).mono ?_; rintro e w5 ⟨rfl, hb5⟩; obtain ⟨r5, f5⟩ := below_reads hb5)
    | (go_at_call 12; refine (lost_any b _ _ ((hb4.trans (hb5.mono hb4.size)).cell (p := ⟨b, 2, none⟩) hb3 |>.trans c2)).mono ?_; rintro e w6 ⟨rfl, hb6⟩; obtain ⟨r6, f6⟩ := below_reads hb6))
  go_ret
  exact ⟨rfl, by repeat (first | assumption | refine below_step ?_ (by assumption))⟩
end Go.Proofs.Ytaamachonbkjoaa.ring
