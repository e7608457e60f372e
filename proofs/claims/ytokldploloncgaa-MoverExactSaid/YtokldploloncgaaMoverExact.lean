/-
  MoverExact answers true of every mover, look and triple of numbers, and leaves all that was there as it was.
  Conditions: none.
-/
import Derived.Test.YtokldploloncgaaMoverB
import Derived.Test.YtokldploloncgaaOpen
namespace Go.Proofs.Ytokldploloncgaa.mover
open Go.RowKit

/-- The examples. -/
theorem lives_any (w : World) : Calls Try.prog 14 #[] w fun e w' => e = .returned (.bool true) ∧ Below w.heap.size w w' := by
  have p1 : prv 1 9 1 12 true 2 = true := by decide
  have p2 : prv 1 9 1 11 true 2 = false := by decide
  have p3 : othOf 0 5 9 1 = 9 := by decide
  go_enter Try.func14, Try.ntmps14
  go_wp2_with (first
    | (go_at_call 15; refine (start_any _ _).mono ?_; rintro e w1 ⟨rfl, hb1⟩; obtain ⟨c1, f1⟩ := below_reads hb1)
    | (go_at_call 16; refine (command_any _ _ _ _ _).mono ?_; rintro e w2 ⟨rfl, hb2⟩; obtain ⟨c2, f2⟩ := below_reads hb2)
    | (go_at_call 18; refine (proven_any _ _ _ _ _ _ _).mono ?_; rintro e w3 ⟨rfl, hb3⟩; obtain ⟨c3, f3⟩ := below_reads hb3))
  go_ret
  exact ⟨rfl, by repeat (first | assumption | exact Below.refl _ _ | refine below_new ?_ _ | refine below_step ?_ (by assumption))⟩

theorem exact_any (c o v s : Int) (b : Bool) (now cmd age : Int) (w : World) : Calls Try.prog 3 #[.agg #[.int .i64 c, .int .i64 o], .agg #[.int .i64 v, .int .i64 s, .bool b], .agg #[.int .i64 now, .int .i64 cmd, .int .i64 age]] w fun e w' =>
    e = .returned (.bool true) ∧ Below w.heap.size w w' := by
  go_enter Try.func3, Try.ntmps3
  go_wp2_with (go_at_call 14; refine (lives_any _).mono ?_; rintro e w1 ⟨rfl, hb1⟩; obtain ⟨c1, f1⟩ := below_reads hb1)
  have s1 := hb1.size
  simp at s1
  have k0 : w.heap.size < w1.heap.size := by omega
  have k1 : w.heap.size + 1 < w1.heap.size := by omega
  have k2 : w.heap.size + 1 + 1 < w1.heap.size := by omega
  refine wp_region_later (by kernel_rfl) (by kernel_rfl) ?_
  repeat (go_big_quiet_step (fail))
  refine wpQuiet_nil ?_
  intro w2 hb2
  obtain ⟨c2, f2⟩ := below_reads hb2
  have s2 := hb2.size
  have m0 : w.heap.size < w2.heap.size := by omega
  have m1 : w.heap.size + 1 < w2.heap.size := by omega
  have m2 : w.heap.size + 1 + 1 < w2.heap.size := by omega
  go_wp2
  refine wp_region_later (by kernel_rfl) (by kernel_rfl) ?_
  repeat (go_big_quiet_step (first
    | (go_at_call 15; exact later_of (start_any _ _))
    | (go_at_call 16; exact later_of (command_any _ _ _ _ _))
    | (go_at_call 17; exact later_of (refCommand_any _ _ _ _ _))
    | (go_at_call 18; exact later_of (proven_any _ _ _ _ _ _ _))
    | (go_at_call 19; exact later_of (refProven_any _ _ _ _ _ _ _))))
  refine wpQuiet_nil ?_
  intro w3 hb3
  go_wp2
  go_ret
  exact ⟨rfl, by repeat (first | assumption | exact Below.refl _ _ | refine below_new ?_ _ | refine below_step ?_ (by assumption))⟩
end Go.Proofs.Ytokldploloncgaa.mover

namespace Go.Proofs.Ytokldploloncgaa.moverExact
open Go.ChangeShapes Go.WideShapes Go.ChangeAt Go.RowKit Go.Joins

set_option maxRecDepth 100000 in
theorem contract (H : Type) (enc : TypeId × Value → H) (W : World) (base : Nat) (args : Array Value) (ds gs : List (DataW H)) (before : List MemPlace)
    (hval0 : ∀ (j : Nat) t v, Try.f3.params[j]? = some t → args[j]? = some v → Value.okWide Try.prog W .any base t v)
    (hW : DataW.Whole enc Try.prog Try.f3.params.toList Rows.moverExactSpec.vars false W args.toList ds gs before) :
    Calls Try.prog 3 args W fun e W' => e = .returned (.bool true) ∧ Below W.heap.size W W' := by
  have hval := hval0
  clear hval0
  obtain ⟨p, q, hA0, _⟩ := hW
  have hA : DataW.TrodAll enc Try.prog W 0 (fun _ => true) true Try.f3.params.toList args.toList ds p := hA0
  rw [Try.params3] at hA hval
  obtain ⟨v0, v1, v2, d0, d1, d2, p0, p1, p2, rfl, rfl, rfl, h0, h1, h2⟩ := trodAll_three hA
  obtain ⟨c0, c1, y0, y1, n0, rfl, -, -, k0, k1⟩ := open_agg2 Try.underlying23 (by kernel_rfl) (by kernel_rfl) (hval 0 _ v0 rfl rfl) h0
  obtain ⟨e0, e1, e2, z0, z1, z2, n1, rfl, -, -, m0, m1, m2⟩ := open_agg3 Try.underlying25 (by kernel_rfl) (by kernel_rfl) (hval 1 _ v1 rfl rfl) h1
  obtain ⟨x, y, z, rfl, -⟩ := open_arr3 Try.underlying26 Try.underlying3 (by kernel_rfl) (by kernel_rfl) (hval 2 _ v2 rfl rfl) h2
  obtain ⟨c, rfl, -⟩ := int_cell Try.underlying3 k0
  obtain ⟨o, rfl, -⟩ := int_cell Try.underlying3 k1
  obtain ⟨v, rfl, -⟩ := int_cell Try.underlying3 m0
  obtain ⟨s, rfl, -⟩ := int_cell Try.underlying3 m1
  obtain ⟨b, rfl, -⟩ := bool_cell Try.underlying4 m2
  exact mover.exact_any c o v s b x y z W

set_option maxRecDepth 100000 in
theorem lifted (os : Os) (started : os.Started) (H : Type) (enc : TypeId × Value → H) :
    ReturnsInHanded {} Try.checked os 3 .any (Rows.moverExactSpec.pre6 enc Try.prog Try.f3 Rows.moverExactRow.domain false) (Rows.moverExactSpec.post enc Try.prog Try.f3 false true false false) := by
  refine returnsInHanded_of_change_sized (C := Try.checked) own started (by kernel_rfl) Try.func3
    (ChangeSpec.witness6 (enc := enc) (C := Try.checked) false ⟨#[], #[.agg #[.int .i64 0, .int .i64 0], .agg #[.int .i64 0, .int .i64 0, .bool false], .agg #[.int .i64 0, .int .i64 0, .int .i64 0]], []⟩ 8 (by kernel_rfl) (by kernel_rfl) (by kernel_rfl) (by kernel_rfl)) ?_
  intro W base args ds gs before hval hW _ _ _
  have hW0 : DataW.Whole enc Try.prog Try.f3.params.toList Rows.moverExactSpec.vars false W args.toList ds gs before := hW
  refine (contract H enc W base args ds gs before hval hW).mono fun e W' ⟨he, hb⟩ => ⟨_, he, post_law laidOut (by kernel_rfl) (by kernel_rfl : Try.prog.underlying 4 = some .bool) (by kernel_rfl) rfl hW0 ?_ hb⟩
  obtain ⟨p, q, hA0, _⟩ := hW0
  have hA : DataW.TrodAll enc Try.prog W 0 (fun _ => true) true Try.f3.params.toList args.toList ds p := hA0
  rw [Try.params3] at hA
  obtain ⟨v0, vs0, d0, ds0, p0, q0, hargs, rfl, rfl, h0, r0⟩ := trodAll_cons hA
  obtain ⟨v1, vs1, d1, ds1, p1, q1, rfl, rfl, rfl, h1, r1⟩ := trodAll_cons r0
  obtain ⟨v2, vs2, d2, ds2, p2, q2, rfl, rfl, rfl, h2, r2⟩ := trodAll_cons r1
  obtain ⟨rfl, rfl, rfl⟩ := trodAll_nil r2
  rfl

theorem holds : Rows.MoverExactSaid :=
  OpenClaim.holds_of_wide 3 Try.f3 rfl rfl rfl rfl rfl rfl rfl ⟨rfl, rfl, rfl, rfl, rfl⟩ rfl rfl rfl rfl rfl (by kernel_rfl) Try.func3 (by kernel_rfl)
    (of_decide_eq_true (by kernel_rfl)) (by unfold Func.isWrapper; first | (rw [if_pos (by decide +kernel)]; kernel_rfl) | (rw [if_neg (by decide +kernel)]; exact ⟨rfl, rfl⟩))
    (fun os started H enc _ => lifted os started H enc)
#print axioms holds

end Go.Proofs.Ytokldploloncgaa.moverExact
