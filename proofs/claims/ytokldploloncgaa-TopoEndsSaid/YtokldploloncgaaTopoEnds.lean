/-
  TopoEnds answers true of every kind and end, and leaves all that was there as it was.
  Conditions: none.
-/
import Derived.Test.YtokldploloncgaaTopoL
import Derived.Test.YtokldploloncgaaTopoM
import Derived.Test.YtokldploloncgaaSh
namespace Go.Proofs.Ytokldploloncgaa.topo
open Go.RowKit

set_option maxRecDepth 100000 in
set_option maxHeartbeats 1000000 in
theorem endsLaw_any (k e : Int) (w : World) : Calls Try.prog 11 #[.int .i64 k, .int .i64 e] w fun e' w' => e' = .returned (.bool true) ∧ Below w.heap.size w w' := by
  have hEk := endsT_in k
  go_enter Try.func11, Try.ntmps11
  go_upto_region 5 with (first
    | (go_at_call 27; refine (lives_any _).mono ?_; rintro e' w1 ⟨rfl, hb1⟩)
    | (go_at_call 35; refine (ends_any k _).mono ?_; rintro e' w2 ⟨rfl, hb2⟩))
  have hb := below_step hb1 hb2
  clear hb1 hb2
  have hP : RowsAt 1 enc1 (w2.alloc (.cells #[.int .i64 0, .int .i64 1, .int .i64 2] 3)) (some ⟨w2.heap.size, 0, none⟩) 3 3 [0, 1, 2] := rows_new (enc := enc1) (fun _ => rfl) [0, 1, 2] (heap_alloc_new w2 _) rfl 3 rfl (by omega)
  go_wp2
  go_loopg [19, 6] 3 (fun m c s6 wr => ∃ t : Nat, t + m = 3 ∧ c = .int .i64 t ∧ s6 = .bool (fnd k e ([0, 1, 2].take t)) ∧ Below (w2.alloc (.cells #[.int .i64 0, .int .i64 1, .int .i64 2] 3)).heap.size (w2.alloc (.cells #[.int .i64 0, .int .i64 1, .int .i64 2] 3)) wr)
  case atStart => exact ⟨0, rfl, rfl, rfl, Below.refl _ _⟩
  case round =>
    obtain ⟨t, htm, rfl, rfl, hb3⟩ := hrel
    obtain ⟨W, rfl⟩ : ∃ W : World, W = wr := ⟨_, rfl⟩
    by_cases ht : t < 3
    · have htd : decide ((t : Int) < 3) = true := by simp; omega
      have htl : (t : Int) < 3 := by omega
      obtain ⟨g, o, x, hgo, hg, hx, -, hc⟩ := (hP.below hb3).row ht
      injection hgo with hgo
      injection hgo with hgo1 hgo2
      subst hgo1 hgo2
      have k0 := hc 0 _ rfl
      rw [Nat.mul_one, Nat.add_zero, Nat.zero_add] at k0
      have hf : fnd k e ([0, 1, 2].take (t + 1)) = (fnd k e ([0, 1, 2].take t) || (wayT k e x).isSome) := by
        rw [List.take_add_one, hx]
        simp [fnd]
      have HF := Lib.hid hf
      clear hc hx hf
      cases hw : wayT k e x with
      | none =>
        go_wp2_with (go_at_call 36; go_must (refine (way_any k e x _).mono ?_; rintro e' w5 ⟨rfl, hb5⟩; rw [hw]))
        go_roundg (3 - t - 1)
        case measure => omega
        case rel => exact ⟨t + 1, by omega, by go_num, by rw [HF.out, hw]; simp, hb3.trans (hb5.mono hb3.size)⟩
      | some q =>
        obtain ⟨wb, q1, q2, q3, -, -⟩ := way_back hw
        have b1 : (q == e) = false := by simpa using q1
        have b2 : decide (q < 0) = false := by simp; omega
        have b3 : decide (endsT k ≤ q) = false := by simp; omega
        have HW := Lib.hid hw
        go_wp2_with (fail)
        refine (way_any k e x _).mono ?_
        rintro e' w5 ⟨rfl, hb5⟩
        rw [hw]
        go_wp2_with (fail)
        refine (way_any k q x _).mono ?_
        rintro e' w6 ⟨rfl, hb6⟩
        rw [wb]
        clear wb hw
        go_wp2
        go_roundg (3 - t - 1)
        case measure => omega
        case rel => exact ⟨t + 1, by omega, by go_num, by rw [HF.out, HW.out]; simp, hb3.trans ((below_step hb5 hb6).mono hb3.size)⟩
    · have htd : decide ((t : Int) < 3) = false := by simp; omega
      have h3 : fnd k e ([0, 1, 2].take t) = (decide (0 ≤ e) && decide (e < endsT k)) := by rw [List.take_of_length_le (by simp; omega)]; exact fnd_all k e
      rw [h3]
      clear h3
      cases c1 : decide (0 ≤ e) <;> cases c2 : decide (e < endsT k)
      all_goals
        go_wp2
        go_ret
        exact ⟨by simp, below_step (below_new hb _) hb3⟩
end Go.Proofs.Ytokldploloncgaa.topo

namespace Go.Proofs.Ytokldploloncgaa.topoEnds
open Go.ChangeShapes Go.WideShapes Go.ChangeAt Go.RowKit Go.Joins

set_option maxRecDepth 100000 in
theorem contract (H : Type) (enc : TypeId × Value → H) (W : World) (base : Nat) (args : Array Value) (ds gs : List (DataW H)) (before : List MemPlace)
    (hval0 : ∀ (j : Nat) t v, Try.f11.params[j]? = some t → args[j]? = some v → Value.okWide Try.prog W .any base t v)
    (hW : DataW.Whole enc Try.prog Try.f11.params.toList Rows.topoEndsSpec.vars false W args.toList ds gs before) :
    Calls Try.prog 11 args W fun e W' => e = .returned (.bool true) ∧ Below W.heap.size W W' := by
  have hval := hval0
  clear hval0
  obtain ⟨p, q, hA0, hV, _, _, _⟩ := hW
  have hA : DataW.TrodAll enc Try.prog W 0 (fun _ => true) true Try.f11.params.toList args.toList ds p := hA0
  obtain ⟨rfl, rfl⟩ := trodVars_none hV
  rw [Try.params11] at hA hval
  obtain ⟨v0, v1, d0, d1, p0, p1, rfl, rfl, rfl, h0, h1⟩ := trodAll_two hA
  obtain ⟨k, rfl, -, -, -⟩ := open_int Try.underlying3 (hval 0 _ v0 rfl rfl) h0
  obtain ⟨e, rfl, -, -, -⟩ := open_int Try.underlying3 (hval 1 _ v1 rfl rfl) h1
  exact topo.endsLaw_any k e W

set_option maxRecDepth 100000 in
theorem lifted (os : Os) (started : os.Started) (H : Type) (enc : TypeId × Value → H) :
    ReturnsInHanded {} Try.checked os 11 .any (Rows.topoEndsSpec.pre6 enc Try.prog Try.f11 Rows.topoEndsRow.domain false) (Rows.topoEndsSpec.post enc Try.prog Try.f11 false true false false) := by
  refine returnsInHanded_of_change_sized (C := Try.checked) own started (by kernel_rfl) Try.func11
    (ChangeSpec.witness6 (enc := enc) (C := Try.checked) false ⟨#[], #[.int .i64 0, .int .i64 0], []⟩ 8 (by kernel_rfl) (by kernel_rfl) (by kernel_rfl) (by kernel_rfl)) ?_
  intro W base args ds gs before hval hW _ _ _
  have hW0 : DataW.Whole enc Try.prog Try.f11.params.toList Rows.topoEndsSpec.vars false W args.toList ds gs before := hW
  refine (contract H enc W base args ds gs before hval hW).mono fun e W' ⟨he, hb⟩ => ⟨_, he, post_law laidOut (by kernel_rfl) (by kernel_rfl : Try.prog.underlying 4 = some .bool) (by kernel_rfl) rfl hW0 ?_ hb⟩
  obtain ⟨p, q, hA0, _⟩ := hW0
  have hA : DataW.TrodAll enc Try.prog W 0 (fun _ => true) true Try.f11.params.toList args.toList ds p := hA0
  rw [Try.params11] at hA
  obtain ⟨v0, vs0, d0, ds0, p0, q0, hargs, rfl, rfl, h0, r0⟩ := trodAll_cons hA
  obtain ⟨v1, vs1, d1, ds1, p1, q1, rfl, rfl, rfl, h1, r1⟩ := trodAll_cons r0
  obtain ⟨rfl, rfl, rfl⟩ := trodAll_nil r1
  rfl

theorem holds : Rows.TopoEndsSaid :=
  OpenClaim.holds_of_wide 11 Try.f11 rfl rfl rfl rfl rfl rfl rfl ⟨rfl, rfl, rfl, rfl, rfl⟩ rfl rfl rfl rfl rfl (by kernel_rfl) Try.func11 (by kernel_rfl)
    (of_decide_eq_true (by kernel_rfl)) (by unfold Func.isWrapper; first | (rw [if_pos (by decide +kernel)]; kernel_rfl) | (rw [if_neg (by decide +kernel)]; exact ⟨rfl, rfl⟩))
    (fun os started H enc _ => lifted os started H enc)
#print axioms holds
end Go.Proofs.Ytokldploloncgaa.topoEnds
