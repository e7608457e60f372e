/-
  TopoWays answers true of every kind, end, other end and position, and leaves all that was there as it was.
  Conditions: none.
-/
import Derived.Test.YtokldploloncgaaTopoL
import Derived.Test.YtokldploloncgaaTopoN
import Derived.Test.YtokldploloncgaaSh
namespace Go.Proofs.Ytokldploloncgaa.topo
open Go.RowKit

set_option maxRecDepth 100000 in
set_option maxHeartbeats 2000000 in
theorem waysLaw_any (k i o p : Int) (w : World) : Calls Try.prog 13 #[.agg #[.int .i64 k, .int .i64 i, .int .i64 o], .int .i64 p] w fun e' w' => e' = .returned (.bool true) ∧ Below w.heap.size w w' := by
  go_enter Try.func13, Try.ntmps13
  go_upto_region 3 with (go_at_call 27; refine (lives_any _).mono ?_; rintro e' w1 ⟨rfl, hb1⟩; obtain ⟨c1, f1⟩ := below_reads hb1)
  go_quiet (fail)
  have hb2 := below_drewN (below_step (below_new (Below.refl w.heap.size w) _) hb1) nq
  clear c1 f1
  cases hp : posT k i o with
  | none =>
    cases hw : wayT k i p with
    | none =>
      have HW := Lib.hid hw
      have HP := Lib.hid hp
      clear hw hp
      go_wp2_with (fail)
      refine (way_any k i p _).mono ?_
      rintro e1 w3 ⟨rfl, hb3⟩
      rw [HW.out]
      go_wp2_with (fail)
      refine (wayR_any k i p _).mono ?_
      rintro e1 w4 ⟨rfl, hb4⟩
      rw [HW.out]
      go_wp2_with (fail)
      refine (pos_any k i o _).mono ?_
      rintro e1 w5 ⟨rfl, hb5⟩
      rw [HP.out]
      go_wp2_with (fail)
      refine (posR_any k i o _).mono ?_
      rintro e1 w6 ⟨rfl, hb6⟩
      rw [HP.out]
      go_wp2_with (fail)
      refine (ends_any k _).mono ?_
      rintro e1 w7 ⟨rfl, hb7⟩
      go_wp2_with (fail)
      refine (endsR_any k _).mono ?_
      rintro e1 w8 ⟨rfl, hb8⟩
      go_wp2
      go_ret
      exact ⟨by simp, below_step (below_step (below_step (below_step (below_step (below_step hb2 hb3) hb4) hb5) hb6) hb7) hb8⟩
    | some a =>
      obtain ⟨wb, q1, -, -, -, -⟩ := way_back hw
      obtain ⟨q, hq, hq0⟩ := way_pos hw
      have b1 : (a == i) = false := by simpa using q1
      have HW := Lib.hid hw
      have HP := Lib.hid hp
      have HB := Lib.hid wb
      have HQ := Lib.hid hq
      clear hw hp wb hq q1
      go_wp2_with (fail)
      refine (way_any k i p _).mono ?_
      rintro e1 w3 ⟨rfl, hb3⟩
      rw [HW.out]
      go_wp2_with (fail)
      refine (wayR_any k i p _).mono ?_
      rintro e1 w4 ⟨rfl, hb4⟩
      rw [HW.out]
      go_wp2_with (fail)
      refine (pos_any k i o _).mono ?_
      rintro e1 w5 ⟨rfl, hb5⟩
      rw [HP.out]
      go_wp2_with (fail)
      refine (posR_any k i o _).mono ?_
      rintro e1 w6 ⟨rfl, hb6⟩
      rw [HP.out]
      go_wp2_with (fail)
      refine (ends_any k _).mono ?_
      rintro e1 w7 ⟨rfl, hb7⟩
      go_wp2_with (fail)
      refine (endsR_any k _).mono ?_
      rintro e1 w8 ⟨rfl, hb8⟩
      go_wp2_with (fail)
      refine (way_any k a p _).mono ?_
      rintro e1 w9 ⟨rfl, hb9⟩
      rw [HB.out]
      go_wp2_with (fail)
      refine (pos_any k i a _).mono ?_
      rintro e1 w10 ⟨rfl, hb10⟩
      rw [HQ.out]
      have hx := below_step (below_step (below_step (below_step (below_step (below_step (below_step (below_step hb2 hb3) hb4) hb5) hb6) hb7) hb8) hb9) hb10
      clear hb2 hb3 hb4 hb5 hb6 hb7 hb8 hb9 hb10
      by_cases hq1 : q = 0
      · have b2 : (q != 0) = false := by simp [hq1]
        clear hq0 hq1
        go_wp2
        go_ret
        exact ⟨by simp, hx⟩
      · have b2 : (q != 0) = true := by simpa using hq1
        have b3 : (q != p) = false := by simpa using hq0.resolve_left hq1
        clear hq0 hq1
        go_wp2
        go_ret
        exact ⟨by simp, hx⟩
  | some r =>
    have b9 : (i != o) = true := by simpa using pos_ne hp
    cases hw : wayT k i p with
    | none =>
      have HW := Lib.hid hw
      have HP := Lib.hid hp
      clear hw hp
      go_wp2_with (fail)
      refine (way_any k i p _).mono ?_
      rintro e1 w3 ⟨rfl, hb3⟩
      rw [HW.out]
      go_wp2_with (fail)
      refine (wayR_any k i p _).mono ?_
      rintro e1 w4 ⟨rfl, hb4⟩
      rw [HW.out]
      go_wp2_with (fail)
      refine (pos_any k i o _).mono ?_
      rintro e1 w5 ⟨rfl, hb5⟩
      rw [HP.out]
      go_wp2_with (fail)
      refine (posR_any k i o _).mono ?_
      rintro e1 w6 ⟨rfl, hb6⟩
      rw [HP.out]
      go_wp2_with (fail)
      refine (ends_any k _).mono ?_
      rintro e1 w7 ⟨rfl, hb7⟩
      go_wp2_with (fail)
      refine (endsR_any k _).mono ?_
      rintro e1 w8 ⟨rfl, hb8⟩
      go_wp2
      go_ret
      exact ⟨by simp, below_step (below_step (below_step (below_step (below_step (below_step hb2 hb3) hb4) hb5) hb6) hb7) hb8⟩
    | some a =>
      obtain ⟨wb, q1, -, -, -, -⟩ := way_back hw
      obtain ⟨q, hq, hq0⟩ := way_pos hw
      have b1 : (a == i) = false := by simpa using q1
      have HW := Lib.hid hw
      have HP := Lib.hid hp
      have HB := Lib.hid wb
      have HQ := Lib.hid hq
      clear hw hp wb hq q1
      go_wp2_with (fail)
      refine (way_any k i p _).mono ?_
      rintro e1 w3 ⟨rfl, hb3⟩
      rw [HW.out]
      go_wp2_with (fail)
      refine (wayR_any k i p _).mono ?_
      rintro e1 w4 ⟨rfl, hb4⟩
      rw [HW.out]
      go_wp2_with (fail)
      refine (pos_any k i o _).mono ?_
      rintro e1 w5 ⟨rfl, hb5⟩
      rw [HP.out]
      go_wp2_with (fail)
      refine (posR_any k i o _).mono ?_
      rintro e1 w6 ⟨rfl, hb6⟩
      rw [HP.out]
      go_wp2_with (fail)
      refine (ends_any k _).mono ?_
      rintro e1 w7 ⟨rfl, hb7⟩
      go_wp2_with (fail)
      refine (endsR_any k _).mono ?_
      rintro e1 w8 ⟨rfl, hb8⟩
      go_wp2_with (fail)
      refine (way_any k a p _).mono ?_
      rintro e1 w9 ⟨rfl, hb9⟩
      rw [HB.out]
      go_wp2_with (fail)
      refine (pos_any k i a _).mono ?_
      rintro e1 w10 ⟨rfl, hb10⟩
      rw [HQ.out]
      have hx := below_step (below_step (below_step (below_step (below_step (below_step (below_step (below_step hb2 hb3) hb4) hb5) hb6) hb7) hb8) hb9) hb10
      clear hb2 hb3 hb4 hb5 hb6 hb7 hb8 hb9 hb10
      by_cases hq1 : q = 0
      · have b2 : (q != 0) = false := by simp [hq1]
        clear hq0 hq1
        go_wp2
        go_ret
        exact ⟨by simp, hx⟩
      · have b2 : (q != 0) = true := by simpa using hq1
        have b3 : (q != p) = false := by simpa using hq0.resolve_left hq1
        clear hq0 hq1
        go_wp2
        go_ret
        exact ⟨by simp, hx⟩
end Go.Proofs.Ytokldploloncgaa.topo

namespace Go.Proofs.Ytokldploloncgaa.topoWays
open Go.ChangeShapes Go.WideShapes Go.ChangeAt Go.RowKit Go.Joins

def shape : Sh := .struct [.int, .int, .int]

set_option maxRecDepth 100000 in
theorem contract (H : Type) (enc : TypeId × Value → H) (W : World) (base : Nat) (args : Array Value) (ds gs : List (DataW H)) (before : List MemPlace)
    (hval0 : ∀ (j : Nat) t v, Try.f13.params[j]? = some t → args[j]? = some v → Value.okWide Try.prog W .any base t v)
    (hW : DataW.Whole enc Try.prog Try.f13.params.toList Rows.topoWaysSpec.vars false W args.toList ds gs before)
    (hsz0 : (DataW.weightsEach Try.prog (Try.f13.params.toList ++ Rows.topoWaysSpec.plain.varTypes Try.prog) (ds ++ gs)).all (· ≤ reachBytes) = true) :
    Calls Try.prog 13 args W fun e W' => e = .returned (.bool true) ∧ Below W.heap.size W W' := by
  have hval := hval0
  have hsz := hsz0
  clear hval0 hsz0
  obtain ⟨p, q, hA0, hV, _, _, _⟩ := hW
  have hA : DataW.TrodAll enc Try.prog W 0 (fun _ => true) true Try.f13.params.toList args.toList ds p := hA0
  obtain ⟨rfl, rfl⟩ := trodVars_none hV
  rw [Try.params13] at hA hval hsz
  obtain ⟨v0, v1, d0, d1, p0, p1, rfl, rfl, rfl, h0, h1⟩ := trodAll_two hA
  obtain ⟨e, rfl, -, -, -⟩ := open_int Try.underlying3 (hval 1 _ v1 rfl rfl) h1
  have ho := hval 0 _ v0 rfl rfl
  simp only [Value.okWide] at ho
  obtain ⟨cs, rfl, -, -⟩ := ho
  have hs : shape.holds W 9223372036854775807 cs.toList := Sh.opened (by kernel_rfl) h0 hsz 0 rfl rfl _ (.inl rfl)
  obtain ⟨c1, r1, hc1, ⟨k, rfl, -⟩, c2, r2, rfl, ⟨i, rfl, -⟩, c3, r3, rfl, ⟨o, rfl, -⟩, rfl⟩ := hs
  have hcs : cs = #[.int .i64 k, .int .i64 i, .int .i64 o] := by
    apply Array.ext'
    rw [hc1]
    rfl
  subst hcs
  exact topo.waysLaw_any k i o e W

set_option maxRecDepth 100000 in
theorem lifted (os : Os) (started : os.Started) (H : Type) (enc : TypeId × Value → H) :
    ReturnsInHanded {} Try.checked os 13 .any (Rows.topoWaysSpec.pre6 enc Try.prog Try.f13 Rows.topoWaysRow.domain false) (Rows.topoWaysSpec.post enc Try.prog Try.f13 false true false false) := by
  refine returnsInHanded_of_change_sized (C := Try.checked) own started (by kernel_rfl) Try.func13
    (ChangeSpec.witness6 (enc := enc) (C := Try.checked) false ⟨#[], #[.agg #[.int .i64 0, .int .i64 0, .int .i64 0], .int .i64 0], []⟩ 8 (by kernel_rfl) (by kernel_rfl) (by kernel_rfl) (by kernel_rfl)) ?_
  intro W base args ds gs before hval hW _ hsz _
  have hW0 : DataW.Whole enc Try.prog Try.f13.params.toList Rows.topoWaysSpec.vars false W args.toList ds gs before := hW
  refine (contract H enc W base args ds gs before hval hW hsz).mono fun e W' ⟨he, hb⟩ => ⟨_, he, post_law laidOut (by kernel_rfl) (by kernel_rfl : Try.prog.underlying 4 = some .bool) (by kernel_rfl) rfl hW0 ?_ hb⟩
  obtain ⟨p, q, hA0, _⟩ := hW0
  have hA : DataW.TrodAll enc Try.prog W 0 (fun _ => true) true Try.f13.params.toList args.toList ds p := hA0
  rw [Try.params13] at hA
  obtain ⟨v0, vs0, d0, ds0, p0, q0, hargs, rfl, rfl, h0, r0⟩ := trodAll_cons hA
  obtain ⟨v1, vs1, d1, ds1, p1, q1, rfl, rfl, rfl, h1, r1⟩ := trodAll_cons r0
  obtain ⟨rfl, rfl, rfl⟩ := trodAll_nil r1
  rfl

theorem holds : Rows.TopoWaysSaid :=
  OpenClaim.holds_of_wide 13 Try.f13 rfl rfl rfl rfl rfl rfl rfl ⟨rfl, rfl, rfl, rfl, rfl⟩ rfl rfl rfl rfl rfl (by kernel_rfl) Try.func13 (by kernel_rfl)
    (of_decide_eq_true (by kernel_rfl)) (by unfold Func.isWrapper; first | (rw [if_pos (by decide +kernel)]; kernel_rfl) | (rw [if_neg (by decide +kernel)]; exact ⟨rfl, rfl⟩))
    (fun os started H enc _ => lifted os started H enc)
#print axioms holds
end Go.Proofs.Ytokldploloncgaa.topoWays
