/-
  RingPlays answers true of every size and script of puts and takes, and leaves all that was there as it was.
  Conditions: none.
-/
import Derived.Test.YtaamachonbkjoaaRingPlaysB
import Derived.Test.YtaamachonbkjoaaSh
namespace Go.Proofs.Ytaamachonbkjoaa.ring
open Go.RowKit

set_option maxRecDepth 100000 in
theorem plays_none (n : Int) (ao : Option Addr) (cap : Nat) (w : World) :
    Calls Try.prog 5 #[.int .i64 n, .slice ao 0 cap] w fun e w' => e = .returned (.bool true) ∧ Below w.heap.size w w' := by
  go_enter Try.func5, Try.ntmps5
  go_upto_region 3 with (go_at_call 7; refine (lives_any _).mono ?_; rintro e w1 ⟨rfl, hb1⟩)
  go_upto_region 4 with (first
    | (go_at_call_of 14 (Value.int .i64 3); refine (int.new_any 3 _).mono ?_; rintro e w4 ⟨b3, p3, rfl, hwb3, hwp3, hr3, hb4⟩)
    | (go_at_call 14; refine (int.new_any n _).mono ?_; rintro e w2 ⟨b1, p1, rfl, hwb1, hwp1, hr1, hb2⟩)
    | (go_at_call 20; refine (newR_any n _).mono ?_; rintro e w3 ⟨r, rfl, hwr, hrr, hrs, hb3⟩))
  go_wp2
  refine wp_loop_rounds 1 ?_
  rw [rounds_succ]
  have c0 := hr3.c0
  have c2 := hr3.c2
  have hb := hr3.lt_b
  simp only [List.length_nil] at c0
  clear hrr hr1 hr3
  go_wp2_with (first
    | (go_at_call 11; go_must (refine (len_any b3 _ _ c0).mono ?_; rintro e w5 ⟨rfl, hb5⟩; have d2 := (hb5.cell (p := ⟨b3, 2, none⟩) hb).trans c2))
    | (go_at_call 12; go_must (refine (lost_any b3 _ _ d2).mono ?_; rintro e w6 ⟨rfl, hb6⟩)))
  go_ret
  exact ⟨by simp, below_step (below_step (below_step (below_step (below_step hb1 hb2) hb3) hb4) hb5) hb6⟩
end Go.Proofs.Ytaamachonbkjoaa.ring

namespace Go.Proofs.Ytaamachonbkjoaa.ringPlays
open Go.ChangeShapes Go.WideShapes Go.ChangeAt Go.RowKit Go.Joins

def shape : Sh := .slice 32 (.struct [.bool, .slice 8 .int])

theorem nums_of {w : World} {ao : Option Addr} {len cap : Nat} (h : Sh.holds w 9223372036854775807 (.slice 8 .int) [.slice ao len cap]) : ∃ L, ring.Nums w ao len cap L ∧ cap * 8 ≤ 140737488351232 := by
  obtain ⟨ao', len', cap', he, hl, hm, hn, hr, -, hat⟩ := h
  simp only [List.cons.injEq, Value.slice.injEq, and_true] at he
  obtain ⟨rfl, rfl, rfl⟩ := he
  rcases hat with rfl | ⟨b, off, rfl, hc⟩
  · exact ⟨[], ⟨rfl, hl, hm, hn, .inl rfl⟩, hr⟩
  · have each : ∀ i, i < len → ∃ x, w.cell? ⟨b, off + i, none⟩ = some (.int .i64 x) := by
      intro i hi
      obtain ⟨cs, hcs, x, rfl, -⟩ := hc i hi
      have := hcs 0 _ rfl
      simp only [Sh.size, Nat.mul_one, Nat.add_zero] at this
      exact ⟨x, this⟩
    obtain ⟨f, hf⟩ := Deep.choose_lt each
    refine ⟨(List.range len).map f, ⟨by simp, hl, hm, hn, ?_⟩, hr⟩
    by_cases h0 : len = 0
    · exact .inl h0
    · refine .inr ⟨b, off, rfl, World.block_lt_of_cell? _ _ (hf 0 (by omega)), fun i x hx => ?_⟩
      have hi : i < len := by have := (List.getElem?_eq_some_iff.1 hx).1; simpa using this
      rw [List.getElem?_map, List.getElem?_range hi] at hx
      injection hx with hx
      subst hx
      exact hf i hi

set_option maxRecDepth 100000 in
theorem contract (H : Type) (enc : TypeId × Value → H) (W : World) (base : Nat) (args : Array Value) (ds gs : List (DataW H)) (before : List MemPlace)
    (hval0 : ∀ (j : Nat) t v, Try.f5.params[j]? = some t → args[j]? = some v → Value.okWide Try.prog W .any base t v)
    (hW : DataW.Whole enc Try.prog Try.f5.params.toList Rows.ringPlaysSpec.vars false W args.toList ds gs before)
    (hsz0 : (DataW.weightsEach Try.prog (Try.f5.params.toList ++ Rows.ringPlaysSpec.plain.varTypes Try.prog) (ds ++ gs)).all (· ≤ reachBytes) = true) :
    Calls Try.prog 5 args W fun e W' => e = .returned (.bool true) ∧ Below W.heap.size W W' := by
  have hval := hval0
  have hsz := hsz0
  clear hval0 hsz0
  obtain ⟨p, q, hA0, hV, _, _, _⟩ := hW
  have hA : DataW.TrodAll enc Try.prog W 0 (fun _ => true) true Try.f5.params.toList args.toList ds p := hA0
  obtain ⟨rfl, rfl⟩ := trodVars_none hV
  rw [Try.params5] at hA hval hsz
  obtain ⟨v0, v1, d0, d1, p0, p1, rfl, rfl, rfl, h0, h1⟩ := trodAll_two hA
  obtain ⟨n, rfl, -, -, -⟩ := open_int Try.underlying3 (hval 0 _ v0 rfl rfl) h0
  obtain ⟨a, l, c, rfl⟩ := okWide_slice Try.underlying56 (hval 1 _ v1 rfl rfl)
  have hs : shape.holds W 9223372036854775807 [.slice a l c] := Sh.opened (by kernel_rfl) h1 hsz 1 rfl rfl _ (.inl rfl)
  obtain ⟨ao, len, cap, he, hl, hm, hn, hr, -, hat⟩ := hs
  simp only [List.cons.injEq, Value.slice.injEq, and_true] at he
  obtain ⟨rfl, rfl, rfl⟩ := he
  by_cases h0 : l = 0
  · subst h0
    exact ring.plays_none n a c W
  obtain ⟨b, off, rfl, hc⟩ := hat.resolve_left h0
  have each : ∀ i, i < l → ∃ (t : Bool) (ao : Option Addr) (ln lc : Nat) (L : List Int), ring.OpAt W b (off + i * 2) t ao ln lc L := by
    intro i hi
    obtain ⟨cs, hcs, x, y, rfl, ⟨t, rfl⟩, y', z, rfl, hy, rfl⟩ := hc i hi
    have hy' := hy
    obtain ⟨ao, ln, lc, rfl, -⟩ := hy
    obtain ⟨L, hL, hlc⟩ := nums_of hy'
    have c0 := hcs 0 _ rfl
    have c1 := hcs 1 _ rfl
    exact ⟨t, ao, ln, lc, L, c0, c1, hL, hlc⟩
  have hb : b < W.heap.size := by
    obtain ⟨_, _, _, _, _, h⟩ := each 0 (by omega)
    exact World.block_lt_of_cell? _ _ h.c0
  exact ring.plays_some n b off l c W hb (by omega) each


set_option maxRecDepth 100000 in
theorem lifted (os : Os) (started : os.Started) (H : Type) (enc : TypeId × Value → H) :
    ReturnsInHanded {} Try.checked os 5 .any (Rows.ringPlaysSpec.pre6 enc Try.prog Try.f5 Rows.ringPlaysRow.domain false) (Rows.ringPlaysSpec.post enc Try.prog Try.f5 false true false false) := by
  refine returnsInHanded_of_change_sized (C := Try.checked) own started (by kernel_rfl) Try.func5
    (ChangeSpec.witness6 (enc := enc) (C := Try.checked) false ⟨#[], #[.int .i64 0, .slice none 0 0], []⟩ 8 (by kernel_rfl) (by kernel_rfl) (by kernel_rfl) (by kernel_rfl)) ?_
  intro W base args ds gs before hval hW _ hsz _
  have hW0 : DataW.Whole enc Try.prog Try.f5.params.toList Rows.ringPlaysSpec.vars false W args.toList ds gs before := hW
  refine (contract H enc W base args ds gs before hval hW hsz).mono fun e W' ⟨he, hb⟩ => ⟨_, he, post_law laidOut (by kernel_rfl) (by kernel_rfl : Try.prog.underlying 4 = some .bool) (by kernel_rfl) rfl hW0 ?_ hb⟩
  obtain ⟨p, q, hA0, _⟩ := hW0
  have hA : DataW.TrodAll enc Try.prog W 0 (fun _ => true) true Try.f5.params.toList args.toList ds p := hA0
  rw [Try.params5] at hA
  obtain ⟨v0, vs0, d0, ds0, p0, q0, hargs, rfl, rfl, h0, r0⟩ := trodAll_cons hA
  obtain ⟨v1, vs1, d1, ds1, p1, q1, rfl, rfl, rfl, h1, r1⟩ := trodAll_cons r0
  obtain ⟨rfl, rfl, rfl⟩ := trodAll_nil r1
  rfl

theorem holds : Rows.RingPlaysSaid :=
  OpenClaim.holds_of_wide 5 Try.f5 rfl rfl rfl rfl rfl rfl rfl ⟨rfl, rfl, rfl, rfl, rfl⟩ rfl rfl rfl rfl rfl (by kernel_rfl) Try.func5 (by kernel_rfl)
    (of_decide_eq_true (by kernel_rfl)) (by unfold Func.isWrapper; first | (rw [if_pos (by decide +kernel)]; kernel_rfl) | (rw [if_neg (by decide +kernel)]; exact ⟨rfl, rfl⟩))
    (fun os started H enc _ => lifted os started H enc)
#print axioms holds
end Go.Proofs.Ytaamachonbkjoaa.ringPlays
