/-
  MoverSafe answers true of every age, first position and row of cycles, and leaves all that was there as it was.
  Conditions: none.
-/
import Derived.Test.YtokldploloncgaaMoverSafeB
namespace Go.Proofs.Ytokldploloncgaa.mover
open Go.RowKit

set_option maxRecDepth 100000 in
theorem safe_none (a0 f0 : Int) (ao : Option Addr) (cap : Nat) (w : World) :
    Calls Try.prog 4 #[.int .i64 a0, .int .i64 f0, .slice ao 0 cap] w fun e w' => e = .returned (.bool true) ∧ Below w.heap.size w w' := by
  go_enter Try.func4, Try.ntmps4
  go_wp2_with (first
    | (go_at_call 14; refine (lives_any _).mono ?_; rintro e w1 ⟨rfl, hb1⟩; obtain ⟨c1, f1⟩ := below_reads hb1)
    | (go_at_call 15; refine (start_any _ _).mono ?_; rintro e w2 ⟨rfl, hb2⟩; obtain ⟨c2, f2⟩ := below_reads hb2))
  refine wp_loop_rounds 1 ?_
  rw [rounds_succ]
  go_wp2
  go_ret
  exact ⟨rfl, by repeat (first | assumption | exact Below.refl _ _ | refine below_new ?_ _ | refine below_step ?_ (by assumption))⟩
end Go.Proofs.Ytokldploloncgaa.mover

namespace Go.Proofs.Ytokldploloncgaa.moverSafe
open Go.ChangeShapes Go.WideShapes Go.ChangeAt Go.RowKit Go.Joins

set_option maxRecDepth 100000 in
theorem contract (H : Type) (enc : TypeId × Value → H) (W : World) (base : Nat) (args : Array Value) (ds gs : List (DataW H)) (before : List MemPlace)
    (hval0 : ∀ (j : Nat) t v, Try.f4.params[j]? = some t → args[j]? = some v → Value.okWide Try.prog W .any base t v)
    (hW : DataW.Whole enc Try.prog Try.f4.params.toList Rows.moverSafeSpec.vars false W args.toList ds gs before)
    (hsz0 : (DataW.weightsEach Try.prog (Try.f4.params.toList ++ Rows.moverSafeSpec.plain.varTypes Try.prog) (ds ++ gs)).all (· ≤ reachBytes) = true) :
    Calls Try.prog 4 args W fun e W' => e = .returned (.bool true) ∧ Below W.heap.size W W' := by
  have hval := hval0
  have hsz := hsz0
  clear hval0 hsz0
  obtain ⟨p, q, hA0, hV, _, _, _⟩ := hW
  have hA : DataW.TrodAll enc Try.prog W 0 (fun _ => true) true Try.f4.params.toList args.toList ds p := hA0
  obtain ⟨rfl, rfl⟩ := trodVars_none hV
  rw [Try.params4] at hA hval hsz
  obtain ⟨v0, v1, v2, d0, d1, d2, p0, p1, p2, rfl, rfl, rfl, h0, h1, h2⟩ := trodAll_three hA
  obtain ⟨a0, rfl, -, -, -⟩ := open_int Try.underlying3 (hval 0 _ v0 rfl rfl) h0
  obtain ⟨f0, rfl, -, -, -⟩ := open_int Try.underlying3 (hval 1 _ v1 rfl rfl) h1
  obtain ⟨a, len, cap, rfl⟩ := okWide_slice Try.underlying32 (hval 2 _ v2 rfl rfl)
  obtain ⟨fuel, hf⟩ := h2
  obtain ⟨ao, len', cap', hv, hl, hm, hrows⟩ := open_rows Try.underlying32 Try.underlying39 (by kernel_rfl) (by kernel_rfl) (by decide) hf
  simp only [Value.slice.injEq] at hv
  obtain ⟨rfl, rfl, rfl⟩ := hv
  rcases hrows with rfl | ⟨elems, sp, hx, hel, b, off, rfl, hr⟩
  · exact mover.safe_none a0 f0 a cap W
  · have hx2 : d2 = DataW.slice elems sp := hx
    have hreach : len * 40 ≤ 140737488351232 := by
      have h := sized_slice hsz (j := 2) (t := 32) (e := 39) rfl (by rw [hx2]; rfl) Try.underlying32
      rw [(by kernel_rfl : Try.prog.bytesOf 39 = 40)] at h
      simp only [reachBytes] at h
      rw [hel] at h
      omega
    by_cases h0 : len = 0
    · subst h0
      exact mover.safe_none a0 f0 _ cap W
    have hcy : ∀ i, i < len → mover.CycleAt W b (off + i * 4) := by
      intro i hi
      obtain ⟨n, hr⟩ := hr i hi
      obtain ⟨u0, y0, c0, t0⟩ := hr 0 _ rfl
      obtain ⟨u1, y1, c1, t1⟩ := hr 1 _ rfl
      obtain ⟨u2, y2, c2, t2⟩ := hr 2 _ rfl
      obtain ⟨u3, y3, c3, t3⟩ := hr 3 _ rfl
      obtain ⟨cmd, rfl, -⟩ := int_cell Try.underlying3 t0
      obtain ⟨la, ln, lc, rfl, hll, hlm, hlr⟩ := open_row Try.underlying37 Try.underlying3 (by kernel_rfl) t1
      obtain ⟨s, rfl, -⟩ := bool_cell Try.underlying4 t2
      obtain ⟨k, rfl, -⟩ := bool_cell Try.underlying4 t3
      refine ⟨cmd, la, ln, lc, s, k, c0, c1, c2, c3, by unfold maxLen at hlm; omega, ?_⟩
      rcases hlr with h | ⟨_, _, _, _, lb, lo, rfl, hlc⟩
      · exact .inl h
      · by_cases hln : ln = 0
        · exact .inl hln
        · obtain ⟨_, hc0, _⟩ := hlc 0 (by omega)
          exact .inr ⟨lb, lo, rfl, World.block_lt_of_cell? _ _ hc0, hlc⟩
    have hbw : b < W.heap.size := by
      obtain ⟨_, _, _, _, _, _, c0, _⟩ := hcy 0 (by omega)
      exact World.block_lt_of_cell? _ _ c0
    exact mover.safe_any a0 f0 b off len cap W hreach hbw hcy

set_option maxRecDepth 100000 in
theorem lifted (os : Os) (started : os.Started) (H : Type) (enc : TypeId × Value → H) :
    ReturnsInHanded {} Try.checked os 4 .any (Rows.moverSafeSpec.pre6 enc Try.prog Try.f4 Rows.moverSafeRow.domain false) (Rows.moverSafeSpec.post enc Try.prog Try.f4 false true false false) := by
  refine returnsInHanded_of_change_sized (C := Try.checked) own started (by kernel_rfl) Try.func4
    (ChangeSpec.witness6 (enc := enc) (C := Try.checked) false ⟨#[], #[.int .i64 0, .int .i64 0, .slice none 0 0], []⟩ 8 (by kernel_rfl) (by kernel_rfl) (by kernel_rfl) (by kernel_rfl)) ?_
  intro W base args ds gs before hval hW _ hsz _
  have hW0 : DataW.Whole enc Try.prog Try.f4.params.toList Rows.moverSafeSpec.vars false W args.toList ds gs before := hW
  refine (contract H enc W base args ds gs before hval hW hsz).mono fun e W' ⟨he, hb⟩ => ⟨_, he, post_law laidOut (by kernel_rfl) (by kernel_rfl : Try.prog.underlying 4 = some .bool) (by kernel_rfl) rfl hW0 ?_ hb⟩
  obtain ⟨p, q, hA0, _⟩ := hW0
  have hA : DataW.TrodAll enc Try.prog W 0 (fun _ => true) true Try.f4.params.toList args.toList ds p := hA0
  rw [Try.params4] at hA
  obtain ⟨v0, vs0, d0, ds0, p0, q0, hargs, rfl, rfl, h0, r0⟩ := trodAll_cons hA
  obtain ⟨v1, vs1, d1, ds1, p1, q1, rfl, rfl, rfl, h1, r1⟩ := trodAll_cons r0
  obtain ⟨v2, vs2, d2, ds2, p2, q2, rfl, rfl, rfl, h2, r2⟩ := trodAll_cons r1
  obtain ⟨rfl, rfl, rfl⟩ := trodAll_nil r2
  rfl

theorem holds : Rows.MoverSafeSaid :=
  OpenClaim.holds_of_wide 4 Try.f4 rfl rfl rfl rfl rfl rfl rfl ⟨rfl, rfl, rfl, rfl, rfl⟩ rfl rfl rfl rfl rfl (by kernel_rfl) Try.func4 (by kernel_rfl)
    (of_decide_eq_true (by kernel_rfl)) (by unfold Func.isWrapper; first | (rw [if_pos (by decide +kernel)]; kernel_rfl) | (rw [if_neg (by decide +kernel)]; exact ⟨rfl, rfl⟩))
    (fun os started H enc _ => lifted os started H enc)
#print axioms holds
end Go.Proofs.Ytokldploloncgaa.moverSafe
