/-
  MoverTwice answers true of every mover and all numbers, and leaves all that was there as it was.
  Conditions: none.
-/
import Derived.Test.YtokldploloncgaaMoverLives
import Derived.Test.YtokldploloncgaaOpen
namespace Go.Proofs.Ytokldploloncgaa.mover
open Go.RowKit

theorem mod_in (n : Int) : 0 ≤ wrap64 ((IntKind.u64.wrap n).tmod 1000000) ∧ wrap64 ((IntKind.u64.wrap n).tmod 1000000) ≤ 999999 := by
  have h : 0 ≤ IntKind.u64.wrap n := by simp [IntKind.wrap, IntKind.bits, IntKind.signed]; omega
  rw [Int.tmod_eq_emod_of_nonneg h]
  rw [IntWalk.wrap64_in _ (by omega)]
  omega

theorem prv_early (cmd A s k : Int) (h0 : 0 ≤ A) (h1 : A ≤ 999999) (k0 : 1 ≤ k) (k1 : k ≤ 8) (hs0 : 0 ≤ s) (hs : s ≤ A + k) : prv cmd A cmd s true k = false := by
  have e1 : bnd k = k := by unfold bnd; rw [if_neg (by omega), if_neg (by omega)]
  have e2 : bnd s = s := by unfold bnd; rw [if_neg (by omega), if_neg (by omega)]
  have e3 : bnd A = A := by unfold bnd; rw [if_neg (by omega), if_neg (by omega)]
  have : ¬ k < s - A := by omega
  simp [prv, e1, e2, e3, this]
theorem prv_late (cmd A k : Int) (h0 : 0 ≤ A) (h1 : A ≤ 999999) (k0 : 1 ≤ k) (k1 : k ≤ 8) : prv cmd A cmd (A + k + 1) true k = (cmd != 0) := by
  have e1 : bnd k = k := by unfold bnd; rw [if_neg (by omega), if_neg (by omega)]
  have e2 : bnd (A + k + 1) = A + k + 1 := by unfold bnd; rw [if_neg (by omega), if_neg (by omega)]
  have e3 : bnd A = A := by unfold bnd; rw [if_neg (by omega), if_neg (by omega)]
  have : k < A + k + 1 - A := by omega
  simp [prv, e1, e2, e3, this, bne]

set_option maxHeartbeats 400000 in
theorem twice_same (c o n : Int) (w : World) :
    Calls Try.prog 5 #[.agg #[.int .i64 c, .int .i64 o], .int .i64 n, .int .i64 c] w fun e w' =>
    e = .returned (.bool true) ∧ Below w.heap.size w w' := by
  obtain ⟨A, hA⟩ : ∃ A, wrap64 ((IntKind.u64.wrap n).tmod 1000000) = A := ⟨_, rfl⟩
  have hAb := mod_in n
  rw [hA] at hAb
  have hs : ∀ o n, othOf c o n c = o := fun _ _ => if_pos rfl
  go_enter Try.func5, Try.ntmps5
  go_wp2_with (first
    | (go_at_call 14; refine (lives_any _).mono ?_; rintro e w1 ⟨rfl, hb1⟩; obtain ⟨c1, f1⟩ := below_reads hb1)
    | (go_at_call 16; refine (command_any _ _ _ _ _).mono ?_; rintro e w2 ⟨rfl, hb2⟩; obtain ⟨c2, f2⟩ := below_reads hb2))
  refine wp_region_later (by kernel_rfl) (by kernel_rfl) ?_
  have s1 := hb1.size
  have s2 := hb2.size
  simp at s1
  have m1 : w.heap.size < w1.heap.size := by omega
  have m2 : w.heap.size < w2.heap.size := by omega
  have m3 : w.heap.size < w2.heap.size + 1 := by omega
  repeat (go_big_quiet_step (first | (go_at_call 16; exact later_of (command_any _ _ _ _ _))))
  refine wpQuiet_nil ?_
  intro w3 hb3
  obtain ⟨c3, f3⟩ := below_reads hb3
  have s3 := hb3.size
  simp at s3
  have m4 : w.heap.size < w3.heap.size := by omega
  go_wp2
  go_ret
  exact ⟨rfl, by repeat (first | assumption | exact Below.refl _ _ | refine below_new ?_ _ | refine below_step ?_ (by assumption))⟩

set_option maxHeartbeats 1000000 in
theorem twice_other (c o n cmd : Int) (w : World) (hne : c ≠ cmd) :
    Calls Try.prog 5 #[.agg #[.int .i64 c, .int .i64 o], .int .i64 n, .int .i64 cmd] w fun e w' =>
    e = .returned (.bool true) ∧ Below w.heap.size w w' := by
  obtain ⟨A, hA⟩ : ∃ A, wrap64 ((IntKind.u64.wrap n).tmod 1000000) = A := ⟨_, rfl⟩
  have hAb := mod_in n
  rw [hA] at hAb
  have hs : ∀ o n, othOf cmd o n cmd = o := fun _ _ => if_pos rfl
  have ho : othOf c o A cmd = A := if_neg hne
  have hb : (c == cmd) = false := by simpa using hne
  go_enter Try.func5, Try.ntmps5
  go_wp2_with (first
    | (go_at_call 14; refine (lives_any _).mono ?_; rintro e w1 ⟨rfl, hb1⟩; obtain ⟨c1, f1⟩ := below_reads hb1)
    | (go_at_call 16; refine (command_any _ _ _ _ _).mono ?_; rintro e w2 ⟨rfl, hb2⟩; obtain ⟨c2, f2⟩ := below_reads hb2))
  refine wp_region_later (by kernel_rfl) (by kernel_rfl) ?_
  have s1 := hb1.size
  have s2 := hb2.size
  simp at s1
  have m1 : w.heap.size < w1.heap.size := by omega
  have m2 : w.heap.size < w2.heap.size := by omega
  have m3 : w.heap.size < w2.heap.size + 1 := by omega
  repeat (go_big_quiet_step (first | (go_at_call 16; exact later_of (command_any _ _ _ _ _))))
  refine wpQuiet_nil ?_
  intro w3 hb3
  obtain ⟨c3, f3⟩ := below_reads hb3
  have s3 := hb3.size
  simp at s3
  have m4 : w.heap.size < w3.heap.size := by omega
  have m5 : w2.heap.size < w3.heap.size := by omega
  have hb03 : Below w.heap.size w w3 := by repeat (first | assumption | exact Below.refl _ _ | refine below_new ?_ _ | refine below_step ?_ (by assumption))
  have hx3 : w3.cell? ⟨w2.heap.size, 0, none⟩ = some (.int .i64 cmd) ∧ w3.cell? ⟨w2.heap.size, 1, none⟩ = some (.int .i64 A) := by
    constructor <;> (rw [c3 _ _ (by simp)]; simp)
  go_wp2
  clear c1 f1 c2 f2 c3 f3 hA hb1 hb2 hb3 s1 s2 s3 m1 m2 m3 m4 hb ho hs
  generalize w2.heap.size = B at hx3 m5 ⊢
  obtain ⟨hx0, hx1⟩ := hx3
  go_loopw [8] (fun v wr => ∃ k : Nat, 1 ≤ k ∧ k ≤ 9 ∧ v = .int .i64 k ∧ Below w3.heap.size w3 wr) (fun v _ => 9 - (intOf v).toNat)
  case atStart => exact ⟨1, by omega, by omega, rfl, Below.refl _ _⟩
  case round =>
    obtain ⟨k, hk1, hk9, rfl, hbr⟩ := hrel
    obtain ⟨wo, rfl⟩ : ∃ wo : World, wo = wr := ⟨_, rfl⟩
    have sr := hbr.size
    have mr : B < wo.heap.size := by omega
    have y0 : wo.cell? ⟨B, 0, none⟩ = some (.int .i64 cmd) := (hbr.cell (p := ⟨B, 0, none⟩) m5).trans hx0
    have y1 : wo.cell? ⟨B, 1, none⟩ = some (.int .i64 A) := (hbr.cell (p := ⟨B, 1, none⟩) m5).trans hx1
    by_cases hk : k ≤ 8
    · have p0 := prv_early cmd A 0 k hAb.1 hAb.2 (by omega) (by omega) (by omega) (by omega)
      have p1 := prv_early cmd A A k hAb.1 hAb.2 (by omega) (by omega) (by omega) (by omega)
      have p2 := prv_early cmd A (A + k) k hAb.1 hAb.2 (by omega) (by omega) (by omega) (by omega)
      have p3 := prv_late cmd A k hAb.1 hAb.2 (by omega) (by omega)
      have hkd : decide ((k : Int) ≤ 8) = true := by simp; omega
      go_wp2
      obtain ⟨Wi, hWi⟩ : ∃ Wi, wo.alloc (Obj.cells #[Value.int IntKind.i64 0, Value.int IntKind.i64 A, Value.int IntKind.i64 (A + (k : Int))] 3) = Wi := ⟨_, rfl⟩
      have i0 : Wi.cell? ⟨wo.heap.size, 0, none⟩ = some (.int .i64 0) ∧ Wi.cell? ⟨wo.heap.size, 1, none⟩ = some (.int .i64 A) ∧ Wi.cell? ⟨wo.heap.size, 2, none⟩ = some (.int .i64 (A + k)) := by
        rw [← hWi]; simp
      have i1 : Wi.cell? ⟨B, 0, none⟩ = some (.int .i64 cmd) ∧ Wi.cell? ⟨B, 1, none⟩ = some (.int .i64 A) := by
        rw [← hWi]; constructor <;> (rw [World.cell?_alloc_lt _ _ _ mr]; assumption)
      have i2 : Below w3.heap.size w3 Wi := by rw [← hWi]; exact below_new hbr _
      have i3 : wo.heap.size < Wi.heap.size := by rw [← hWi]; simp
      rw [hWi]
      clear hWi y0 y1
      generalize wo.heap.size = R at i0 i3 sr mr ⊢
      obtain ⟨z0, z1, z2⟩ := i0
      obtain ⟨x0, x1⟩ := i1
      have mB : B < Wi.heap.size := by omega
      go_loopw [59] (fun v wj => ∃ j : Int, (j = 0 ∨ j = 1 ∨ j = 2 ∨ j = 3) ∧ v = .int .i64 j ∧ Below Wi.heap.size Wi wj) (fun v _ => 3 - (intOf v).toNat)
      case atStart => exact ⟨0, by omega, rfl, Below.refl _ _⟩
      case round =>
        obtain ⟨j, hj, rfl, hbj⟩ := hrel
        have sj := hbj.size
        have mj : B < wr.heap.size := by omega
        have mi : R < wr.heap.size := by omega
        have x0' : wr.cell? ⟨B, 0, none⟩ = some (.int .i64 cmd) := (hbj.cell (p := ⟨B, 0, none⟩) mB).trans x0
        have x1' : wr.cell? ⟨B, 1, none⟩ = some (.int .i64 A) := (hbj.cell (p := ⟨B, 1, none⟩) mB).trans x1
        have z0' : wr.cell? ⟨R, 0, none⟩ = some (.int .i64 0) := (hbj.cell (p := ⟨R, 0, none⟩) i3).trans z0
        have z1' : wr.cell? ⟨R, 1, none⟩ = some (.int .i64 A) := (hbj.cell (p := ⟨R, 1, none⟩) i3).trans z1
        have z2' : wr.cell? ⟨R, 2, none⟩ = some (.int .i64 (A + k)) := (hbj.cell (p := ⟨R, 2, none⟩) i3).trans z2
        rcases hj with rfl | rfl | rfl | rfl
        · go_wp2_with (go_at_call 18; refine (proven_any _ _ _ _ _ _ _).mono ?_; rintro e w4 ⟨rfl, hb4⟩)
          exact ⟨⟨1, by omega, rfl, below_step hbj hb4⟩, by simp [intOf]⟩
        · go_wp2_with (go_at_call 18; refine (proven_any _ _ _ _ _ _ _).mono ?_; rintro e w4 ⟨rfl, hb4⟩)
          exact ⟨⟨2, by omega, rfl, below_step hbj hb4⟩, by simp [intOf]⟩
        · go_wp2_with (go_at_call 18; refine (proven_any _ _ _ _ _ _ _).mono ?_; rintro e w4 ⟨rfl, hb4⟩)
          exact ⟨⟨3, by omega, rfl, below_step hbj hb4⟩, by simp [intOf]⟩
        · go_wp2_with (go_at_call 18; refine (proven_any _ _ _ _ _ _ _).mono ?_; rintro e w4 ⟨rfl, hb4⟩)
          go_roundw
          case rel => exact ⟨k + 1, by omega, by omega, by go_num, below_step i2 (below_step hbj hb4)⟩
          case measure => simp [intOf]; omega
    · go_wp2
      go_ret
      exact ⟨rfl, by repeat (first | assumption | exact Below.refl _ _ | refine below_new ?_ _ | refine below_step ?_ (by assumption))⟩
end Go.Proofs.Ytokldploloncgaa.mover

namespace Go.Proofs.Ytokldploloncgaa.moverTwice
open Go.ChangeShapes Go.WideShapes Go.ChangeAt Go.RowKit Go.Joins

set_option maxRecDepth 100000 in
theorem contract (H : Type) (enc : TypeId × Value → H) (W : World) (base : Nat) (args : Array Value) (ds gs : List (DataW H)) (before : List MemPlace)
    (hval0 : ∀ (j : Nat) t v, Try.f5.params[j]? = some t → args[j]? = some v → Value.okWide Try.prog W .any base t v)
    (hW : DataW.Whole enc Try.prog Try.f5.params.toList Rows.moverTwiceSpec.vars false W args.toList ds gs before) :
    Calls Try.prog 5 args W fun e W' => e = .returned (.bool true) ∧ Below W.heap.size W W' := by
  have hval := hval0
  clear hval0
  obtain ⟨p, q, hA0, _⟩ := hW
  have hA : DataW.TrodAll enc Try.prog W 0 (fun _ => true) true Try.f5.params.toList args.toList ds p := hA0
  rw [Try.params5] at hA hval
  obtain ⟨v0, v1, v2, d0, d1, d2, p0, p1, p2, rfl, rfl, rfl, h0, h1, h2⟩ := trodAll_three hA
  obtain ⟨c0, c1, y0, y1, n0, rfl, -, -, k0, k1⟩ := open_agg2 Try.underlying23 (by kernel_rfl) (by kernel_rfl) (hval 0 _ v0 rfl rfl) h0
  obtain ⟨n, rfl, -, -, -⟩ := open_int Try.underlying3 (hval 1 _ v1 rfl rfl) h1
  obtain ⟨cmd, rfl, -, -, -⟩ := open_int Try.underlying3 (hval 2 _ v2 rfl rfl) h2
  obtain ⟨c, rfl, -⟩ := int_cell Try.underlying3 k0
  obtain ⟨o, rfl, -⟩ := int_cell Try.underlying3 k1
  by_cases h : c = cmd
  · subst h
    exact mover.twice_same c o n W
  · exact mover.twice_other c o n cmd W h

set_option maxRecDepth 100000 in
theorem lifted (os : Os) (started : os.Started) (H : Type) (enc : TypeId × Value → H) :
    ReturnsInHanded {} Try.checked os 5 .any (Rows.moverTwiceSpec.pre6 enc Try.prog Try.f5 Rows.moverTwiceRow.domain false) (Rows.moverTwiceSpec.post enc Try.prog Try.f5 false true false false) := by
  refine returnsInHanded_of_change_sized (C := Try.checked) own started (by kernel_rfl) Try.func5
    (ChangeSpec.witness6 (enc := enc) (C := Try.checked) false ⟨#[], #[.agg #[.int .i64 0, .int .i64 0], .int .i64 0, .int .i64 0], []⟩ 8 (by kernel_rfl) (by kernel_rfl) (by kernel_rfl) (by kernel_rfl)) ?_
  intro W base args ds gs before hval hW _ _ _
  have hW0 : DataW.Whole enc Try.prog Try.f5.params.toList Rows.moverTwiceSpec.vars false W args.toList ds gs before := hW
  refine (contract H enc W base args ds gs before hval hW).mono fun e W' ⟨he, hb⟩ => ⟨_, he, post_law laidOut (by kernel_rfl) (by kernel_rfl : Try.prog.underlying 4 = some .bool) (by kernel_rfl) rfl hW0 ?_ hb⟩
  obtain ⟨p, q, hA0, _⟩ := hW0
  have hA : DataW.TrodAll enc Try.prog W 0 (fun _ => true) true Try.f5.params.toList args.toList ds p := hA0
  rw [Try.params5] at hA
  obtain ⟨v0, vs0, d0, ds0, p0, q0, hargs, rfl, rfl, h0, r0⟩ := trodAll_cons hA
  obtain ⟨v1, vs1, d1, ds1, p1, q1, rfl, rfl, rfl, h1, r1⟩ := trodAll_cons r0
  obtain ⟨v2, vs2, d2, ds2, p2, q2, rfl, rfl, rfl, h2, r2⟩ := trodAll_cons r1
  obtain ⟨rfl, rfl, rfl⟩ := trodAll_nil r2
  rfl

theorem holds : Rows.MoverTwiceSaid :=
  OpenClaim.holds_of_wide 5 Try.f5 rfl rfl rfl rfl rfl rfl rfl ⟨rfl, rfl, rfl, rfl, rfl⟩ rfl rfl rfl rfl rfl (by kernel_rfl) Try.func5 (by kernel_rfl)
    (of_decide_eq_true (by kernel_rfl)) (by unfold Func.isWrapper; first | (rw [if_pos (by decide +kernel)]; kernel_rfl) | (rw [if_neg (by decide +kernel)]; exact ⟨rfl, rfl⟩))
    (fun os started H enc _ => lifted os started H enc)
#print axioms holds

end Go.Proofs.Ytokldploloncgaa.moverTwice
