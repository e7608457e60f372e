/-
  TopoBack answers true of every plan, start and row of positions, and leaves all that was there as it was.
  Conditions: none.
-/
import Derived.Test.YtokldploloncgaaTopoP
import Derived.Test.YtokldploloncgaaTopoQ
import Derived.Test.YtokldploloncgaaArr2
import Derived.Deep.RegionHeld3
import Derived.Outline
namespace Go.Proofs.Ytokldploloncgaa.topo
open Go.RowKit

set_option maxRecDepth 100000 in
set_option maxHeartbeats 4000000 in
theorem back_any (sa ja pa : Option Addr) (sl sc jl jc pl pc : Nat) (S : List (Int × Int × Int)) (J : List (Int × Int × Int × Int)) (P : List Int) (a b : Int) (w : World) (hp : PlanAt w sa sl sc ja jl jc S J) (hP : RowsAt 1 enc1 w pa pl pc P) :
    Calls Try.prog 10 #[.agg #[.slice sa sl sc, .slice ja jl jc], .agg #[.int .i64 a, .int .i64 b], .slice pa pl pc] w fun e' w' => e' = .returned (.bool true) ∧ Below w.heap.size w w' := by
  have hlen := hp.len
  go_enter Try.func10, Try.ntmps10
  go_upto_region 3 with (go_at_call 27; refine (lives_any _).mono ?_; rintro e' w1 ⟨rfl, hb1⟩)
  have hbx := below_new (below_new (Below.refl w.heap.size w) (Obj.cells #[Value.slice sa sl sc, Value.slice ja jl jc] 60)) (Obj.cells #[Value.int .i64 a, Value.int .i64 b] 80)
  have x0 : w1.cell? ⟨w.heap.size, 0, none⟩ = some (.slice sa sl sc) := (hb1.cell (p := ⟨w.heap.size, 0, none⟩) (by simp; omega)).trans (by simp)
  have x1 : w1.cell? ⟨w.heap.size, 1, none⟩ = some (.slice ja jl jc) := (hb1.cell (p := ⟨w.heap.size, 1, none⟩) (by simp; omega)).trans (by simp)
  have x2 : w1.cell? ⟨w.heap.size + 1, 0, none⟩ = some (.int .i64 a) := (hb1.cell (p := ⟨w.heap.size + 1, 0, none⟩) (by simp)).trans (by rw [show w.heap.size + 1 = (w.alloc (Obj.cells #[Value.slice sa sl sc, Value.slice ja jl jc] 60)).heap.size by simp, cell_of_row _ _ 0 _ _ _ (heap_alloc_new _ _)]; rfl)
  have x3 : w1.cell? ⟨w.heap.size + 1, 1, none⟩ = some (.int .i64 b) := (hb1.cell (p := ⟨w.heap.size + 1, 1, none⟩) (by simp)).trans (by rw [show w.heap.size + 1 = (w.alloc (Obj.cells #[Value.slice sa sl sc, Value.slice ja jl jc] 60)).heap.size by simp, cell_of_row _ _ 1 _ _ _ (heap_alloc_new _ _)]; rfl)
  have hbw := below_step hbx hb1
  have hp1 := hp.below hbw
  have hC := hp1.check
  clear hbx hb1
  cases hok : okT S J with
  | false =>
    rw [hok] at hC
    have HC := Lib.hid hC
    clear hC hok
    go_wp2_with (go_at_call 28; go_must (refine HC.out.mono ?_; rintro e' w2 ⟨rfl, hb2⟩))
    go_ret
    exact ⟨rfl, below_step hbw hb2⟩
  | true =>
    have hpl := Plan.of_ok hok
    rw [hok] at hC
    have HC := Lib.hid hC
    clear hC hok
    have HPL := Lib.hid hpl
    clear hpl
    go_upto_region 5 with (go_at_call 28; go_must (refine HC.out.mono ?_; rintro e' w2 ⟨rfl, hb2⟩))
    have y0 := (hb2.cell (p := ⟨w.heap.size, 0, none⟩) (World.block_lt_of_cell? _ _ x0)).trans x0
    have y1 := (hb2.cell (p := ⟨w.heap.size, 1, none⟩) (World.block_lt_of_cell? _ _ x1)).trans x1
    have y2 := (hb2.cell (p := ⟨w.heap.size + 1, 0, none⟩) (World.block_lt_of_cell? _ _ x2)).trans x2
    have y3 := (hb2.cell (p := ⟨w.heap.size + 1, 1, none⟩) (World.block_lt_of_cell? _ _ x3)).trans x3
    have hp2 := hp1.below hb2
    have hbw2 := below_step hbw hb2
    have hP2 := hP.below hbw2
    have hbz : w.heap.size + 1 < w2.heap.size := World.block_lt_of_cell? _ _ y2
    have hF := follow_any S J P sa ja pa sl sc jl jc pl pc a b w2 hp2.s hp2.j hP2 hlen
    obtain ⟨Wy, hWy⟩ : ∃ Wy, followT S J P (sl + 1) [] a b = Wy := ⟨_, rfl⟩
    rw [hWy] at hF
    have HF := Lib.hid hF
    have HWY := Lib.hid hWy
    clear x0 x1 x2 x3 hbw hb2 hp1 hF hWy hP hp
    go_upto_region 6 with (go_at_call 32; go_must (refine HF.out.mono ?_; rintro e' w3 ⟨v3, rfl, hrow3, hb3⟩; obtain ⟨a3, c3, rfl, hr3⟩ := own_rows hrow3 rfl))
    obtain ⟨N, hN⟩ : ∃ N, Wy.length = N := ⟨_, rfl⟩
    rw [hN] at hr3 ⊢
    have HN := Lib.hid hN
    have hN63 : N ≤ 9223372036854775807 := Nat.le_trans hr3.le hr3.max
    have hbw3 := below_step hbw2 hb3
    clear hN hrow3
    cases hrev : Wy.reverse with
    | nil =>
      obtain rfl : N = 0 := by
        have h1 := congrArg List.length hrev
        rw [List.length_reverse, HN.out] at h1
        simpa using h1
      go_wp2
      go_ret
      exact ⟨rfl, hbw3⟩
    | cons x r =>
      have hNr : r.length + 1 = N := by
        have h1 := congrArg List.length hrev
        rw [List.length_reverse, HN.out] at h1
        simpa using h1.symm
      have hN1 : 1 ≤ N := by omega
      have hWn : ∀ i, i < N → Wy[N - 1 - i]? = (x :: r)[i]? := fun i hi => by
        rw [← hrev, List.getElem?_reverse (by rw [HN.out]; exact hi), HN.out]
      have HR := Lib.hid hrev
      have HWN := Lib.hid hWn
      have n0 : ((N : Int) == 0) = false := by simp; omega
      have n1 : (0 : Int) ≤ (N : Int) - 1 := by omega
      have n2 : (N : Int) - 1 < (N : Int) := by omega
      obtain ⟨g3, o3, x', rfl, hg3, hx3, -, hc3⟩ := hr3.row (show N - 1 < N by omega)
      obtain rfl : x = x' := by
        have := hWn 0 (by omega)
        rw [Nat.sub_zero, hx3] at this
        simpa using this.symm
      have k0 := hc3 0 _ rfl
      have k1 := hc3 1 _ rfl
      have k2 := hc3 2 _ rfl
      rw [Nat.add_zero] at k0
      clear hrev hWn hc3 hx3
      by_cases hx : 0 ≤ x.2.2
      · have d0 : decide (x.2.2 < 0) = false := by simpa using hx
        obtain ⟨rest, hback⟩ := way_reversed HPL.out (by rw [HWY.out]; exact HR.out) hx
        obtain ⟨Bk, hBk⟩ : ∃ Bk, (x :: r).map flip ++ rest = Bk := ⟨_, rfl⟩
        obtain ⟨N5, hN5⟩ : ∃ N5, Bk.length = N5 := ⟨_, rfl⟩
        have hN5le : N ≤ N5 := by rw [← hN5, ← hBk]; simp; omega
        have hBi : ∀ i, i < N → Bk[i]? = (x :: r)[i]?.map flip := fun i hi => by
          rw [← hBk, List.getElem?_append_left (by simp; omega), List.getElem?_map]
        rw [hBk] at hback
        have HBK := Lib.hid hback
        have HN5 := Lib.hid hN5
        have HBI := Lib.hid hBi
        clear hBk hBi hN5
        have z0 := (hb3.cell (p := ⟨w.heap.size, 0, none⟩) (World.block_lt_of_cell? _ _ y0)).trans y0
        have z1 := (hb3.cell (p := ⟨w.heap.size, 1, none⟩) (World.block_lt_of_cell? _ _ y1)).trans y1
        have hgs3 : w.heap.size < w3.heap.size := World.block_lt_of_cell? _ _ z0
        clear hback
        go_upto_region 9 with (fail)
        have hbx4 := below_new (Below.refl w3.heap.size w3) (Obj.cells #[Value.int .i64 x.1, Value.int .i64 x.2.1, Value.int .i64 x.2.2] 71)
        have hF2 := follow_any S J P sa ja pa sl sc jl jc pl pc x.1 x.2.2 _ ((hp2.s.below hb3).below hbx4) ((hp2.j.below hb3).below hbx4) ((hP2.below hb3).below hbx4) hlen
        rw [HBK.out] at hF2
        have HF2 := Lib.hid hF2
        clear hF2
        go_upto_region 10 with (go_at_call 32; go_must (refine HF2.out.mono ?_; rintro e' w5 ⟨v5, rfl, hrow5, hb5⟩; obtain ⟨a5, c5, rfl, hr5⟩ := own_rows hrow5 rfl))
        rw [HN5.out] at hr5 ⊢
        have d5 : decide ((N5 : Int) < (N : Int)) = false := by simp; omega
        have d6 : decide (N5 < N) = false := by simp; omega
        have hb35 := below_step hbx4 hb5
        have hw5 := hr3.below hb35
        have hbw5 := below_step hbw3 hb35
        have hN563 : N5 ≤ 9223372036854775807 := Nat.le_trans hr5.le hr5.max
        have HWN' := HWN
        clear hrow5 hb5 hbx4 z0 z1 k0 k1 k2 y0 y1 y2 y3 d0 hx n0
        go_wp2
        go_loopg [67] N (fun m c wr => ∃ i : Nat, i + m = N ∧ c = .int .i64 i ∧ Below w5.heap.size w5 wr)
        case atStart => exact ⟨0, by omega, rfl, Below.refl _ _⟩
        case round =>
          obtain ⟨i, him, rfl, hb6⟩ := hrel
          obtain ⟨W6, rfl⟩ : ∃ W : World, W = wr := ⟨_, rfl⟩
          by_cases hi : i < N
          · have hid : decide ((i : Int) < (N : Int)) = true := by simpa using hi
            have hil : (i : Int) < N := by omega
            obtain ⟨K, hK⟩ : ∃ K, N - 1 - i = K := ⟨_, rfl⟩
            have hKN : K < N := by omega
            have hKI : (N : Int) - 1 - (i : Int) = (K : Int) := by omega
            have hW75 : IntKind.i64.wrap ((N : Int) - 1 - (i : Int)) = (K : Int) := by rw [IntWalk.i64_in _ (by omega)]; omega
            obtain ⟨g1, o1, y, hgo, hg1, hy, -, hc1⟩ := (hw5.below hb6).row hKN
            injection hgo with hgo
            injection hgo with hgo1 hgo2
            subst hgo1 hgo2
            obtain ⟨g2, o2, z, rfl, hg2, hz, -, hc2⟩ := (hr5.below hb6).row (show i < N5 by omega)
            obtain rfl : z = flip y := by
              have h1 := HWN.out i hi
              rw [hK] at h1
              rw [HBI.out i hi, ← h1, hy] at hz
              simpa using hz.symm
            obtain ⟨s, ii, e⟩ := y
            have q0 := hc1 0 _ rfl
            have q1 := hc1 1 _ rfl
            have q2 := hc1 2 _ rfl
            have q3 := hc2 0 _ rfl
            have q4 := hc2 1 _ rfl
            have q5 := hc2 2 _ rfl
            simp only [flip, Nat.add_zero] at q0 q1 q2 q3 q4 q5
            have m1 : (0 : Int) ≤ (K : Int) := by omega
            have m2 : (K : Int) < (N : Int) := by omega
            have m3 : (0 : Int) ≤ (i : Int) := by omega
            have m4 : (i : Int) < (N5 : Int) := by omega
            clear hy hz hc1 hc2 hK
            go_upto_region 15 with (fail)
            have hg1 : g3 < W6.heap.size := World.block_lt_of_cell? _ _ q0
            have hg2 : g2 < W6.heap.size := World.block_lt_of_cell? _ _ q3
            go_region
            · have hb7 := (below_new (below_new (Below.refl W6.heap.size W6) (Obj.cells #[.int .i64 s, .int .i64 ii, .int .i64 e] 71)) (Obj.cells #[.int .i64 s, .int .i64 e, .int .i64 ii] 71)).drew
              go_wp2
              go_roundg (N - i - 1)
              case measure => omega
              case rel => exact ⟨i + 1, by omega, by go_num, below_step hb6 hb7⟩
            · have hb7 := (below_new (below_new (Below.refl W6.heap.size W6) (Obj.cells #[.int .i64 s, .int .i64 e, .int .i64 ii] 71)) (Obj.cells #[.int .i64 s, .int .i64 ii, .int .i64 e] 71)).drew
              go_wp2
              go_roundg (N - i - 1)
              case measure => omega
              case rel => exact ⟨i + 1, by omega, by go_num, below_step hb6 hb7⟩
          · have hid : decide ((i : Int) < (N : Int)) = false := by simpa using hi
            go_wp2
            go_ret
            exact ⟨rfl, below_step hbw5 hb6⟩
      · have d0 : decide (x.2.2 < 0) = true := by simpa using hx
        clear hx
        go_wp2
        go_ret
        exact ⟨rfl, hbw3⟩
end Go.Proofs.Ytokldploloncgaa.topo

namespace Go.Proofs.Ytokldploloncgaa.topoBack
open Go.ChangeShapes Go.WideShapes Go.ChangeAt Go.RowKit Go.Joins

set_option maxRecDepth 100000 in
theorem contract (H : Type) (enc : TypeId × Value → H) (W : World) (base : Nat) (args : Array Value) (ds gs : List (DataW H)) (before : List MemPlace)
    (hval0 : ∀ (j : Nat) t v, Try.f10.params[j]? = some t → args[j]? = some v → Value.okWide Try.prog W .any base t v)
    (hW : DataW.Whole enc Try.prog Try.f10.params.toList Rows.topoBackSpec.vars false W args.toList ds gs before)
    (hsz0 : (DataW.weightsEach Try.prog (Try.f10.params.toList ++ Rows.topoBackSpec.plain.varTypes Try.prog) (ds ++ gs)).all (· ≤ reachBytes) = true) :
    Calls Try.prog 10 args W fun e W' => e = .returned (.bool true) ∧ Below W.heap.size W W' := by
  have hval := hval0
  have hsz := hsz0
  clear hval0 hsz0
  obtain ⟨p, q, hA0, hV, _, _, _⟩ := hW
  have hA : DataW.TrodAll enc Try.prog W 0 (fun _ => true) true Try.f10.params.toList args.toList ds p := hA0
  obtain ⟨rfl, rfl⟩ := trodVars_none hV
  rw [Try.params10] at hA hval hsz
  obtain ⟨v0, vs0, d0, ds0, p0, q0, hargs, rfl, rfl, h0, r0⟩ := trodAll_cons hA
  obtain ⟨v1, vs1, d1, ds1, p1, q1, rfl, rfl, rfl, h1, r1⟩ := trodAll_cons r0
  obtain ⟨v2, vs2, d2, ds2, p2, q2, rfl, rfl, rfl, h2, r2⟩ := trodAll_cons r1
  obtain ⟨rfl, rfl, rfl⟩ := trodAll_nil r2
  have hargs' : args = #[v0, v1, v2] := by apply Array.ext'; rw [hargs]
  subst hargs'
  have ho := hval 0 _ v0 rfl rfl
  simp only [Value.okWide] at ho
  obtain ⟨cs, rfl, -, -⟩ := ho
  have hs : topo.shPlan.holds W 9223372036854775807 cs.toList := Sh.opened (by kernel_rfl) h0 hsz 0 rfl rfl _ (.inl rfl)
  obtain ⟨sa, sl, sc, ja, jl, jc, S, J, hcs, hp⟩ := topo.plan_of hs
  have hcs' : cs = #[.slice sa sl sc, .slice ja jl jc] := by apply Array.ext'; rw [hcs]
  subst hcs'
  obtain ⟨a, b, rfl, ha, hb⟩ := open_arr2 Try.underlying80 Try.underlying3 (by kernel_rfl) (by kernel_rfl) (hval 1 _ v1 rfl rfl) h1
  have h3 : Sh.holds W 9223372036854775807 (.slice 8 .int) v2.cells.toList := Sh.opened (by kernel_rfl) h2 hsz 2 rfl rfl _ (.inl rfl)
  obtain ⟨pa, pl, pc, rfl⟩ : ∃ pa pl pc, v2 = .slice pa pl pc := by
    have ho2 := hval 2 _ v2 rfl rfl
    have hu : Try.prog.underlying 37 = some (.slice 3) := by kernel_rfl
    have h4 : Value.okWide Try.prog W .any base 37 v2 := ho2
    simp only [Value.okWide, hu] at h4
    cases v2 <;> first | exact ⟨_, _, _, rfl⟩ | exact absurd h4 id | exact h4.elim
  obtain ⟨P, hP, -, -, -⟩ := topo.ints_of h3
  exact topo.back_any sa ja pa sl sc jl jc pl pc S J P a b W hp hP


set_option maxRecDepth 100000 in
theorem lifted (os : Os) (started : os.Started) (H : Type) (enc : TypeId × Value → H) :
    ReturnsInHanded {} Try.checked os 10 .any (Rows.topoBackSpec.pre6 enc Try.prog Try.f10 Rows.topoBackRow.domain false) (Rows.topoBackSpec.post enc Try.prog Try.f10 false true false false) := by
  refine returnsInHanded_of_change_sized (C := Try.checked) own started (by kernel_rfl) Try.func10
    (ChangeSpec.witness6 (enc := enc) (C := Try.checked) false ⟨#[], #[.agg #[.slice none 0 0, .slice none 0 0], .agg #[.int .i64 0, .int .i64 0], .slice none 0 0], []⟩ 8 (by kernel_rfl) (by kernel_rfl) (by kernel_rfl) (by kernel_rfl)) ?_
  intro W base args ds gs before hval hW _ hsz _
  have hW0 : DataW.Whole enc Try.prog Try.f10.params.toList Rows.topoBackSpec.vars false W args.toList ds gs before := hW
  refine (contract H enc W base args ds gs before hval hW hsz).mono fun e W' ⟨he, hb⟩ => ⟨_, he, post_law laidOut (by kernel_rfl) (by kernel_rfl : Try.prog.underlying 4 = some .bool) (by kernel_rfl) rfl hW0 ?_ hb⟩
  obtain ⟨p, q, hA0, _⟩ := hW0
  have hA : DataW.TrodAll enc Try.prog W 0 (fun _ => true) true Try.f10.params.toList args.toList ds p := hA0
  rw [Try.params10] at hA
  obtain ⟨v0, vs0, d0, ds0, p0, q0, hargs, rfl, rfl, h0, r0⟩ := trodAll_cons hA
  obtain ⟨v1, vs1, d1, ds1, p1, q1, rfl, rfl, rfl, h1, r1⟩ := trodAll_cons r0
  obtain ⟨v2, vs2, d2, ds2, p2, q2, rfl, rfl, rfl, h2, r2⟩ := trodAll_cons r1
  obtain ⟨rfl, rfl, rfl⟩ := trodAll_nil r2
  rfl

theorem holds : Rows.TopoBackSaid :=
  OpenClaim.holds_of_wide 10 Try.f10 rfl rfl rfl rfl rfl rfl rfl ⟨rfl, rfl, rfl, rfl, rfl⟩ rfl rfl rfl rfl rfl (by kernel_rfl) Try.func10 (by kernel_rfl)
    (of_decide_eq_true (by kernel_rfl)) (by unfold Func.isWrapper; first | (rw [if_pos (by decide +kernel)]; kernel_rfl) | (rw [if_neg (by decide +kernel)]; exact ⟨rfl, rfl⟩))
    (fun os started H enc _ => lifted os started H enc)
#print axioms holds
end Go.Proofs.Ytokldploloncgaa.topoBack
