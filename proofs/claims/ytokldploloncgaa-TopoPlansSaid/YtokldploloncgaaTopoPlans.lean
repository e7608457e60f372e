/-
  TopoPlans answers true of every plan, section and end, and leaves all that was there as it was.
  Conditions: none.
-/
import Derived.Test.YtokldploloncgaaTopoZ
import Derived.BigQuiet
import Derived.Outline
namespace Go.Proofs.Ytokldploloncgaa.topo
open Go.RowKit

set_option maxRecDepth 100000 in
set_option maxHeartbeats 4000000 in
theorem plans_any (sa ja : Option Addr) (sl sc jl jc : Nat) (S : List (Int × Int × Int)) (J : List (Int × Int × Int × Int)) (s e : Int) (w : World) (hp : PlanAt w sa sl sc ja jl jc S J) :
    Calls Try.prog 7 #[.agg #[.slice sa sl sc, .slice ja jl jc], .int .i64 s, .int .i64 e] w fun e' w' => e' = .returned (.bool true) ∧ Below w.heap.size w w' := by
  have hslen := hp.sreach
  have hjlen := hp.jreach
  go_enter Try.func7, Try.ntmps7
  go_upto_region 3 with (go_at_call 27; refine (lives_any _).mono ?_; rintro e' w1 ⟨rfl, hb1⟩)
  have hbx := below_new (Below.refl w.heap.size w) (Obj.cells #[Value.slice sa sl sc, Value.slice ja jl jc] 60)
  have x0 : w1.cell? ⟨w.heap.size, 0, none⟩ = some (.slice sa sl sc) := (hb1.cell (p := ⟨w.heap.size, 0, none⟩) (by simp)).trans (by simp)
  have x1 : w1.cell? ⟨w.heap.size, 1, none⟩ = some (.slice ja jl jc) := (hb1.cell (p := ⟨w.heap.size, 1, none⟩) (by simp)).trans (by simp)
  have hbw := below_step hbx hb1
  have hp1 := hp.below hbw
  have hg1 : w.heap.size < w1.heap.size := World.block_lt_of_cell? _ _ x1
  have hsle := hp.s.le
  have hjle := hp.j.le
  have hSl := hp.s.len
  have hJl := hp.j.len
  have hsao : sa = none → sl = 0 ∧ sc = 0 := fun e => ⟨by have := hp.s.nil e; omega, hp.s.nil e⟩
  have hmade : (w1.alloc (.cells #[] 62)).ownsRow w1.heap.size 62 3 (.slice (some ⟨w1.heap.size, 0, none⟩) 0 0) 0 [] := World.ownsRow_made w1 #[] 0 (Nat.le_refl _) (by unfold maxLen; omega) rfl
  have hnews := rows_news enc3_len hp1.s (.cells #[] 62)
  obtain ⟨i0, hi, hz0, hz1', hz2⟩ := info_parts info_sec
  have y0 : (w1.alloc (.cells #[] 62)).cell? ⟨w.heap.size, 0, none⟩ = some (.slice sa sl sc) := (World.cell?_alloc_lt _ _ _ hg1).trans x0
  have hfl := flatG_length enc3_len S
  rw [hSl] at hfl
  have HP := Lib.hid hp
  have HP1 := Lib.hid hp1
  clear hp hp1 hbx hb1
  go_upto_region 4 with (first
    | (at_builtin; (refine append_any rfl _ _ 43 rfl w1.heap.size 62 i0 (.agg #[.int .i64 0, .int .i64 0, .int .i64 0]) 3 24 Try.underlying43 hi hz0 hz1' hz2 rfl (by decide) _ sl _ rfl (k1.alloc _) (some ⟨w5.heap.size, 0, none⟩) 1 _ [.int .i64 (-7), .int .i64 0, .int .i64 0] rfl (fun e1 => by cases e1) rfl (fun ad had => by injection had with had; subst had; exact news3 w5 _ _ _ _) (one3 (-7) 0 0) (by unfold maxLen; omega) (by omega) (by simp; omega) ?_; intro v7 w7 j1 j2 j3; have h7 := below_row (below_new h5 _) (k1.alloc _) (Nat.le_refl _) j2))
    | (at_builtin; (refine append_any rfl _ _ 43 rfl w1.heap.size 62 i0 (.agg #[.int .i64 0, .int .i64 0, .int .i64 0]) 3 24 Try.underlying43 hi hz0 hz1' hz2 rfl (by decide) (.slice (some ⟨w1.heap.size, 0, none⟩) 0 0) 0 [] rfl hmade sa sl sc (S.flatMap enc3) rfl hsao hfl hnews (flatG_one enc3_one S) (by unfold maxLen; omega) (by omega) (by simp) ?_; intro v5 w5 k1 k2 k3; have h5 := below_row (below_new (Below.refl _ _) _) hmade (Nat.le_refl _) k2; have s5 := h5.size; rw [Nat.zero_add, List.nil_append] at k1)))
  have j1' : w7.ownsRow w1.heap.size 62 3 v7 (sl + 1) ((S ++ [(-7, 0, 0)]).flatMap enc3) := by rw [List.flatMap_append]; exact j1
  obtain ⟨g7, c7, rfl, hg7, hg7', hc7, hc7m, hcell7⟩ := own_fullG enc3_len j1' (by omega)
  have hbw7 := below_step hbw h7
  have x1' := (h7.cell (p := ⟨w.heap.size, 1, none⟩) hg1).trans x1
  have x0' := (h7.cell (p := ⟨w.heap.size, 0, none⟩) hg1).trans x0
  have hR7 : RowsAt 3 enc3 w7 (some ⟨g7, 0, none⟩) sl c7 S := rows_first hSl hg7' hc7 hc7m hcell7
  have q7 : w7.cell? ⟨g7, 0 + sl * 3 + 0, none⟩ = some (.int .i64 (-7)) := hcell7 sl (-7, 0, 0) (by rw [← hSl, List.getElem?_concat_length]) 0 _ rfl
  clear hmade hnews hfl hsao y0 j1 j2 j3 j1' k1 k2 k3 h5 s5 x0 x1 hi hz0 hz1' hz2 hcell7
  have hg7w : w.heap.size < w7.heap.size := World.block_lt_of_cell? _ _ x1'
  have hjao : ja = none → jl = 0 ∧ jc = 0 := fun e => ⟨by have := HP.out.j.nil e; omega, HP.out.j.nil e⟩
  have hmade : (w7.alloc (.cells #[] 64)).ownsRow w7.heap.size 64 4 (.slice (some ⟨w7.heap.size, 0, none⟩) 0 0) 0 [] := World.ownsRow_made w7 #[] 0 (Nat.le_refl _) (by unfold maxLen; omega) rfl
  have hnews := rows_news enc4_len (HP1.out.j.below h7) (.cells #[] 64)
  obtain ⟨i0, hi, hz0, hz1', hz2⟩ := info_parts info_joint
  have y1 : (w7.alloc (.cells #[] 64)).cell? ⟨w.heap.size, 1, none⟩ = some (.slice ja jl jc) := (World.cell?_alloc_lt _ _ _ hg7w).trans x1'
  have hfl := flatG_length enc4_len J
  rw [hJl] at hfl
  go_upto_region 5 with (first
    | (at_builtin; (refine append_any rfl _ _ 44 rfl w7.heap.size 64 i0 (.agg #[.int .i64 0, .int .i64 0, .int .i64 0, .int .i64 0]) 4 32 Try.underlying44 hi hz0 hz1' hz2 rfl (by decide) _ jl _ rfl (k1.alloc _) (some ⟨w9.heap.size, 0, none⟩) 1 _ [.int .i64 (-8), .int .i64 0, .int .i64 0, .int .i64 0] rfl (fun e1 => by cases e1) rfl (fun ad had => by injection had with had; subst had; exact news4 w9 _ _ _ _ _) (one4 (-8) 0 0 0) (by unfold maxLen; omega) (by omega) (by simp; omega) ?_; intro v11 w11 j1 j2 j3; have h11 := below_row (below_new h9 _) (k1.alloc _) (Nat.le_refl _) j2))
    | (at_builtin; (refine append_any rfl _ _ 44 rfl w7.heap.size 64 i0 (.agg #[.int .i64 0, .int .i64 0, .int .i64 0, .int .i64 0]) 4 32 Try.underlying44 hi hz0 hz1' hz2 rfl (by decide) (.slice (some ⟨w7.heap.size, 0, none⟩) 0 0) 0 [] rfl hmade ja jl jc (J.flatMap enc4) rfl hjao hfl hnews (flatG_one enc4_one J) (by unfold maxLen; omega) (by omega) (by simp) ?_; intro v9 w9 k1 k2 k3; have h9 := below_row (below_new (Below.refl _ _) _) hmade (Nat.le_refl _) k2; have s9 := h9.size; rw [Nat.zero_add, List.nil_append] at k1)))
  have j1' : w11.ownsRow w7.heap.size 64 4 v11 (jl + 1) ((J ++ [(-8, 0, 0, 0)]).flatMap enc4) := by rw [List.flatMap_append]; exact j1
  obtain ⟨g11, c11, rfl, hg11, hg11', hc11, hc11m, hcell11⟩ := own_fullG enc4_len j1' (by omega)
  have hbw11 := below_step hbw7 h11
  have z1 := (h11.cell (p := ⟨w.heap.size, 1, none⟩) hg7w).trans x1'
  have z0 := (h11.cell (p := ⟨w.heap.size, 0, none⟩) hg7w).trans x0'
  have hRs := hR7.below h11
  have hRj : RowsAt 4 enc4 w11 (some ⟨g11, 0, none⟩) jl c11 J := rows_first hJl hg11' hc11 hc11m hcell11
  have q7' := (h11.cell (p := ⟨g7, 0 + sl * 3 + 0, none⟩) hg7').trans q7
  have q11 : w11.cell? ⟨g11, 0 + jl * 4 + 0, none⟩ = some (.int .i64 (-8)) := hcell11 jl (-8, 0, 0, 0) (by rw [← hJl, List.getElem?_concat_length]) 0 _ rfl
  have hgw11 : w.heap.size < w11.heap.size := World.block_lt_of_cell? _ _ z1
  have hg7w11 : g7 < w11.heap.size := World.block_lt_of_cell? _ _ q7'
  have hpw := HP.out.below hbw11
  clear hmade hnews hfl hjao y1 j1 j2 j3 j1' k1 k2 k3 h9 s9 x0' x1' hi hz0 hz1' hz2 hcell11 hR7 q7 h7 h11 hbw hbw7
  obtain ⟨W, rfl⟩ : ∃ W : World, W = w11 := ⟨_, rfl⟩
  obtain ⟨E, hE⟩ : ∃ E, errT (okT S J) = E := ⟨_, rfl⟩
  have K1 : ∀ x : Later W, Calls Try.prog 28 #[.slice (some ⟨g7, 0, none⟩) sl c7, .slice (some ⟨g11, 0, none⟩) jl c11] x.now fun e w' => e = .returned (.int .i64 E) ∧ Below x.now.heap.size x.now w' := fun x => by
    rw [← hE]
    exact check_any S J _ _ sl c7 jl c11 x.now (hRs.below x.is) (hRj.below x.is) HP.out.s64 HP.out.j64
  have K2 : ∀ x : Later W, Calls Try.prog 29 #[.slice sa sl sc, .slice ja jl jc] x.now fun e w' => e = .returned (.int .i64 E) ∧ Below x.now.heap.size x.now w' := fun x => by
    rw [← hE]
    exact checkR_any S J _ _ sl sc jl jc x.now (hpw.s.below x.is) (hpw.j.below x.is) (by omega)
  have HK1 := Lib.hid K1
  have HK2 := Lib.hid K2
  have hEE : (E != E) = false := by simp
  have n1 : (0 : Int) ≤ (sl : Int) := by omega
  have n2 : (sl : Int) ≤ (c7 : Int) := by omega
  have n3 : (0 : Int) ≤ (jl : Int) := by omega
  have n4 : (jl : Int) ≤ (c11 : Int) := by omega
  clear K1 K2 hE
  go_wp2
  refine wp_region_later (by kernel_rfl) (by kernel_rfl) ?_
  repeat (go_big_quiet_step (first
    | (go_at_call 28; exact later_of (HK1.out _))
    | (go_at_call 29; exact later_of (HK2.out _))))
  refine wpQuiet_nil ?_
  intro w12 hb12
  have u0 := (hb12.cell (p := ⟨w.heap.size, 0, none⟩) hgw11).trans z0
  have u1 := (hb12.cell (p := ⟨w.heap.size, 1, none⟩) hgw11).trans z1
  have hw12 : w.heap.size < w12.heap.size := World.block_lt_of_cell? _ _ u0
  obtain ⟨a, b, k, hN⟩ := ansP_is (nextT J s e)
  have N1 := next_any _ jl c11 J s e w12 (hRj.below hb12)
  rw [hN] at N1
  have HN1 := Lib.hid N1
  have N2 : ∀ x, Below w12.heap.size w12 x → Calls Try.prog 31 #[.slice ja jl jc, .int .i64 s, .int .i64 e] x fun e' w' => e' = .returned (.tuple #[.int .i64 a, .int .i64 b, .bool k]) ∧ Below x.heap.size x w' := fun x hx => by
    have := nextR_any _ jl jc J s e x ((hpw.j.below hb12).below hx)
    rw [hN] at this
    exact this
  have HN2 := Lib.hid N2
  clear N1 N2 hN
  go_upto_region 9 with (first
    | (go_at_call 30; go_must (refine HN1.out.mono ?_; rintro e' w13 ⟨rfl, hb13⟩; have v1 := (hb13.cell (p := ⟨w.heap.size, 1, none⟩) hw12).trans u1; have v0 := (hb13.cell (p := ⟨w.heap.size, 0, none⟩) hw12).trans u0))
    | (go_at_call 31; go_must (refine (HN2.out _ hb13).mono ?_; rintro e' w14 ⟨rfl, hb14⟩)))
  have hb1214 := below_step hb13 hb14
  have hbW14 := below_step hb12 hb1214
  have t0 := (hbW14.cell (p := ⟨w.heap.size, 0, none⟩) hgw11).trans z0
  have t1 := (hbW14.cell (p := ⟨w.heap.size, 1, none⟩) hgw11).trans z1
  have hRs14 := hRs.below hbW14
  have hRj14 := hRj.below hbW14
  have hpw14 := hpw.below hbW14
  have p7 := (hbW14.cell (p := ⟨g7, 0 + sl * 3 + 0, none⟩) hg7w11).trans q7'
  have p11 := (hbW14.cell (p := ⟨g11, 0 + jl * 4 + 0, none⟩) hg11').trans q11
  have hbw14 := below_step hbw11 hbW14
  have m1 : sl ≤ 9223372036854775807 := by omega
  have m2 : jl ≤ 9223372036854775807 := by omega
  obtain ⟨W14, rfl⟩ : ∃ W : World, W = w14 := ⟨_, rfl⟩
  clear hRs hRj hpw q7' q11 z0 z1 u0 u1 v0 v1 HN1 HN2 HK1 HK2 hb13 hb14 hb1214 hb12 n1 n2 n3 n4
  go_wp2
  go_loopg [74] sl (fun m c wr => ∃ i : Nat, i + m = sl ∧ c = .int .i64 i ∧ Below W14.heap.size W14 wr)
  case atStart => exact ⟨0, by omega, rfl, Below.refl _ _⟩
  case round =>
    obtain ⟨i, him, rfl, hbS⟩ := hrel
    obtain ⟨W15, rfl⟩ : ∃ W : World, W = wr := ⟨_, rfl⟩
    have r0 := (hbS.cell (p := ⟨w.heap.size, 0, none⟩) (World.block_lt_of_cell? _ _ t0)).trans t0
    have r1 := (hbS.cell (p := ⟨w.heap.size, 1, none⟩) (World.block_lt_of_cell? _ _ t1)).trans t1
    have hw15 : w.heap.size < W15.heap.size := World.block_lt_of_cell? _ _ r0
    by_cases hi : i < sl
    · have hid : decide ((i : Int) < (sl : Int)) = true := by simpa using hi
      have i0 : (0 : Int) ≤ (i : Int) := by omega
      have i1 : (i : Int) < (sl : Int) := by omega
      have i2 : (i : Int) < (sl : Int) + 1 := by omega
      obtain ⟨ga, oa, x, hgo, hga, hx, -, hca⟩ := (hRs14.below hbS).row hi
      injection hgo with hgo
      injection hgo with hgo1 hgo2
      subst hgo1 hgo2
      obtain ⟨gb, ob, y, rfl, hgb, hy, -, hcb⟩ := (hpw14.s.below hbS).row hi
      obtain rfl : x = y := by rw [hx] at hy; injection hy
      obtain ⟨a1, a2, a3⟩ := x
      have c0 := hca 0 _ rfl
      have c1 := hca 1 _ rfl
      have c2 := hca 2 _ rfl
      have d0 := hcb 0 _ rfl
      have d1 := hcb 1 _ rfl
      have d2 := hcb 2 _ rfl
      simp only [Nat.add_zero, Nat.zero_add] at c0 c1 c2 d0
      clear hca hcb hx hy
      go_wp2
      refine wp_region_later (by kernel_rfl) (by kernel_rfl) ?_
      repeat (go_big_quiet_step (fail))
      refine wpQuiet_nil ?_
      intro w16 hb16
      go_wp2
      go_roundg (sl - i - 1)
      case measure => omega
      case rel => exact ⟨i + 1, by omega, by go_num, below_step hbS hb16⟩
    · have hid : decide ((i : Int) < (sl : Int)) = false := by simpa using hi
      go_wp2
      go_loopg [91] jl (fun m c wr => ∃ i : Nat, i + m = jl ∧ c = .int .i64 i ∧ Below W14.heap.size W14 wr)
      case atStart => exact ⟨0, by omega, rfl, hbS⟩
      case round =>
        clear r0 r1 hw15 hbS hi hid
        obtain ⟨j, hjm, rfl, hbS⟩ := hrel
        obtain ⟨W17, rfl⟩ : ∃ W : World, W = wr := ⟨_, rfl⟩
        have r0 := (hbS.cell (p := ⟨w.heap.size, 0, none⟩) (World.block_lt_of_cell? _ _ t0)).trans t0
        have r1 := (hbS.cell (p := ⟨w.heap.size, 1, none⟩) (World.block_lt_of_cell? _ _ t1)).trans t1
        have hw15 : w.heap.size < W17.heap.size := World.block_lt_of_cell? _ _ r0
        by_cases hj : j < jl
        · have hjd : decide ((j : Int) < (jl : Int)) = true := by simpa using hj
          have i0 : (0 : Int) ≤ (j : Int) := by omega
          have i1 : (j : Int) < (jl : Int) := by omega
          have i2 : (j : Int) < (jl : Int) + 1 := by omega
          obtain ⟨ga, oa, x, hgo, hga, hx, -, hca⟩ := (hRj14.below hbS).row hj
          injection hgo with hgo
          injection hgo with hgo1 hgo2
          subst hgo1 hgo2
          obtain ⟨gb, ob, y, rfl, hgb, hy, -, hcb⟩ := (hpw14.j.below hbS).row hj
          obtain rfl : x = y := by rw [hx] at hy; injection hy
          obtain ⟨a1, a2, a3, a4⟩ := x
          have c0 := hca 0 _ rfl
          have c1 := hca 1 _ rfl
          have c2 := hca 2 _ rfl
          have c3 := hca 3 _ rfl
          have d0 := hcb 0 _ rfl
          have d1 := hcb 1 _ rfl
          have d2 := hcb 2 _ rfl
          have d3 := hcb 3 _ rfl
          simp only [Nat.add_zero, Nat.zero_add] at c0 c1 c2 c3 d0
          clear hca hcb hx hy
          go_wp2
          refine wp_region_later (by kernel_rfl) (by kernel_rfl) ?_
          repeat (go_big_quiet_step (fail))
          refine wpQuiet_nil ?_
          intro w16 hb16
          go_wp2
          go_roundg (jl - j - 1)
          case measure => omega
          case rel => exact ⟨j + 1, by omega, by go_num, below_step hbS hb16⟩
        · have hjd : decide ((j : Int) < (jl : Int)) = false := by simpa using hj
          have i0 : (0 : Int) ≤ (sl : Int) := by omega
          have i1 : (sl : Int) < (sl : Int) + 1 := by omega
          have i2 : (0 : Int) ≤ (jl : Int) := by omega
          have i3 : (jl : Int) < (jl : Int) + 1 := by omega
          have f7 := (hbS.cell (p := ⟨g7, 0 + sl * 3 + 0, none⟩) (World.block_lt_of_cell? _ _ p7)).trans p7
          have f11 := (hbS.cell (p := ⟨g11, 0 + jl * 4 + 0, none⟩) (World.block_lt_of_cell? _ _ p11)).trans p11
          simp only [Nat.add_zero, Nat.zero_add] at f7 f11
          have ea : (a == a) = true := by simp
          have eb : (b == b) = true := by simp
          have ek : (k == k) = true := by simp
          go_wp2
          go_ret
          exact ⟨rfl, below_step hbw14 hbS⟩
end Go.Proofs.Ytokldploloncgaa.topo

namespace Go.Proofs.Ytokldploloncgaa.topoPlans
open Go.ChangeShapes Go.WideShapes Go.ChangeAt Go.RowKit Go.Joins

set_option maxRecDepth 100000 in
theorem contract (H : Type) (enc : TypeId × Value → H) (W : World) (base : Nat) (args : Array Value) (ds gs : List (DataW H)) (before : List MemPlace)
    (hval0 : ∀ (j : Nat) t v, Try.f7.params[j]? = some t → args[j]? = some v → Value.okWide Try.prog W .any base t v)
    (hW : DataW.Whole enc Try.prog Try.f7.params.toList Rows.topoPlansSpec.vars false W args.toList ds gs before)
    (hsz0 : (DataW.weightsEach Try.prog (Try.f7.params.toList ++ Rows.topoPlansSpec.plain.varTypes Try.prog) (ds ++ gs)).all (· ≤ reachBytes) = true) :
    Calls Try.prog 7 args W fun e W' => e = .returned (.bool true) ∧ Below W.heap.size W W' := by
  have hval := hval0
  have hsz := hsz0
  clear hval0 hsz0
  obtain ⟨p, q, hA0, hV, _, _, _⟩ := hW
  have hA : DataW.TrodAll enc Try.prog W 0 (fun _ => true) true Try.f7.params.toList args.toList ds p := hA0
  obtain ⟨rfl, rfl⟩ := trodVars_none hV
  rw [Try.params7] at hA hval hsz
  obtain ⟨v0, vs0, d0, ds0, p0, q0, hargs, rfl, rfl, h0, r0⟩ := trodAll_cons hA
  obtain ⟨v1, vs1, d1, ds1, p1, q1, rfl, rfl, rfl, h1, r1⟩ := trodAll_cons r0
  obtain ⟨v2, vs2, d2, ds2, p2, q2, rfl, rfl, rfl, h2, r2⟩ := trodAll_cons r1
  obtain ⟨rfl, rfl, rfl⟩ := trodAll_nil r2
  have hargs' : args = #[v0, v1, v2] := by apply Array.ext'; rw [hargs]
  subst hargs'
  have ho := hval 0 _ v0 rfl rfl
  simp only [Value.okWide] at ho
  obtain ⟨cs, rfl, -, -⟩ := ho
  have hs : topo.shPlan.holds W 9223372036854775807 cs.toList := Sh.opened (by kernel_rfl) h0 hsz 0 rfl rfl _ (.inl rfl)
  obtain ⟨sa, sl, sc, ja, jl, jc, S, J, hcs, hp⟩ := topo.plan_of hs
  have hcs' : cs = #[.slice sa sl sc, .slice ja jl jc] := by apply Array.ext'; rw [hcs]
  subst hcs'
  obtain ⟨s, rfl, -, -, -⟩ := open_int Try.underlying3 (hval 1 _ v1 rfl rfl) h1
  obtain ⟨e, rfl, -, -, -⟩ := open_int Try.underlying3 (hval 2 _ v2 rfl rfl) h2
  exact topo.plans_any sa ja sl sc jl jc S J s e W hp


set_option maxRecDepth 100000 in
theorem lifted (os : Os) (started : os.Started) (H : Type) (enc : TypeId × Value → H) :
    ReturnsInHanded {} Try.checked os 7 .any (Rows.topoPlansSpec.pre6 enc Try.prog Try.f7 Rows.topoPlansRow.domain false) (Rows.topoPlansSpec.post enc Try.prog Try.f7 false true false false) := by
  refine returnsInHanded_of_change_sized (C := Try.checked) own started (by kernel_rfl) Try.func7
    (ChangeSpec.witness6 (enc := enc) (C := Try.checked) false ⟨#[], #[.agg #[.slice none 0 0, .slice none 0 0], .int .i64 0, .int .i64 0], []⟩ 8 (by kernel_rfl) (by kernel_rfl) (by kernel_rfl) (by kernel_rfl)) ?_
  intro W base args ds gs before hval hW _ hsz _
  have hW0 : DataW.Whole enc Try.prog Try.f7.params.toList Rows.topoPlansSpec.vars false W args.toList ds gs before := hW
  refine (contract H enc W base args ds gs before hval hW hsz).mono fun e W' ⟨he, hb⟩ => ⟨_, he, post_law laidOut (by kernel_rfl) (by kernel_rfl : Try.prog.underlying 4 = some .bool) (by kernel_rfl) rfl hW0 ?_ hb⟩
  obtain ⟨p, q, hA0, _⟩ := hW0
  have hA : DataW.TrodAll enc Try.prog W 0 (fun _ => true) true Try.f7.params.toList args.toList ds p := hA0
  rw [Try.params7] at hA
  obtain ⟨v0, vs0, d0, ds0, p0, q0, hargs, rfl, rfl, h0, r0⟩ := trodAll_cons hA
  obtain ⟨v1, vs1, d1, ds1, p1, q1, rfl, rfl, rfl, h1, r1⟩ := trodAll_cons r0
  obtain ⟨v2, vs2, d2, ds2, p2, q2, rfl, rfl, rfl, h2, r2⟩ := trodAll_cons r1
  obtain ⟨rfl, rfl, rfl⟩ := trodAll_nil r2
  rfl

theorem holds : Rows.TopoPlansSaid :=
  OpenClaim.holds_of_wide 7 Try.f7 rfl rfl rfl rfl rfl rfl rfl ⟨rfl, rfl, rfl, rfl, rfl⟩ rfl rfl rfl rfl rfl (by kernel_rfl) Try.func7 (by kernel_rfl)
    (of_decide_eq_true (by kernel_rfl)) (by unfold Func.isWrapper; first | (rw [if_pos (by decide +kernel)]; kernel_rfl) | (rw [if_neg (by decide +kernel)]; exact ⟨rfl, rfl⟩))
    (fun os started H enc _ => lifted os started H enc)
#print axioms holds
end Go.Proofs.Ytokldploloncgaa.topoPlans
