/-
  TopoBlind answers true of every plan, start and row of positions, and leaves all that was there as it was.
  Conditions: none.
-/
import Derived.Test.YtokldploloncgaaTopoP
import Derived.Test.YtokldploloncgaaTopoR
import Derived.Test.YtokldploloncgaaTopoT
import Derived.BigQuiet
import Derived.Test.YtokldploloncgaaArr2
import Derived.Deep.RegionHeld3
import Derived.Outline
namespace Go.Proofs.Ytokldploloncgaa.topo
open Go.RowKit

set_option maxRecDepth 100000 in
set_option maxHeartbeats 4000000 in
theorem blind_any (sa ja pa : Option Addr) (sl sc jl jc pl pc : Nat) (S : List (Int × Int × Int)) (J : List (Int × Int × Int × Int)) (P : List Int) (a b : Int) (w : World) (hp : PlanAt w sa sl sc ja jl jc S J) (hP : RowsAt 1 enc1 w pa pl pc P) (hp8 : pc * 8 ≤ 140737488351232) :
    Calls Try.prog 12 #[.agg #[.slice sa sl sc, .slice ja jl jc], .agg #[.int .i64 a, .int .i64 b], .slice pa pl pc] w fun e' w' => e' = .returned (.bool true) ∧ Below w.heap.size w w' := by
  have hlen := hp.len
  go_enter Try.func12, Try.ntmps12
  go_upto_region 3 with (go_at_call 27; refine (lives_any _).mono ?_; rintro e' w1 ⟨rfl, hb1⟩)
  have hbx := below_new (below_new (Below.refl w.heap.size w) (Obj.cells #[Value.slice sa sl sc, Value.slice ja jl jc] 60)) (Obj.cells #[Value.int .i64 a, Value.int .i64 b] 80)
  have x0 : w1.cell? ⟨w.heap.size, 0, none⟩ = some (.slice sa sl sc) := (hb1.cell (p := ⟨w.heap.size, 0, none⟩) (by simp; omega)).trans (by simp)
  have x1 : w1.cell? ⟨w.heap.size, 1, none⟩ = some (.slice ja jl jc) := (hb1.cell (p := ⟨w.heap.size, 1, none⟩) (by simp; omega)).trans (by simp)
  have x2 : w1.cell? ⟨w.heap.size + 1, 0, none⟩ = some (.int .i64 a) := (hb1.cell (p := ⟨w.heap.size + 1, 0, none⟩) (by simp)).trans (by rw [show w.heap.size + 1 = (w.alloc (Obj.cells #[Value.slice sa sl sc, Value.slice ja jl jc] 60)).heap.size by simp, cell_of_row _ _ 0 _ _ _ (heap_alloc_new _ _)]; rfl)
  have x3 : w1.cell? ⟨w.heap.size + 1, 1, none⟩ = some (.int .i64 b) := (hb1.cell (p := ⟨w.heap.size + 1, 1, none⟩) (by simp)).trans (by rw [show w.heap.size + 1 = (w.alloc (Obj.cells #[Value.slice sa sl sc, Value.slice ja jl jc] 60)).heap.size by simp, cell_of_row _ _ 1 _ _ _ (heap_alloc_new _ _)]; rfl)
  have hbw := below_step hbx hb1
  have hp1 := hp.below hbw
  have hC := hp1.check
  clear hbx hb1
  cases hok : okT S J with
  | false =>
    rw [hok] at hC
    have HC := Lib.hid hC
    clear hC hok
    go_wp2_with (go_at_call 28; go_must (refine HC.out.mono ?_; rintro e' w2 ⟨rfl, hb2⟩))
    go_ret
    exact ⟨rfl, below_step hbw hb2⟩
  | true =>
    have hpl := Plan.of_ok hok
    rw [hok] at hC
    rw [show errT true = 0 from rfl] at hC
    have HC := Lib.hid hC
    clear hC hok
    have HPL := Lib.hid hpl
    clear hpl
    by_cases hps : pl < sl
    · have hpd : decide ((pl : Int) < (sl : Int)) = true := by simpa using hps
      go_wp2_with (go_at_call 28; go_must (refine HC.out.mono ?_; rintro e' w2 ⟨rfl, hb2⟩; have y0 := (hb2.cell (p := ⟨w.heap.size, 0, none⟩) (World.block_lt_of_cell? _ _ x0)).trans x0))
      go_ret
      exact ⟨rfl, below_step hbw hb2⟩
    · have hpd : decide ((pl : Int) < (sl : Int)) = false := by simpa using hps
      have hps' : sl ≤ pl := by omega
      go_upto_region 5 with (go_at_call 28; go_must (refine HC.out.mono ?_; rintro e' w2 ⟨rfl, hb2⟩; have y0 := (hb2.cell (p := ⟨w.heap.size, 0, none⟩) (World.block_lt_of_cell? _ _ x0)).trans x0))
      have y1 := (hb2.cell (p := ⟨w.heap.size, 1, none⟩) (World.block_lt_of_cell? _ _ x1)).trans x1
      have y2 := (hb2.cell (p := ⟨w.heap.size + 1, 0, none⟩) (World.block_lt_of_cell? _ _ x2)).trans x2
      have y3 := (hb2.cell (p := ⟨w.heap.size + 1, 1, none⟩) (World.block_lt_of_cell? _ _ x3)).trans x3
      have hp2 := hp1.below hb2
      have hbw2 := below_step hbw hb2
      have hP2 := hP.below hbw2
      have hbz : w.heap.size + 1 < w2.heap.size := World.block_lt_of_cell? _ _ y2
      have hF := follow_any S J P sa ja pa sl sc jl jc pl pc a b w2 hp2.s hp2.j hP2 hlen
      obtain ⟨Wy, hWy⟩ : ∃ Wy, followT S J P (sl + 1) [] a b = Wy := ⟨_, rfl⟩
      rw [hWy] at hF
      have HF := Lib.hid hF
      have HWY := Lib.hid hWy
      clear x0 x1 x2 x3 hbw hb2 hp1 hF hWy hP hp
      go_upto_region 6 with (go_at_call 32; go_must (refine HF.out.mono ?_; rintro e' w3 ⟨v3, rfl, hrow3, hb3⟩; obtain ⟨a3, c3, rfl, hr3⟩ := own_rows hrow3 rfl))
      obtain ⟨N, hN⟩ : ∃ N, Wy.length = N := ⟨_, rfl⟩
      rw [hN] at hr3 ⊢
      have HN := Lib.hid hN
      have hN63 : N ≤ 9223372036854775807 := Nat.le_trans hr3.le hr3.max
      have hpl63 : pl ≤ 9223372036854775807 := Nat.le_trans hP2.le hP2.max
      have hple := hP2.le
      have hbw3 := below_step hbw2 hb3
      have hGood : ∀ x ∈ Wy, goodAt S x.1 x.2.1 := by
        rw [← HWY.out]
        exact follow_good _ [] a b (by simp)
      have HG := Lib.hid hGood
      have z0 := (hb3.cell (p := ⟨w.heap.size, 0, none⟩) (World.block_lt_of_cell? _ _ y0)).trans y0
      have z1 := (hb3.cell (p := ⟨w.heap.size, 1, none⟩) (World.block_lt_of_cell? _ _ y1)).trans y1
      have z2 := (hb3.cell (p := ⟨w.heap.size + 1, 0, none⟩) (World.block_lt_of_cell? _ _ y2)).trans y2
      have z3 := (hb3.cell (p := ⟨w.heap.size + 1, 1, none⟩) (World.block_lt_of_cell? _ _ y3)).trans y3
      have hg3 : w.heap.size + 1 < w3.heap.size := World.block_lt_of_cell? _ _ z2
      have hp3 := hp2.below hb3
      have hP3 := hP2.below hb3
      have hmk := fun W => makeI pl hpl63 (by omega) W
      clear hN hrow3 y0 y1 y2 y3 hGood hb3 hp2 hP2
      go_wp2
      obtain ⟨W4, hW4⟩ : ∃ W4, rowI w3 pl = W4 := ⟨_, rfl⟩
      have hb4 : Below w3.heap.size w3 W4 := hW4 ▸ rowI_below w3 pl
      have hI4 : OwnI W4 w3.heap.size pl (List.replicate pl 0) := hW4 ▸ rowI_own w3 pl
      rw [hW4]
      clear hW4 hmk
      go_loopg [45] pl (fun m c wr => ∃ k : Nat, k + m = pl ∧ c = .int .i64 k ∧ ∃ B, OwnI wr w3.heap.size pl B ∧ Below w3.heap.size w3 wr)
      case atStart => exact ⟨0, by omega, rfl, _, hI4, hb4⟩
      case round =>
        obtain ⟨k, hkm, rfl, B, hI, hb5⟩ := hrel
        obtain ⟨W5, rfl⟩ : ∃ W : World, W = wr := ⟨_, rfl⟩
        by_cases hk : k < pl
        · have hkd : decide ((k : Int) < (pl : Int)) = true := by simpa using hk
          have hk0 : (0 : Int) ≤ k := by omega
          have hk1 : (k : Int) < pl := by omega
          have c0 := hI.cell k _ (List.getElem?_eq_getElem (by rw [hI.len]; exact hk))
          have f0 := hI.free k
          go_wp2
          go_roundg (pl - k - 1)
          case measure => omega
          case rel => exact ⟨k + 1, by omega, by go_num, _, hI.set hk _, hb5.setCell (Nat.le_refl _) _⟩
        · have hkd : decide ((k : Int) < (pl : Int)) = false := by simpa using hk
          clear hI4 hb4
          go_wp2
          go_loopg [54] N (fun m c wr => ∃ k : Nat, k + m = N ∧ c = .int .i64 k ∧ ∃ B, OwnI wr w3.heap.size pl B ∧ Kept S P B Wy k ∧ Below w3.heap.size w3 wr)
          case atStart => exact ⟨0, by omega, rfl, B, hI, ⟨by rw [hI.len, hP3.len], fun j x hj => by omega⟩, hb5⟩
          case round =>
            clear hI hb5 B
            obtain ⟨k, hkm, rfl, B, hI, hK, hb6⟩ := hrel
            obtain ⟨W6, rfl⟩ : ∃ W : World, W = wr := ⟨_, rfl⟩
            have u0 := (hb6.cell (p := ⟨w.heap.size, 0, none⟩) (World.block_lt_of_cell? _ _ z0)).trans z0
            have u1 := (hb6.cell (p := ⟨w.heap.size, 1, none⟩) (World.block_lt_of_cell? _ _ z1)).trans z1
            have u2 := (hb6.cell (p := ⟨w.heap.size + 1, 0, none⟩) (World.block_lt_of_cell? _ _ z2)).trans z2
            have u3 := (hb6.cell (p := ⟨w.heap.size + 1, 1, none⟩) (World.block_lt_of_cell? _ _ z3)).trans z3
            have hgs6 : w.heap.size + 1 < W6.heap.size := World.block_lt_of_cell? _ _ u2
            by_cases hk : k < N
            · have hkd : decide ((k : Int) < (N : Int)) = true := by simpa using hk
              have hk0 : (0 : Int) ≤ k := by omega
              have hk1 : (k : Int) < N := by omega
              obtain ⟨g1, o1, x, rfl, hg1, hx, -, hc1⟩ := (hr3.below hb6).row hk
              have hgx := HG.out x (List.mem_of_getElem? hx)
              obtain ⟨s, ii, e⟩ := x
              obtain ⟨⟨s0, s1⟩, -⟩ := hgx
              simp only at s0 s1
              rw [hp3.s.len] at s1
              obtain ⟨n, rfl⟩ := Int.eq_ofNat_of_zero_le s0
              have hn : n < sl := by omega
              have hnp : n < pl := by omega
              have s2 : (n : Int) < pl := by omega
              obtain ⟨g2, o2, y, rfl, hg2, hy, -, hc2⟩ := (hp3.s.below hb6).row hn
              obtain ⟨g4, o4, v, rfl, hg4, hv, -, hc4⟩ := (hP3.below hb6).row hnp
              obtain ⟨kd, oc, l⟩ := y
              have q0 := hc1 0 _ rfl
              have q1 := hc1 1 _ rfl
              have q2 := hc1 2 _ rfl
              have q3 := hc2 0 _ rfl
              have q4 := hc4 0 _ rfl
              rw [Nat.add_zero] at q0 q3 q4
              rw [Nat.mul_one] at q4
              have hkind : kindAt S (n : Int) = kd := by simp [kindAt, hy]
              have HX := Lib.hid hx
              have HKI := Lib.hid hkind
              have HKE := Lib.hid hK
              have HV := Lib.hid hv
              clear hx hkind hK hv hc1 hc2 hc4 hy
              go_upto_region 15 with (fail)
              obtain ⟨W7, hW7⟩ : ∃ W7, W6.alloc (.cells #[.int .i64 (n : Int), .int .i64 ii, .int .i64 e] 71) = W7 := ⟨_, rfl⟩
              rw [hW7]
              have hb7 : Below W6.heap.size W6 W7 := by rw [← hW7]; exact below_new (Below.refl _ _) _
              have t0 : W7.cell? ⟨W6.heap.size, 0, none⟩ = some (.int .i64 (n : Int)) := by rw [← hW7]; simp
              have v0 := (hb7.cell (p := ⟨w.heap.size, 0, none⟩) (World.block_lt_of_cell? _ _ u0)).trans u0
              have v3 : W7.cell? ⟨g2, o2 + n * 3, none⟩ = some (.int .i64 kd) := (hb7.cell (p := ⟨g2, o2 + n * 3, none⟩) (World.block_lt_of_cell? _ _ q3)).trans q3
              have v4 := (hb7.cell (p := ⟨g4, o4 + n, none⟩) (World.block_lt_of_cell? _ _ q4)).trans q4
              have hI7 := hI.below hb7
              obtain ⟨bo, hbo⟩ : ∃ bo, B[n]? = some bo := ⟨_, List.getElem?_eq_getElem (by rw [hI.len]; exact hnp)⟩
              have r0 := hI7.cell n bo hbo
              have f0 := hI7.free n
              have hb67 := below_step hb6 hb7
              clear hW7 q0 q1 q2 q3 q4 u0 u1 u2 u3 hI hb7 hbo
              by_cases hkd1 : kd = 1
              · subst hkd1
                go_upto_region 16 with (fail)
                go_region
                all_goals
                  go_wp2
                  go_roundg (N - k - 1)
                  case measure => omega
                  case rel => exact ⟨k + 1, by omega, by go_num, _, (hI7.set hnp _).below (Below.refl _ _).drew, HKE.out.put HX.out rfl HV.out, (hb67.setCell (Nat.le_refl _) _).drew⟩
              · have hkdd : (kd == 1) = false := by simpa using hkd1
                go_wp2
                go_roundg (N - k - 1)
                case measure => omega
                case rel => exact ⟨k + 1, by omega, by go_num, B, hI7, HKE.out.skip HX.out (by rw [HKI.out]; exact hkd1), hb67⟩
            · have hkd : decide ((k : Int) < (N : Int)) = false := by simpa using hk
              obtain rfl : k = N := by omega
              have hsame := Kept.same HWY.out (by rw [HN.out]; exact hK)
              have hB := hI.rows hpl63
              have hF2 := follow_any S J B sa ja (some ⟨w3.heap.size, 0, none⟩) sl sc jl jc pl pl a b W6 (hp3.s.below hb6) (hp3.j.below hb6) hB hlen
              rw [hsame] at hF2
              have HF2 := Lib.hid hF2
              clear hF2 hsame hK
              go_upto_region 19 with (go_at_call 32; go_must (refine HF2.out.mono ?_; rintro e' w7 ⟨v7, rfl, hrow7, hb7⟩; obtain ⟨a7, c7, rfl, hr7⟩ := own_rows hrow7 rfl))
              rw [HN.out] at hr7 ⊢
              have hb67 := below_step hb6 hb7
              have hr3' := hr3.below hb67
              have hbw7 := below_step hbw3 hb67
              clear hr3 hp3 hP3 hI hB hb6 hb7 hb67 u0 u1 u2 u3 z0 z1 z2 z3 hrow7
              go_wp2
              go_loopg [93] k (fun m c wr => ∃ i : Nat, i + m = k ∧ c = .int .i64 i ∧ Below w7.heap.size w7 wr)
              case atStart => exact ⟨0, by omega, rfl, Below.refl _ _⟩
              case round =>
                obtain ⟨i, him, rfl, hb8⟩ := hrel
                obtain ⟨W8, rfl⟩ : ∃ W : World, W = wr := ⟨_, rfl⟩
                by_cases hi : i < k
                · obtain ⟨g1, o1, x, rfl, q1, h1, -, r1⟩ := (hr3'.below hb8).row hi
                  obtain ⟨g2, o2, y, rfl, q2, h2, -, r2⟩ := (hr7.below hb8).row hi
                  obtain rfl : x = y := by rw [h1] at h2; injection h2
                  obtain ⟨xa, xb, xc⟩ := x
                  have y1 := r1 0 _ rfl
                  have y2 := r1 1 _ rfl
                  have y3 := r1 2 _ rfl
                  have y4 := r2 0 _ rfl
                  have y5 := r2 1 _ rfl
                  have y6 := r2 2 _ rfl
                  rw [Nat.add_zero] at y1 y4
                  have hid : decide ((i : Int) < (k : Int)) = true := by simpa using hi
                  have i0 : (0 : Int) ≤ i := by omega
                  have i1 : (i : Int) < k := by omega
                  clear h1 h2 r1 r2 hr3' hr7
                  go_wp2
                  refine wp_region_later (by kernel_rfl) (by kernel_rfl) ?_
                  repeat (go_big_quiet_step (fail))
                  refine wpQuiet_nil ?_
                  intro w9 hb9
                  go_wp2
                  go_roundg (k - i - 1)
                  case measure => omega
                  case rel => exact ⟨i + 1, by omega, by go_num, below_step hb8 hb9⟩
                · have hid : decide ((i : Int) < (k : Int)) = false := by simpa using hi
                  go_wp2
                  go_ret
                  exact ⟨rfl, below_step hbw7 hb8⟩
end Go.Proofs.Ytokldploloncgaa.topo

namespace Go.Proofs.Ytokldploloncgaa.topoBlind
open Go.ChangeShapes Go.WideShapes Go.ChangeAt Go.RowKit Go.Joins

set_option maxRecDepth 100000 in
theorem contract (H : Type) (enc : TypeId × Value → H) (W : World) (base : Nat) (args : Array Value) (ds gs : List (DataW H)) (before : List MemPlace)
    (hval0 : ∀ (j : Nat) t v, Try.f12.params[j]? = some t → args[j]? = some v → Value.okWide Try.prog W .any base t v)
    (hW : DataW.Whole enc Try.prog Try.f12.params.toList Rows.topoBlindSpec.vars false W args.toList ds gs before)
    (hsz0 : (DataW.weightsEach Try.prog (Try.f12.params.toList ++ Rows.topoBlindSpec.plain.varTypes Try.prog) (ds ++ gs)).all (· ≤ reachBytes) = true) :
    Calls Try.prog 12 args W fun e W' => e = .returned (.bool true) ∧ Below W.heap.size W W' := by
  have hval := hval0
  have hsz := hsz0
  clear hval0 hsz0
  obtain ⟨p, q, hA0, hV, _, _, _⟩ := hW
  have hA : DataW.TrodAll enc Try.prog W 0 (fun _ => true) true Try.f12.params.toList args.toList ds p := hA0
  obtain ⟨rfl, rfl⟩ := trodVars_none hV
  rw [Try.params12] at hA hval hsz
  obtain ⟨v0, vs0, d0, ds0, p0, q0, hargs, rfl, rfl, h0, r0⟩ := trodAll_cons hA
  obtain ⟨v1, vs1, d1, ds1, p1, q1, rfl, rfl, rfl, h1, r1⟩ := trodAll_cons r0
  obtain ⟨v2, vs2, d2, ds2, p2, q2, rfl, rfl, rfl, h2, r2⟩ := trodAll_cons r1
  obtain ⟨rfl, rfl, rfl⟩ := trodAll_nil r2
  have hargs' : args = #[v0, v1, v2] := by apply Array.ext'; rw [hargs]
  subst hargs'
  have ho := hval 0 _ v0 rfl rfl
  simp only [Value.okWide] at ho
  obtain ⟨cs, rfl, -, -⟩ := ho
  have hs : topo.shPlan.holds W 9223372036854775807 cs.toList := Sh.opened (by kernel_rfl) h0 hsz 0 rfl rfl _ (.inl rfl)
  obtain ⟨sa, sl, sc, ja, jl, jc, S, J, hcs, hp⟩ := topo.plan_of hs
  have hcs' : cs = #[.slice sa sl sc, .slice ja jl jc] := by apply Array.ext'; rw [hcs]
  subst hcs'
  obtain ⟨a, b, rfl, ha, hb⟩ := open_arr2 Try.underlying80 Try.underlying3 (by kernel_rfl) (by kernel_rfl) (hval 1 _ v1 rfl rfl) h1
  have h3 : Sh.holds W 9223372036854775807 (.slice 8 .int) v2.cells.toList := Sh.opened (by kernel_rfl) h2 hsz 2 rfl rfl _ (.inl rfl)
  obtain ⟨pa, pl, pc, rfl⟩ : ∃ pa pl pc, v2 = .slice pa pl pc := by
    have ho2 := hval 2 _ v2 rfl rfl
    have hu : Try.prog.underlying 37 = some (.slice 3) := by kernel_rfl
    have h4 : Value.okWide Try.prog W .any base 37 v2 := ho2
    simp only [Value.okWide, hu] at h4
    cases v2 <;> first | exact ⟨_, _, _, rfl⟩ | exact absurd h4 id | exact h4.elim
  obtain ⟨P, hP, -, hp8, -⟩ := topo.ints_of h3
  exact topo.blind_any sa ja pa sl sc jl jc pl pc S J P a b W hp hP hp8



set_option maxRecDepth 100000 in
theorem lifted (os : Os) (started : os.Started) (H : Type) (enc : TypeId × Value → H) :
    ReturnsInHanded {} Try.checked os 12 .any (Rows.topoBlindSpec.pre6 enc Try.prog Try.f12 Rows.topoBlindRow.domain false) (Rows.topoBlindSpec.post enc Try.prog Try.f12 false true false false) := by
  refine returnsInHanded_of_change_sized (C := Try.checked) own started (by kernel_rfl) Try.func12
    (ChangeSpec.witness6 (enc := enc) (C := Try.checked) false ⟨#[], #[.agg #[.slice none 0 0, .slice none 0 0], .agg #[.int .i64 0, .int .i64 0], .slice none 0 0], []⟩ 8 (by kernel_rfl) (by kernel_rfl) (by kernel_rfl) (by kernel_rfl)) ?_
  intro W base args ds gs before hval hW _ hsz _
  have hW0 : DataW.Whole enc Try.prog Try.f12.params.toList Rows.topoBlindSpec.vars false W args.toList ds gs before := hW
  refine (contract H enc W base args ds gs before hval hW hsz).mono fun e W' ⟨he, hb⟩ => ⟨_, he, post_law laidOut (by kernel_rfl) (by kernel_rfl : Try.prog.underlying 4 = some .bool) (by kernel_rfl) rfl hW0 ?_ hb⟩
  obtain ⟨p, q, hA0, _⟩ := hW0
  have hA : DataW.TrodAll enc Try.prog W 0 (fun _ => true) true Try.f12.params.toList args.toList ds p := hA0
  rw [Try.params12] at hA
  obtain ⟨v0, vs0, d0, ds0, p0, q0, hargs, rfl, rfl, h0, r0⟩ := trodAll_cons hA
  obtain ⟨v1, vs1, d1, ds1, p1, q1, rfl, rfl, rfl, h1, r1⟩ := trodAll_cons r0
  obtain ⟨v2, vs2, d2, ds2, p2, q2, rfl, rfl, rfl, h2, r2⟩ := trodAll_cons r1
  obtain ⟨rfl, rfl, rfl⟩ := trodAll_nil r2
  rfl

theorem holds : Rows.TopoBlindSaid :=
  OpenClaim.holds_of_wide 12 Try.f12 rfl rfl rfl rfl rfl rfl rfl ⟨rfl, rfl, rfl, rfl, rfl⟩ rfl rfl rfl rfl rfl (by kernel_rfl) Try.func12 (by kernel_rfl)
    (of_decide_eq_true (by kernel_rfl)) (by unfold Func.isWrapper; first | (rw [if_pos (by decide +kernel)]; kernel_rfl) | (rw [if_neg (by decide +kernel)]; exact ⟨rfl, rfl⟩))
    (fun os started H enc _ => lifted os started H enc)
#print axioms holds
end Go.Proofs.Ytokldploloncgaa.topoBlind
