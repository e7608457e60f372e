/-
  TopoFollows answers true of every plan, start and row of positions, and leaves all that was there as it was.
  Conditions: none.
-/
import Derived.Test.YtokldploloncgaaTopoP
import Derived.Test.YtokldploloncgaaTopoV
import Derived.BigQuiet
import Derived.Deep.RegionHeld3
import Derived.Outline
namespace Go.Proofs.Ytokldploloncgaa.topo
open Go.RowKit

set_option maxRecDepth 100000 in
set_option maxHeartbeats 4000000 in
theorem follows_any (sa ja pa : Option Addr) (sl sc jl jc pl pc : Nat) (S : List (Int × Int × Int)) (J : List (Int × Int × Int × Int)) (P : List Int) (a b c : Int) (w : World) (hp : PlanAt w sa sl sc ja jl jc S J) (hP : RowsAt 1 enc1 w pa pl pc P) (hp8 : pc * 8 ≤ 140737488351232) :
    Calls Try.prog 8 #[.agg #[.slice sa sl sc, .slice ja jl jc], .agg #[.int .i64 a, .int .i64 b, .int .i64 c], .slice pa pl pc] w fun e' w' => e' = .returned (.bool true) ∧ Below w.heap.size w w' := by
  have hlen := hp.len
  go_enter Try.func8, Try.ntmps8
  go_upto_region 3 with (go_at_call 27; refine (lives_any _).mono ?_; rintro e' w1 ⟨rfl, hb1⟩)
  have hbx := below_new (below_new (Below.refl w.heap.size w) (Obj.cells #[Value.slice sa sl sc, Value.slice ja jl jc] 60)) (Obj.cells #[Value.int .i64 a, Value.int .i64 b, Value.int .i64 c] 71)
  have x0 : w1.cell? ⟨w.heap.size, 0, none⟩ = some (.slice sa sl sc) := (hb1.cell (p := ⟨w.heap.size, 0, none⟩) (by simp; omega)).trans (by simp)
  have x1 : w1.cell? ⟨w.heap.size, 1, none⟩ = some (.slice ja jl jc) := (hb1.cell (p := ⟨w.heap.size, 1, none⟩) (by simp; omega)).trans (by simp)
  have x2 : w1.cell? ⟨w.heap.size + 1, 0, none⟩ = some (.int .i64 a) := (hb1.cell (p := ⟨w.heap.size + 1, 0, none⟩) (by simp)).trans (by rw [show w.heap.size + 1 = (w.alloc (Obj.cells #[Value.slice sa sl sc, Value.slice ja jl jc] 60)).heap.size by simp, cell_of_row _ _ 0 _ _ _ (heap_alloc_new _ _)]; rfl)
  have x3 : w1.cell? ⟨w.heap.size + 1, 1, none⟩ = some (.int .i64 b) := (hb1.cell (p := ⟨w.heap.size + 1, 1, none⟩) (by simp)).trans (by rw [show w.heap.size + 1 = (w.alloc (Obj.cells #[Value.slice sa sl sc, Value.slice ja jl jc] 60)).heap.size by simp, cell_of_row _ _ 1 _ _ _ (heap_alloc_new _ _)]; rfl)
  have hbw := below_step hbx hb1
  have hp1 := hp.below hbw
  have hP1 := hP.below hbw
  have hg1 : w.heap.size + 1 < w1.heap.size := World.block_lt_of_cell? _ _ x2
  have hle := hP.le
  have hao : pa = none → pl = 0 ∧ pc = 0 := fun e => ⟨by have := hP.nil e; omega, hP.nil e⟩
  have hmade : (w1.alloc (.cells #[] 3)).ownsRow w1.heap.size 3 1 (.slice (some ⟨w1.heap.size, 0, none⟩) 0 0) 0 [] := World.ownsRow_made w1 #[] 0 (Nat.le_refl _) (by unfold maxLen; omega) rfl
  have hnews : ∀ ad, pa = some ad → ∀ j u, (P.map (Value.int .i64))[j]? = some u → (w1.alloc (.cells #[] 3)).cell? (ad.add j) = some u := by
    intro ad had j u hu
    rw [List.getElem?_map, Option.map_eq_some_iff] at hu
    obtain ⟨y, hy, rfl⟩ := hu
    have hjl : j < P.length := (List.getElem?_eq_some_iff.1 hy).1
    have hPl := hP.len
    obtain ⟨g1, o1, hao1, hg1, hc1⟩ := hP1.at'.resolve_left (by omega)
    rw [hao1] at had
    injection had with had
    subst had
    rw [plain_add, World.cell?_alloc_lt _ _ _ hg1]
    have := hc1 j y hy 0 _ rfl
    rw [Nat.mul_one, Nat.add_zero] at this
    exact this
  obtain ⟨i0, hi, hz0, hz1', hz2⟩ := info_parts info_int
  have HL := Lib.hid hP.len
  have HP := Lib.hid hP
  have HP1 := Lib.hid hp1
  have HHP1 := Lib.hid hP1
  clear hP hP1 hp hp1 hbx hb1
  go_upto_region 4 with (first
    | (at_builtin; (refine append_any rfl _ _ 37 rfl w1.heap.size 3 i0 (.int .i64 0) 1 8 Try.underlying37 hi hz0 hz1' hz2 rfl (by decide) _ pl _ rfl (k1.alloc _) (some ⟨w5.heap.size, 0, none⟩) 1 _ [.int .i64 77] rfl (fun e1 => by cases e1) rfl (fun ad had => by injection had with had; subst had; exact cell_one_new _ _ _) (ints_one [77]) (by unfold maxLen; omega) (by omega) (by simp; omega) ?_; intro v7 w7 j1 j2 j3; have h7 := below_row (below_new h5 _) (k1.alloc _) (Nat.le_refl _) j2; have j1' : w7.ownsRow w1.heap.size 3 1 v7 (pl + 1) ((P ++ [77]).map (Value.int .i64)) := by simpa using j1))
    | (at_builtin; (refine append_any rfl _ _ 37 rfl w1.heap.size 3 i0 (.int .i64 0) 1 8 Try.underlying37 hi hz0 hz1' hz2 rfl (by decide) (.slice (some ⟨w1.heap.size, 0, none⟩) 0 0) 0 [] rfl hmade pa pl pc (P.map (Value.int .i64)) rfl hao (by simpa using HL.out) hnews (ints_one P) (by unfold maxLen; omega) (by omega) (by simp) ?_; intro v5 w5 k1 k2 k3; have h5 := below_row (below_new (Below.refl _ _) _) hmade (Nat.le_refl _) k2; have s5 := h5.size; rw [Nat.zero_add, List.nil_append] at k1)))
  obtain ⟨g7, c7, rfl, hg7, hg7', hc7, hc7m, hcell7, hfr7⟩ := own_full j1' (by omega)
  have hp7 := HP1.out.below h7
  have z0 := (h7.cell (p := ⟨w.heap.size, 0, none⟩) (by simp; omega)).trans x0
  have z1 := (h7.cell (p := ⟨w.heap.size, 1, none⟩) (by simp; omega)).trans x1
  have z2 := (h7.cell (p := ⟨w.heap.size + 1, 0, none⟩) (by simp; omega)).trans x2
  have z3 := (h7.cell (p := ⟨w.heap.size + 1, 1, none⟩) (by simp; omega)).trans x3
  have hC7 : RowsAt 1 enc1 w7 (some ⟨g7, 0, none⟩) pl c7 P := ⟨HL.out, by omega, hc7m, fun e => (by cases e), .inr ⟨g7, 0, rfl, hg7', fun i x hx j u hu => by
    have hj : j = 0 := by have := (List.getElem?_eq_some_iff.1 hu).1; simp [enc1] at this; omega
    subst hj
    simp [enc1] at hu
    subst hu
    rw [Nat.mul_one, Nat.add_zero]
    exact hcell7 i x (by rw [List.getElem?_append_left (List.getElem?_eq_some_iff.1 hx).1]; exact hx)⟩⟩
  obtain ⟨Wy, hWy⟩ : ∃ Wy, followT S J P (sl + 1) [] a b = Wy := ⟨_, rfl⟩
  have K : ∀ x, Below w7.heap.size w7 x → Calls Try.prog 32 #[.slice sa sl sc, .slice ja jl jc, .int .i64 a, .int .i64 b, .slice (some ⟨g7, 0, none⟩) pl c7] x (fun e' w' => Steps x Wy e' w') := fun x hx => by
    have := follow_any S J P sa ja (some ⟨g7, 0, none⟩) sl sc jl jc pl c7 a b x (hp7.s.below hx) (hp7.j.below hx) (hC7.below hx) hlen
    rw [hWy] at this
    exact this
  have KS : ∀ x y, (Below w7.heap.size w7 x) → Below x.heap.size x y → Below w7.heap.size w7 y ∧ y.cell? ⟨w.heap.size, 0, none⟩ = some (.slice sa sl sc) ∧ y.cell? ⟨w.heap.size, 1, none⟩ = some (.slice ja jl jc) ∧ y.cell? ⟨w.heap.size + 1, 0, none⟩ = some (.int .i64 a) ∧ y.cell? ⟨w.heap.size + 1, 1, none⟩ = some (.int .i64 b) := fun x y hx hy => by
    have hb := below_step hx hy
    have hs : w.heap.size + 1 < w7.heap.size := World.block_lt_of_cell? _ _ z2
    exact ⟨hb, (hb.cell (p := ⟨w.heap.size, 0, none⟩) (by simp; omega)).trans z0, (hb.cell (p := ⟨w.heap.size, 1, none⟩) (by simp; omega)).trans z1, (hb.cell (p := ⟨w.heap.size + 1, 0, none⟩) (by simp; omega)).trans z2, (hb.cell (p := ⟨w.heap.size + 1, 1, none⟩) (by simp; omega)).trans z3⟩
  have S7 := KS w7 w7.drew (Below.refl _ _) (Below.refl _ _).drew
  have HK := Lib.hid K
  have HKS := Lib.hid KS
  have HWY := Lib.hid hWy
  have hw0 : (0 : Int) ≤ (pl : Int) := by omega
  have hw1 : (pl : Int) ≤ (c7 : Int) := by omega
  clear K KS hWy x0 x1 x2 x3 k1 k2 k3 j1 j2 j3 j1' hnews hao hmade h5 s5 hi hz0 hz1' hz2
  go_cut [8, 9] (fun s8 s9 wx => wx.ownsRow w7.heap.size 71 3 s8 Wy.length (flat Wy) ∧ wx.ownsRow w7.heap.size 71 3 s9 Wy.length (flat Wy) ∧ (∀ g, s8.ownBlock = some g → s9.ownBlock ≠ some g) ∧ Below w7.heap.size w7 wx)
  case first =>
    go_region_held3 (fun w' => Below w7.heap.size w7 w' ∧ w'.cell? ⟨w.heap.size, 0, none⟩ = some (.slice sa sl sc) ∧ w'.cell? ⟨w.heap.size, 1, none⟩ = some (.slice ja jl jc) ∧ w'.cell? ⟨w.heap.size + 1, 0, none⟩ = some (.int .i64 a) ∧ w'.cell? ⟨w.heap.size + 1, 1, none⟩ = some (.int .i64 b)) (first | exact S9 | exact S8 | exact S7) (first
      | (go_at_call 32; have q8 := S8.1; go_must (refine (HK.out _ S8.1).mono ?_; rintro e' w9 ⟨v9, rfl, hrow9, hb9⟩; have S9 := HKS.out _ _ S8.1 hb9))
      | (go_at_call 32; go_must (refine (HK.out _ S7.1).mono ?_; rintro e' w8 ⟨v8, rfl, hrow8, hb8⟩; have S8 := HKS.out _ _ S7.1 hb8)))
    · go_wp2
      go_meet
      have hA := hrow8.lt
      have hB := hrow9.lt
      have e8 := own_later hrow8 hb9
      have m8 := S7.1.size
      have m9 := S8.1.size
      exact ⟨own_mono e8 m8, own_mono hrow9 m9, fun g h1 h2 => by have := (hA g h1).2; have := (hB g h2).1; omega, S9.1⟩
  case rest =>
    obtain ⟨own8, own9, hne89, hb8⟩ := hcut
    obtain ⟨W8, rfl⟩ : ∃ W : World, W = wc := ⟨_, rfl⟩
    obtain ⟨a8, c8, rfl, hr8⟩ := own_rows own8 rfl
    obtain ⟨a9, c9, rfl, hr9⟩ := own_rows own9 rfl
    obtain ⟨N, hN⟩ : ∃ N, Wy.length = N := ⟨_, rfl⟩
    rw [hN] at own8 own9 hr8 hr9 hne89 ⊢
    have hNl : N ≤ sl + 1 := by
      have := follow_len (S := S) (J := J) (P := P) (sl + 1) [] a b
      rw [HWY.out, hN] at this
      simpa using this
    have hfull := (follow_full (S := S) (J := J) (P := P) (sl + 1) [] a b trivial (fun x r hr => by simp at hr) (by simp)).1
    obtain ⟨hlink, hin⟩ := follow_link (S := S) (J := J) (P := P) (sl + 1) [] a b (fun i x y hx => by simp at hx) (fun x hx => by simp at hx) (fun x hx => by simp at hx)
    rw [HWY.out] at hfull hlink hin
    have HND := Lib.hid hfull
    have HLK := Lib.hid hlink
    have HIN := Lib.hid hin
    have HN := Lib.hid hN
    clear hfull hlink hin hN
    have hbw8 := below_step (below_step hbw h7) hb8
    have x0 := (hb8.cell (p := ⟨w.heap.size, 0, none⟩) (World.block_lt_of_cell? _ _ z0)).trans z0
    have x1 := (hb8.cell (p := ⟨w.heap.size, 1, none⟩) (World.block_lt_of_cell? _ _ z1)).trans z1
    have x2 := (hb8.cell (p := ⟨w.heap.size + 1, 0, none⟩) (World.block_lt_of_cell? _ _ z2)).trans z2
    have x3 := (hb8.cell (p := ⟨w.heap.size + 1, 1, none⟩) (World.block_lt_of_cell? _ _ z3)).trans z3
    have hp8' := hp7.below hb8
    have hC8 := hC7.below hb8
    have hP8 := HP.out.below hbw8
    have hF := followR_any S J P sa ja pa sl sc jl jc pl pc a b W8 hp8'.s hp8'.j hP8 hlen
    rw [HWY.out] at hF
    have HF := Lib.hid hF
    clear z0 z1 z2 z3 hF
    go_upto_region 6 with (go_at_call 33; go_must (refine HF.out.mono ?_; rintro e' w10 ⟨v10, rfl, hrow10, hb10⟩; rw [HN.out] at hrow10; obtain ⟨a10, c10, rfl, hr10⟩ := own_rows hrow10 HN.out))
    have q77 : W8.cell? ⟨g7, pl, none⟩ = some (.int .i64 77) := (hb8.cell (p := ⟨g7, pl, none⟩) hg7').trans (by
      have := hcell7 pl 77 (by rw [← HL.out, List.getElem?_concat_length])
      rw [Nat.zero_add] at this
      exact this)
    have q77' := (hb10.cell (p := ⟨g7, pl, none⟩) (World.block_lt_of_cell? _ _ q77)).trans q77
    have hr8' := hr8.below hb10
    have own8l := own8.lt
    have hrow10lt := hrow10.lt
    have hs71 := h7.size
    have hr9' := hr9.below hb10
    have hC10 := hC8.below hb10
    have hP10 := hP8.below hb10
    have y1 := (hb10.cell (p := ⟨w.heap.size, 1, none⟩) (World.block_lt_of_cell? _ _ x1)).trans x1
    have hp10 := hp8'.j.below hb10
    have hSl := hp8'.s.len
    have own8' := own_later own8 hb10
    have own9' := own_later own9 hb10
    have hs810 := hb10.size
    have hs78 := hb8.size
    have hbw10 := below_step hbw8 hb10
    have hz10 : w.heap.size < w10.heap.size := World.block_lt_of_cell? _ _ y1
    have hs17 := h7.size
    have KSS := same_steps Wy a8 a10 N c8 c10 w10 hr8' hr10
    have KSI : ∀ x, Below w10.heap.size w10 x → Calls Try.prog 25 #[.slice (some ⟨g7, 0, none⟩) pl c7, .slice pa pl pc] x fun e w' => e = .returned (.bool true) ∧ Below x.heap.size x w' := fun x hx => same_ints P (some ⟨g7, 0, none⟩) pa pl c7 pc x (hC10.below hx) (hP10.below hx)
    have HSS := Lib.hid KSS
    have HSI := Lib.hid KSI
    have hm1 : (0 : Int) ≤ (pl : Int) := by omega
    have hm2 : (pl : Int) < (pl : Int) + 1 := by omega
    have hm3 : (pl : Int) ≤ (c7 : Int) := by omega
    have hmm := @run_makeMap Try.prog
    clear KSS KSI x0 x1 x2 x3 HF HK HKS hC8 hC7 hP8 hr8 hr9 own8 own9 q77 S7 HP1 HHP1 HP hcell7 hfr7 hb8 h7 hp8' hp7 hC10 hP10
    go_upto_region 9 with (first
      | (go_at_call 34; go_must (refine HSS.out.mono ?_; rintro e' w11 ⟨rfl, hb11⟩; have r77 := (hb11.cell (p := ⟨g7, pl, none⟩) (World.block_lt_of_cell? _ _ q77')).trans q77'))
      | (go_at_call 25; go_must (refine (HSI.out _ hb11).mono ?_; rintro e' w12 ⟨rfl, hb12⟩; have s77 := (hb12.cell (p := ⟨g7, pl, none⟩) (World.block_lt_of_cell? _ _ r77)).trans r77)))
    obtain ⟨B, hB⟩ : ∃ B, w12.heap.size = B := ⟨_, rfl⟩
    have hSn0 : Seen w12 B (w12.alloc (.map #[] 0)) [] := hB ▸ Seen.made w12
    have hb1012 := below_step hb11 hb12
    have t1 := (hb1012.cell (p := ⟨w.heap.size, 1, none⟩) hz10).trans y1
    have hr8c := hr8'.below hb1012
    have hp12 := hp10.below hb1012
    have HB := Lib.hid hB
    have hmax8 : N ≤ 9223372036854775807 := Nat.le_trans hr8'.le hr8'.max
    rw [hB]
    clear hB hmm s77 r77 q77' y1 HSS HSI hm1 hm2 hm3 hp10
    go_wp2
    go_loopg [85] N (fun m v wr => ∃ i : Nat, i + m = N ∧ v = .int .i64 i ∧ Seen w12 B wr (Wy.take i))
    case atStart => exact ⟨0, by omega, rfl, hSn0⟩
    case round =>
      obtain ⟨i, him, rfl, hS⟩ := hrel
      obtain ⟨W13, rfl⟩ : ∃ W : World, W = wr := ⟨_, rfl⟩
      have hbS : Below w12.heap.size w12 W13 := by have := hS.below; rw [← hS.size] at this; exact this
      by_cases hi : i < N
      · have hid : decide ((i : Int) < (N : Int)) = true := by simpa using hi
        have hi0 : (0 : Int) ≤ (i : Int) := by omega
        have hi1 : (i : Int) < (N : Int) := by omega
        have hr13 := hr8c.below hbS
        obtain ⟨g8, o8, x, rfl, hg8, hx, -, hc8⟩ := hr13.row hi
        obtain ⟨hns, htk⟩ := take_seen HND.out hx
        have hsr := HIN.out _ (List.mem_of_getElem? hx)
        have hnext : ∀ y, Wy[i - 1]? = some y → 0 < i → nextT J y.1 y.2.2 = some (x.1, x.2.1) := fun y hy h0 => (HLK.out (i - 1) y x hy (by rw [show i - 1 + 1 = i by omega]; exact hx)).1
        have hlast : x.2.2 = -1 → (i : Int) = (N : Int) - 1 := fun he => by
          by_cases h1 : i + 1 < N
          · obtain ⟨y, hy⟩ : ∃ y, Wy[i + 1]? = some y := ⟨_, List.getElem?_eq_getElem (by rw [HN.out]; exact h1)⟩
            exact absurd he (HLK.out i x y hx hy).2
          · omega
        obtain ⟨s, ii, e⟩ := x
        simp only at hns htk hsr hnext hlast
        have k0 := hc8 0 _ rfl
        have k1 := hc8 1 _ rfl
        have k2 := hc8 2 _ rfl
        rw [Nat.add_zero] at k0
        have hs64 : -9223372036854775808 ≤ s ∧ s ≤ 9223372036854775807 := by omega
        have v1 := (hbS.cell (p := ⟨w.heap.size, 1, none⟩) (World.block_lt_of_cell? _ _ t1)).trans t1
        have hBl := hS.lt
        have HNX := Lib.hid hnext
        have HR13 := Lib.hid hr13
        have htl : (Wy.take i).length = i := by rw [List.length_take, HN.out]; omega
        clear hnext hc8 hx hr13 t1
        go_upto_region 12 with (fail)
        obtain ⟨W14, hW14⟩ : ∃ W, W13.alloc (.cells #[.int .i64 s, .int .i64 ii, .int .i64 e] 71) = W := ⟨_, rfl⟩
        rw [hW14]
        have hb14 : Below W13.heap.size W13 W14 := hW14 ▸ below_new (Below.refl _ _) _
        have q0 : W14.cell? ⟨W13.heap.size, 0, none⟩ = some (.int .i64 s) := by rw [← hW14]; simp
        have q1 : W14.cell? ⟨W13.heap.size, 1, none⟩ = some (.int .i64 ii) := by rw [← hW14]; simp
        have q2 : W14.cell? ⟨W13.heap.size, 2, none⟩ = some (.int .i64 e) := by rw [← hW14]; simp
        have S14 := hS.later hb14
        have lk := S14.look0 hs64 hns
        obtain ⟨w15, hup, S15, hg15⟩ := S14.mark (i := ii) (e := e) hs64 (by rw [htl]; unfold maxLen; omega)
        rw [htk] at S15
        have lk1 := S15.look1 hs64 (by rw [← htk, seen_snoc]; simp)
        have hBne : W13.heap.size ≠ B := by omega
        have u0 := hg15.cell q0 (by simpa using hBne)
        have u1 := hg15.cell q1 (by simpa using hBne)
        have u2 := hg15.cell q2 (by simpa using hBne)
        have v15 := hg15.cell ((hb14.cell (p := ⟨w.heap.size, 1, none⟩) (World.block_lt_of_cell? _ _ v1)).trans v1) (by simp; have := hb1012.size; have := HB.out; omega)
        clear k0 k1 k2 q1 q2 v1 hW14 lk1
        have lk1 := S15.look1 hs64 (by rw [← htk, seen_snoc]; simp)
        clear hns htk hS S14
        go_upto_region 13 with (fail)
        clear lk hup hb14 hg15 q0
        have ho : ((e == -1) = false) ∨ ((e == -1) = true ∧ ((i : Int) != (N : Int) - 1) = false) := by
          by_cases he : e = -1
          · exact .inr ⟨by simpa using he, by simpa using hlast he⟩
          · exact .inl (by simpa using he)
        have hgw15 : w.heap.size < w15.heap.size := World.block_lt_of_cell? _ _ v15
        have hb15 : Below w12.heap.size w12 w15 := by have := S15.below; rw [← S15.size] at this; exact this
        by_cases h0 : i = 0
        · have z0 : ((i : Int) == 0) = true := by simpa using h0
          have hd : decide (i = 0) = true := by simpa using h0
          clear HNX HR13 hlast
          rcases ho with o1 | ⟨o1, o2⟩
          · go_wp2
            go_roundg (N - i - 1)
            case measure => omega
            case rel => exact ⟨i + 1, by omega, by go_num, S15⟩
          · go_wp2
            go_roundg (N - i - 1)
            case measure => omega
            case rel => exact ⟨i + 1, by omega, by go_num, S15⟩
        · have z0 : ((i : Int) == 0) = false := by simp; omega
          have hd : decide (i = 0) = false := by simpa using h0
          obtain ⟨K, hK⟩ : ∃ K, i - 1 = K := ⟨_, rfl⟩
          have hKI : (i : Int) - 1 = (K : Int) := by omega
          have hW75 : IntKind.i64.wrap ((i : Int) - 1) = (K : Int) := by rw [IntWalk.i64_in _ (by omega)]; omega
          have hKN : K < N := by omega
          have hK0 : (0 : Int) ≤ (K : Int) := by omega
          have hK1 : (K : Int) < (N : Int) := by omega
          obtain ⟨g1, o1', y, hgo, hg1, hy, -, hc1⟩ := (hr8c.below hb15).row hKN
          injection hgo with hgo
          injection hgo with hgo1 hgo2
          subst hgo1 hgo2
          have hnx := HNX.out y (by rw [hK]; exact hy) (by omega)
          obtain ⟨s', i', e'⟩ := y
          simp only at hnx
          have k0 := hc1 0 _ rfl
          have k2 := hc1 2 _ rfl
          rw [Nat.add_zero] at k0
          have KN := fun x : Later w15 => next_any ja jl jc J s' e' x.now ((hp12.below hb15).below x.is)
          rw [hnx] at KN
          have HKN := Lib.hid KN
          have e1 : (s == s) = true := by simp
          have e2 : (ii == ii) = true := by simp
          have hst : W13.heap.size < w15.heap.size := World.block_lt_of_cell? _ _ u0
          clear HNX HR13 hlast hc1 hy hK KN hnx hr8c
          rcases ho with o1 | ⟨o1, o2⟩
          · go_wp2
            refine wp_region_later (by kernel_rfl) (by kernel_rfl) ?_
            repeat (go_big_quiet_step ((go_at_call 30; exact later_of (HKN.out _))))
            refine wpQuiet_nil ?_
            intro w16 hb16
            have r0 := (hb16.cell (p := ⟨W13.heap.size, 0, none⟩) hst).trans u0
            have r1 := (hb16.cell (p := ⟨W13.heap.size, 1, none⟩) hst).trans u1
            go_wp2
            go_roundg (N - i - 1)
            case measure => omega
            case rel => exact ⟨i + 1, by omega, by go_num, S15.later hb16⟩
          · go_wp2
            refine wp_region_later (by kernel_rfl) (by kernel_rfl) ?_
            repeat (go_big_quiet_step ((go_at_call 30; exact later_of (HKN.out _))))
            refine wpQuiet_nil ?_
            intro w16 hb16
            have r0 := (hb16.cell (p := ⟨W13.heap.size, 0, none⟩) hst).trans u0
            have r1 := (hb16.cell (p := ⟨W13.heap.size, 1, none⟩) hst).trans u1
            go_wp2
            go_roundg (N - i - 1)
            case measure => omega
            case rel => exact ⟨i + 1, by omega, by go_num, S15.later hb16⟩
      · have hid : decide ((i : Int) < (N : Int)) = false := by simpa using hi
        have hbw13 := below_step (below_step hbw10 hb1012) hbS
        have o8 := own_later own8' (below_step hb1012 hbS)
        have o9 := own_later own9' (below_step hb1012 hbS)
        have o10 := own_later hrow10 (below_step hb1012 hbS)
        have hlt8 := own8l
        have hw13 : w10.heap.size ≤ W13.heap.size := Nat.le_trans hb1012.size hbS.size
        clear hr8c own8' own9' hrow10 hbS
        go_wp2
        clear hS hi him hid
        go_loopg [150] N (fun m v wr => ∃ i : Nat, i + m = N ∧ v = .int .i64 i ∧ ∃ xs, wr.ownsRow w7.heap.size 71 3 (.slice a8 N c8) N xs ∧ W13.grownBy wr (Value.slice a8 N c8).ownBlock)
        case atStart => exact ⟨0, by omega, rfl, _, o8, grown_refl' _ _⟩
        case round =>
          obtain ⟨i, him, rfl, xs, hown, hgr⟩ := hrel
          obtain ⟨W16, rfl⟩ : ∃ W : World, W = wr := ⟨_, rfl⟩
          by_cases hi : i < N
          · have hid : decide ((i : Int) < (N : Int)) = true := by simpa using hi
            have hi0 : (0 : Int) ≤ (i : Int) := by omega
            have hi1 : (i : Int) < (N : Int) := by omega
            obtain ⟨g, rfl⟩ : ∃ g, a8 = some ⟨g, 0, none⟩ := by
              rcases hown.2 with ⟨-, h0⟩ | ⟨g, cap, cur, hv, -⟩
              · omega
              · injection hv with h1
                exact ⟨g, h1⟩
            obtain ⟨xs', hown', hgr'⟩ := own_step (i := i) (u0 := .int .i64 (-1)) (u1 := .int .i64 0) (u2 := .int .i64 0) hown
            have hxl := hown.1
            have c0 := hown.cells (g := g) rfl (i * 3) _ (List.getElem?_eq_getElem (by omega))
            have c1 := hown.cells (g := g) rfl (i * 3 + 1) _ (List.getElem?_eq_getElem (by omega))
            have c2 := hown.cells (g := g) rfl (i * 3 + 2) _ (List.getElem?_eq_getElem (by omega))
            rw [plain_add, Nat.zero_add] at c0 c1 c2
            have f0 := hown.frozenAt (i * 3)
            have f1 := hown.frozenAt (i * 3 + 1)
            have f2 := hown.frozenAt (i * 3 + 2)
            go_wp2
            go_roundg (N - i - 1)
            case measure => omega
            case rel => exact ⟨i + 1, by omega, by go_num, xs', hown', grown_trans hgr hgr'⟩
          · have hid : decide ((i : Int) < (N : Int)) = false := by simpa using hi
            obtain ⟨i0', hi', hz0', hz1', hz2'⟩ := info_parts info_step
            have hgs := hgr.size
            have hW26 : IntKind.i64.wrap ((N : Int) + 1) = (N : Int) + 1 := by rw [IntWalk.i64_in _ (by omega)]
            have hee : ((N : Int) + 1 == (N : Int) + 1) = true := by simp
            have hown0 := hown
            have hbw16 : Below w.heap.size w W16 := hbw13.grown hgr hbw13.size (fun j hj => by have := (hlt8 j hj).1; have := hbw8.size; have := hbw.size; omega)
            have h9 : W16.ownsRow w7.heap.size 71 3 (.slice a9 N c9) N (flat Wy) := own_ne o9 (fun g h9 h8 => hne89 g h8 h9) hgr
            have h10 : W16.ownsRow W8.heap.size 71 3 (.slice a10 N c10) N (flat Wy) := own_ne o10 (fun g h10 h8 => by have := (hrow10lt g h10).1; have := (hlt8 g h8).2; omega) hgr
            have hk18 : ∀ w', W16.grownBy w' (Value.slice a8 N c8).ownBlock → Calls Try.prog 34 #[.slice a9 N c9, .slice a10 N c10] w' fun e w'' => e = .returned (.bool true) ∧ Below w'.heap.size w' w'' := fun w' hg => by
              have k9 := own_ne h9 (fun g h9 h8 => hne89 g h8 h9) hg
              have k10 := own_ne h10 (fun g h10 h8 => by have := (hrow10lt g h10).1; have := (hlt8 g h8).2; omega) hg
              obtain ⟨_, _, e9, r9⟩ := own_rows k9 HN.out
              obtain ⟨_, _, e10, r10⟩ := own_rows k10 HN.out
              injection e9 with e9a e9b e9c
              injection e10 with e10a e10b e10c
              subst e9a e9c e10a e10c
              exact same_steps Wy _ _ N _ _ w' r9 r10
            have HK18 := Lib.hid hk18
            clear hk18 h9 h10 hgr o8 o9 o10
            go_upto_region 26 with (at_builtin; (refine append_any rfl _ _ 72 rfl w7.heap.size 71 i0' (.agg #[.int .i64 0, .int .i64 0, .int .i64 0]) 3 24 Try.underlying72 hi' hz0' hz1' hz2' rfl (by decide) (.slice a8 N c8) N xs rfl (hown.alloc _) (some ⟨W16.heap.size, 0, none⟩) 1 1 [.int .i64 0, .int .i64 0, .int .i64 0] rfl (fun e1 => by cases e1) rfl (fun ad had => by injection had with had; subst had; exact news3 W16 _ _ _ _) (one3 0 0 0) (by unfold maxLen; omega) (by omega) (by simp; omega) ?_; intro v17 w17 j1 j2 j3))
            obtain ⟨a17, c17, rfl⟩ : ∃ a c, v17 = .slice a (N + 1) c := by
              rcases j1.2 with ⟨-, h0⟩ | ⟨g, cap, cur, hv, -⟩
              · omega
              · exact ⟨_, _, hv⟩
            have hg17 : W16.grownBy w17 (Value.slice a8 N c8).ownBlock := grown_trans (World.grownBy_alloc W16 _ _) j2
            have hbw17 : Below w.heap.size w w17 := hbw16.grown hg17 hbw16.size (fun j hj => by have := (hlt8 j hj).1; have := hbw8.size; have := hbw.size; omega)
            go_wp2_with (go_at_call 34; go_must (refine (HK18.out _ hg17).mono ?_; rintro e' w18 ⟨rfl, hb18⟩))
            go_ret
            exact ⟨rfl, below_step hbw17 hb18⟩
end Go.Proofs.Ytokldploloncgaa.topo

namespace Go.Proofs.Ytokldploloncgaa.topoFollows
open Go.ChangeShapes Go.WideShapes Go.ChangeAt Go.RowKit Go.Joins

set_option maxRecDepth 100000 in
theorem contract (H : Type) (enc : TypeId × Value → H) (W : World) (base : Nat) (args : Array Value) (ds gs : List (DataW H)) (before : List MemPlace)
    (hval0 : ∀ (j : Nat) t v, Try.f8.params[j]? = some t → args[j]? = some v → Value.okWide Try.prog W .any base t v)
    (hW : DataW.Whole enc Try.prog Try.f8.params.toList Rows.topoFollowsSpec.vars false W args.toList ds gs before)
    (hsz0 : (DataW.weightsEach Try.prog (Try.f8.params.toList ++ Rows.topoFollowsSpec.plain.varTypes Try.prog) (ds ++ gs)).all (· ≤ reachBytes) = true) :
    Calls Try.prog 8 args W fun e W' => e = .returned (.bool true) ∧ Below W.heap.size W W' := by
  have hval := hval0
  have hsz := hsz0
  clear hval0 hsz0
  obtain ⟨p, q, hA0, hV, _, _, _⟩ := hW
  have hA : DataW.TrodAll enc Try.prog W 0 (fun _ => true) true Try.f8.params.toList args.toList ds p := hA0
  obtain ⟨rfl, rfl⟩ := trodVars_none hV
  rw [Try.params8] at hA hval hsz
  obtain ⟨v0, vs0, d0, ds0, p0, q0, hargs, rfl, rfl, h0, r0⟩ := trodAll_cons hA
  obtain ⟨v1, vs1, d1, ds1, p1, q1, rfl, rfl, rfl, h1, r1⟩ := trodAll_cons r0
  obtain ⟨v2, vs2, d2, ds2, p2, q2, rfl, rfl, rfl, h2, r2⟩ := trodAll_cons r1
  obtain ⟨rfl, rfl, rfl⟩ := trodAll_nil r2
  have hargs' : args = #[v0, v1, v2] := by apply Array.ext'; rw [hargs]
  subst hargs'
  have ho := hval 0 _ v0 rfl rfl
  simp only [Value.okWide] at ho
  obtain ⟨cs, rfl, -, -⟩ := ho
  have hs : topo.shPlan.holds W 9223372036854775807 cs.toList := Sh.opened (by kernel_rfl) h0 hsz 0 rfl rfl _ (.inl rfl)
  obtain ⟨sa, sl, sc, ja, jl, jc, S, J, hcs, hp⟩ := topo.plan_of hs
  have hcs' : cs = #[.slice sa sl sc, .slice ja jl jc] := by apply Array.ext'; rw [hcs]
  subst hcs'
  have ho1 := hval 1 _ v1 rfl rfl
  simp only [Value.okWide] at ho1
  obtain ⟨cs1, rfl, -, -⟩ := ho1
  have hs1 : topo.shS.holds W 9223372036854775807 cs1.toList := Sh.opened (by kernel_rfl) h1 hsz 1 rfl rfl _ (.inl rfl)
  obtain ⟨a, b, c, rfl⟩ : ∃ a b c, cs1 = #[.int .i64 a, .int .i64 b, .int .i64 c] := by
    obtain ⟨c1, r1, e1, ⟨a, rfl, -⟩, c2, r2, rfl, ⟨b, rfl, -⟩, c3, r3, rfl, ⟨c, rfl, -⟩, rfl⟩ := hs1
    exact ⟨a, b, c, by apply Array.ext'; rw [e1]; rfl⟩
  have h3 : Sh.holds W 9223372036854775807 (.slice 8 .int) v2.cells.toList := Sh.opened (by kernel_rfl) h2 hsz 2 rfl rfl _ (.inl rfl)
  obtain ⟨pa, pl, pc, rfl⟩ : ∃ pa pl pc, v2 = .slice pa pl pc := by
    have ho2 := hval 2 _ v2 rfl rfl
    have hu : Try.prog.underlying 37 = some (.slice 3) := by kernel_rfl
    have h4 : Value.okWide Try.prog W .any base 37 v2 := ho2
    simp only [Value.okWide, hu] at h4
    cases v2 <;> first | exact ⟨_, _, _, rfl⟩ | exact absurd h4 id | exact h4.elim
  obtain ⟨P, hP, -, hP8, -⟩ := topo.ints_of h3
  exact topo.follows_any sa ja pa sl sc jl jc pl pc S J P a b c W hp hP hP8


set_option maxRecDepth 100000 in
theorem lifted (os : Os) (started : os.Started) (H : Type) (enc : TypeId × Value → H) :
    ReturnsInHanded {} Try.checked os 8 .any (Rows.topoFollowsSpec.pre6 enc Try.prog Try.f8 Rows.topoFollowsRow.domain false) (Rows.topoFollowsSpec.post enc Try.prog Try.f8 false true false false) := by
  refine returnsInHanded_of_change_sized (C := Try.checked) own started (by kernel_rfl) Try.func8
    (ChangeSpec.witness6 (enc := enc) (C := Try.checked) false ⟨#[], #[.agg #[.slice none 0 0, .slice none 0 0], .agg #[.int .i64 0, .int .i64 0, .int .i64 0], .slice none 0 0], []⟩ 8 (by kernel_rfl) (by kernel_rfl) (by kernel_rfl) (by kernel_rfl)) ?_
  intro W base args ds gs before hval hW _ hsz _
  have hW0 : DataW.Whole enc Try.prog Try.f8.params.toList Rows.topoFollowsSpec.vars false W args.toList ds gs before := hW
  refine (contract H enc W base args ds gs before hval hW hsz).mono fun e W' ⟨he, hb⟩ => ⟨_, he, post_law laidOut (by kernel_rfl) (by kernel_rfl : Try.prog.underlying 4 = some .bool) (by kernel_rfl) rfl hW0 ?_ hb⟩
  obtain ⟨p, q, hA0, _⟩ := hW0
  have hA : DataW.TrodAll enc Try.prog W 0 (fun _ => true) true Try.f8.params.toList args.toList ds p := hA0
  rw [Try.params8] at hA
  obtain ⟨v0, vs0, d0, ds0, p0, q0, hargs, rfl, rfl, h0, r0⟩ := trodAll_cons hA
  obtain ⟨v1, vs1, d1, ds1, p1, q1, rfl, rfl, rfl, h1, r1⟩ := trodAll_cons r0
  obtain ⟨v2, vs2, d2, ds2, p2, q2, rfl, rfl, rfl, h2, r2⟩ := trodAll_cons r1
  obtain ⟨rfl, rfl, rfl⟩ := trodAll_nil r2
  rfl

theorem holds : Rows.TopoFollowsSaid :=
  OpenClaim.holds_of_wide 8 Try.f8 rfl rfl rfl rfl rfl rfl rfl ⟨rfl, rfl, rfl, rfl, rfl⟩ rfl rfl rfl rfl rfl (by kernel_rfl) Try.func8 (by kernel_rfl)
    (of_decide_eq_true (by kernel_rfl)) (by unfold Func.isWrapper; first | (rw [if_pos (by decide +kernel)]; kernel_rfl) | (rw [if_neg (by decide +kernel)]; exact ⟨rfl, rfl⟩))
    (fun os started H enc _ => lifted os started H enc)
#print axioms holds
end Go.Proofs.Ytokldploloncgaa.topoFollows
