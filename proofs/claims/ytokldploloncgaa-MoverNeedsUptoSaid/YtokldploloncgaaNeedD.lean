/-
  Crossings of the program and of the reference; rows of needs that hold the same are the same.
-/
import Derived.Test.YtokldploloncgaaNeedC
namespace Go.Proofs.Ytokldploloncgaa.topo
open Go.RowKit

theorem news1 (W : World) (a : Value) (t : TypeId) : ∀ j u, [a][j]? = some u → (W.alloc (.cells #[a] t)).cell? ((⟨W.heap.size, 0, none⟩ : Addr).add j) = some u := by
  intro j u hu
  rw [plain_add, Nat.zero_add, cell_of_row _ _ j _ _ _ (heap_alloc_new W _)]
  simpa using hu
/-- What Crossings leaves. -/
def Crs (w : World) (L : List Int) (e : Ending) (w' : World) : Prop := ∃ v, e = .returned v ∧ w'.ownsRow w.heap.size 3 1 v L.length (L.map (Value.int .i64)) ∧ Below w.heap.size w w'

set_option maxRecDepth 100000 in
set_option maxHeartbeats 4000000 in
theorem crossings_any (P : List (Int × Int × Int)) (X : List Int) (sa : Option Addr) (sl sc : Nat) (v1 v2 : Value) (xa : Option Addr) (xl xc : Nat) (ra : Option Addr) (rl rc : Nat) (t0 t1 t2 t3 r : Int) (w : World)
    (en ex : Int) (pa : Option Addr) (pl pc : Nat) (fa : Option Addr) (fl fc : Nat) (oa : Option Addr) (ol oc : Nat) (sh k : Bool) (h : RouteAt w ra rl r en ex pa pl pc fa fl fc oa ol oc sh k)
    (hP : RowsAt 3 enc3 w pa pl pc P) (hX : RowsAt 1 enc1 w xa xl xc X) (hxs : xl ≤ 1048576) :
    Calls Try.prog 23 #[confV sa sl sc v1 v2 xa xl xc ra rl rc t0 t1 t2 t3, .int .i64 r] w fun e w' => Crs w (crossT P X xl) e w' := by
  have hPl := hP.len
  have hXl := hX.len
  have hb2 := below_new (Below.refl w.heap.size w) (.cells #[.slice sa sl sc, v1, v2, .slice xa xl xc, .slice ra rl rc, .int .i64 t0, .int .i64 t1, .int .i64 t2, .int .i64 t3] 50)
  have HRT := Lib.hid (route_any sa sl sc v1 v2 xa xl xc ra rl rc t0 t1 t2 t3 r _ en ex pa pl pc fa fl fc oa ol oc sh k (h.below hb2))
  have hmf : ∀ (fn : Fn) (first cap : Array Value) (w : World), (Instr.makeFunc fn first cap).run Try.prog w = .ok (.func fn first cap) w := fun _ _ _ _ => rfl
  go_enter Try.func23, Try.ntmps23
  go_upto_region 3 with (go_at_call 43; go_must (refine HRT.out.mono ?_; rintro e' w2 ⟨rfl, hb3⟩))
  have hbw2 := below_step hb2 hb3
  have b0 : w2.cell? ⟨w.heap.size, 3, none⟩ = some (.slice xa xl xc) := (hb3.cell (p := ⟨w.heap.size, 3, none⟩) (by simp)).trans (by simp)
  obtain ⟨W3, hW3⟩ : ∃ W3, w2.alloc (.cells #[.int .i64 en, .int .i64 ex, .slice pa pl pc, .slice fa fl fc, .slice oa ol oc, .bool sh] 87) = W3 := ⟨_, rfl⟩
  rw [hW3]
  have hb4 : Below w2.heap.size w2 W3 := hW3 ▸ below_new (Below.refl _ _) _
  have q2 : W3.cell? ⟨w2.heap.size, 2, none⟩ = some (.slice pa pl pc) := by rw [← hW3]; simp
  have q0 := (hb4.cell (p := ⟨w.heap.size, 3, none⟩) (World.block_lt_of_cell? _ _ b0)).trans b0
  have hbw3 := below_step hbw2 hb4
  have hP3 := hP.below hbw3
  have hX3 := hX.below hbw3
  clear hW3 hb4 b0 hbw2 hb2 hb3 HRT hP hX h
  go_wp2
  go_loopg [7, 19] xl (fun m v7 v19 wr => ∃ i : Nat, i + m = xl ∧ v19 = .int .i64 i ∧ wr.ownsRow W3.heap.size 3 1 v7 (crossT P X i).length ((crossT P X i).map (Value.int .i64)) ∧ Below W3.heap.size W3 wr)
  case atStart => exact ⟨0, by omega, rfl, World.ownsRow_nil _ _ _ _, Below.refl _ _⟩
  case round =>
    obtain ⟨i, him, rfl, hown, hbS⟩ := hrel
    obtain ⟨W4, rfl⟩ : ∃ W : World, W = wr := ⟨_, rfl⟩
    have r2 := (hbS.cell (p := ⟨w2.heap.size, 2, none⟩) (World.block_lt_of_cell? _ _ q2)).trans q2
    by_cases hi : i < xl
    · have hid : decide ((i : Int) < (xl : Int)) = true := by simpa using hi
      have i0 : (0 : Int) ≤ (i : Int) := by omega
      have i1 : (i : Int) < (xl : Int) := by omega
      obtain ⟨g, o, x, rfl, hg, hx, -, hc⟩ := (hX3.below hbS).row hi
      have hst := cross_step P X i
      rw [show X.getD i 0 = x by rw [List.getD_eq_getElem?_getD, hx]; rfl] at hst
      have k0 := hc 0 _ rfl
      rw [Nat.add_zero, Nat.mul_one] at k0
      have hnl := cross_len P X i
      obtain ⟨D, hD⟩ : ∃ D, crossT P X i = D := ⟨_, rfl⟩
      rw [hD] at hown hst hnl
      clear hc hx hD
      go_upto_region 6 with (fail)
      obtain ⟨W5, hW5⟩ : ∃ W5, W4.alloc (.cells #[.int .i64 x] 3) = W5 := ⟨_, rfl⟩
      rw [hW5]
      have hb5 : Below W4.heap.size W4 W5 := hW5 ▸ below_new (Below.refl _ _) _
      have p0 : W5.cell? ⟨W4.heap.size, 0, none⟩ = some (.int .i64 x) := by rw [← hW5]; simp
      have u2 := (hb5.cell (p := ⟨w2.heap.size, 2, none⟩) (World.block_lt_of_cell? _ _ r2)).trans r2
      have hown5 := own_later hown hb5
      have hbS5 := below_step hbS hb5
      have KC := contains_any P pa pl pc x W4.heap.size W5 (hP3.below hbS5) p0
      obtain ⟨q, hq⟩ : ∃ q, seenIn P x = q := ⟨_, rfl⟩
      rw [hq] at KC hst
      have HKC := Lib.hid KC
      clear hW5 k0 hown hb5 r2 KC hq
      cases q with
      | false =>
        have HX : Hid (crossT P X (i + 1) = D) := Lib.hid (by rw [hst]; simp)
        clear hst
        go_wp2_with (go_at_call 44; go_must (refine HKC.out.mono ?_; rintro e' w6 ⟨rfl, hb6⟩))
        go_roundg (xl - i - 1)
        case measure => omega
        case rel => exact ⟨i + 1, by omega, by go_num, by rw [HX.out]; exact own_later hown5 hb6, below_step hbS5 hb6⟩
      | true =>
        have HX : Hid (crossT P X (i + 1) = D ++ [(i : Int)]) := Lib.hid (by rw [hst]; simp)
        obtain ⟨i0', hi', hz0', hz1', hz2'⟩ := info_parts info_int
        have hs35 := hbS5.size
        clear hst
        go_wp2_with (first
          | (go_at_call 44; go_must (refine HKC.out.mono ?_; rintro e' w6 ⟨rfl, hb6⟩; have hown6 := own_later hown5 hb6; have hbS6 := below_step hbS5 hb6; have hs36 := hbS6.size))
          | (at_builtin; (refine append_any rfl _ _ 37 rfl W3.heap.size 3 i0' (.int .i64 0) 1 8 Try.underlying37 hi' hz0' hz1' hz2' rfl (by decide) _ D.length _ rfl (hown6.alloc _) (some ⟨w6.heap.size, 0, none⟩) 1 _ [.int .i64 (i : Int)] rfl (fun e1 => by cases e1) rfl (fun ad had => by injection had with had; subst had; exact news1 w6 _ _) (ints_one [(i : Int)]) (by unfold maxLen; omega) (by omega) (by simp; omega) ?_; intro v7 w7 j1 j2 j3; have h7 := (below_new hbS6 (.cells #[.int .i64 (i : Int)] 3)).grown j2 (by simp; omega) (fun j hj => by have := (hown6.lt j hj).1; omega))))
        go_roundg (xl - i - 1)
        case measure => omega
        case rel => exact ⟨i + 1, by omega, by go_num, by rw [HX.out, List.length_append, List.map_append]; exact j1, h7⟩
    · have hid : decide ((i : Int) < (xl : Int)) = false := by simpa using hi
      obtain rfl : i = xl := by omega
      go_wp2
      go_ret
      exact ⟨_, rfl, own_mono hown hbw3.size, below_step hbw3 hbS⟩

set_option maxRecDepth 100000 in
set_option maxHeartbeats 4000000 in
theorem crossingsR_any (P : List (Int × Int × Int)) (X : List Int) (sa : Option Addr) (sl sc : Nat) (v1 v2 : Value) (xa : Option Addr) (xl xc : Nat) (ra : Option Addr) (rl rc : Nat) (t0 t1 t2 t3 r : Int) (w : World)
    (en ex : Int) (pa : Option Addr) (pl pc : Nat) (fa : Option Addr) (fl fc : Nat) (oa : Option Addr) (ol oc : Nat) (sh k : Bool) (h : RouteAt w ra rl r en ex pa pl pc fa fl fc oa ol oc sh k)
    (hP : RowsAt 3 enc3 w pa pl pc P) (hX : RowsAt 1 enc1 w xa xl xc X) (hxs : xl ≤ 1048576) :
    Calls Try.prog 26 #[confV sa sl sc v1 v2 xa xl xc ra rl rc t0 t1 t2 t3, .int .i64 r] w fun e w' => Crs w (crossT P X xl) e w' := by
  have hPl := hP.len
  have hXl := hX.len
  have hple := hP.le
  have hpmax := hP.max
  have hb2 := below_new (Below.refl w.heap.size w) (.cells #[.slice sa sl sc, v1, v2, .slice xa xl xc, .slice ra rl rc, .int .i64 t0, .int .i64 t1, .int .i64 t2, .int .i64 t3] 50)
  rcases h.is with ⟨h1, rfl, rfl, rfl, ⟨rfl, rfl, rfl⟩, ⟨rfl, rfl, rfl⟩, ⟨rfl, rfl, rfl⟩, rfl⟩ | ⟨rfl, nr, rfl, h3, rb, ro, rfl, hrb, h6⟩
  · have hPn : P = [] := List.eq_nil_of_length_eq_zero hPl
    subst hPn
    have hnone : crossT [] X xl = [] := by
      unfold crossT
      rw [List.filter_eq_nil_iff.2 (fun j _ => by simp [seenIn])]
      rfl
    rw [hnone]
    by_cases h2 : r < 0
    · have d1 : decide (r < 0) = true := by simpa using h2
      go_enter Try.func26, Try.ntmps26
      go_wp2
      go_ret
      exact ⟨_, rfl, World.ownsRow_nil _ _ _ _, hb2⟩
    · have d1 : decide (r < 0) = false := by simpa using h2
      have d2 : decide ((rl : Int) ≤ r) = true := by simp; omega
      go_enter Try.func26, Try.ntmps26
      go_wp2
      go_ret
      exact ⟨_, rfl, World.ownsRow_nil _ _ _ _, hb2⟩
  have d1 : decide ((nr : Int) < 0) = false := by simp
  have d2 : decide ((rl : Int) ≤ (nr : Int)) = false := by simp; omega
  have d3 : decide (rl ≤ nr) = false := by simp; omega
  have i1 : (0 : Int) ≤ (nr : Int) := by omega
  have i2 : (nr : Int) < (rl : Int) := by omega
  go_enter Try.func26, Try.ntmps26
  go_upto_region 3 with (fail)
  obtain ⟨W3, hW3⟩ : ∃ W3, w.alloc (.cells #[.slice sa sl sc, v1, v2, .slice xa xl xc, .slice (some ⟨rb, ro, none⟩) rl rc, .int .i64 t0, .int .i64 t1, .int .i64 t2, .int .i64 t3] 50) = W3 := ⟨_, rfl⟩
  rw [hW3] at hb2 ⊢
  have hbw3 := hb2
  have q0 : W3.cell? ⟨w.heap.size, 3, none⟩ = some (.slice xa xl xc) := by rw [← hW3]; simp
  have q4 : W3.cell? ⟨w.heap.size, 4, none⟩ = some (.slice (some ⟨rb, ro, none⟩) rl rc) := by rw [← hW3]; simp
  have h6' := h6.below hbw3
  have q2 := h6'.c2
  have hP3 := hP.below hbw3
  have hX3 := hX.below hbw3
  clear hW3 hb2 hP hX h h6 h6'
  go_wp2
  go_loopg [5, 22] xl (fun m v7 v19 wr => ∃ i : Nat, i + m = xl ∧ v19 = .int .i64 i ∧ wr.ownsRow W3.heap.size 3 1 v7 (crossT P X i).length ((crossT P X i).map (Value.int .i64)) ∧ Below W3.heap.size W3 wr)
  case atStart => exact ⟨0, by omega, rfl, World.ownsRow_nil _ _ _ _, Below.refl _ _⟩
  case round =>
    obtain ⟨i, him, rfl, hown, hbS⟩ := hrel
    obtain ⟨W4, rfl⟩ : ∃ W : World, W = wr := ⟨_, rfl⟩
    have r2 := (hbS.cell (p := ⟨rb, ro + nr * 6 + 2, none⟩) (World.block_lt_of_cell? _ _ q2)).trans q2
    have r4 := (hbS.cell (p := ⟨w.heap.size, 4, none⟩) (World.block_lt_of_cell? _ _ q4)).trans q4
    by_cases hi : i < xl
    · have hid : decide ((i : Int) < (xl : Int)) = true := by simpa using hi
      have i0 : (0 : Int) ≤ (i : Int) := by omega
      have i1' : (i : Int) < (xl : Int) := by omega
      obtain ⟨g, o, x, rfl, hg, hx, -, hc⟩ := (hX3.below hbS).row hi
      have hst := cross_step P X i
      rw [show X.getD i 0 = x by rw [List.getD_eq_getElem?_getD, hx]; rfl] at hst
      have k0 := hc 0 _ rfl
      rw [Nat.add_zero, Nat.mul_one] at k0
      have hnl := cross_len P X i
      obtain ⟨D, hD⟩ : ∃ D, crossT P X i = D := ⟨_, rfl⟩
      rw [hD] at hown hst hnl
      have HST := Lib.hid hst
      have HD := Lib.hid hD
      clear hc hx hst
      go_wp2
      go_loopg [5, 34] pl (fun m v5 c wr => ∃ j : Nat, j + m = pl ∧ c = .int .i64 j ∧ wr.ownsRow W3.heap.size 3 1 v5 D.length (D.map (Value.int .i64)) ∧ Below W4.heap.size W4 wr ∧ Hid (seenIn (P.take j) x = false))
      case atStart => exact ⟨0, by omega, rfl, hown, Below.refl _ _, Lib.hid rfl⟩
      case round =>
        clear hown
        obtain ⟨j, hjm, rfl, hown5, hb5, HS⟩ := hrel
        obtain ⟨W5, rfl⟩ : ∃ W : World, W = wr := ⟨_, rfl⟩
        by_cases hj : j < pl
        · have hjd : decide ((j : Int) < (pl : Int)) = true := by simpa using hj
          have hj0 : (0 : Int) ≤ (j : Int) := by omega
          have hjl : (j : Int) < pl := by omega
          obtain ⟨g1, o1, y, rfl, hg1, hy, -, hcy⟩ := (hP3.below (below_step hbS hb5)).row hj
          obtain ⟨a, b, c⟩ := y
          have m0 := hcy 0 _ rfl
          have m1 := hcy 1 _ rfl
          have m2 := hcy 2 _ rfl
          rw [Nat.add_zero] at m0
          obtain ⟨q, hq⟩ : ∃ q, (a == x) = q := ⟨_, rfl⟩
          have hbS5 := below_step hbS hb5
          have hs35 := hbS5.size
          have hs45 := hb5.size
          cases q with
          | true =>
            have HX : Hid (crossT P X (i + 1) = D ++ [(i : Int)]) := Lib.hid (by
              have : seenIn P x = true := by
                rw [seenIn, List.any_eq_true]
                exact ⟨_, List.mem_of_getElem? hy, hq⟩
              rw [HST.out, this]
              simp)
            obtain ⟨i0', hi', hz0', hz1', hz2'⟩ := info_parts info_int
            clear hy hcy
            go_upto_region 10 with (fail)
            obtain ⟨W6, hW6⟩ : ∃ W6, W5.alloc (.cells #[.int .i64 a, .int .i64 b, .int .i64 c] 71) = W6 := ⟨_, rfl⟩
            rw [hW6]
            have hb6 : Below W5.heap.size W5 W6 := hW6 ▸ below_new (Below.refl _ _) _
            have p0 : W6.cell? ⟨W5.heap.size, 0, none⟩ = some (.int .i64 a) := by rw [← hW6]; simp
            have hown6 := own_later hown5 hb6
            have hbS6 := below_step hbS5 hb6
            have hs36 := hbS6.size
            clear hW6 hown5 hb6 m0 m1 m2
            go_wp2_with (at_builtin; (refine append_any rfl _ _ 37 rfl W3.heap.size 3 i0' (.int .i64 0) 1 8 Try.underlying37 hi' hz0' hz1' hz2' rfl (by decide) _ D.length _ rfl (hown6.alloc _) (some ⟨W6.heap.size, 0, none⟩) 1 _ [.int .i64 (i : Int)] rfl (fun e1 => by cases e1) rfl (fun ad had => by injection had with had; subst had; exact news1 W6 _ _) (ints_one [(i : Int)]) (by unfold maxLen; omega) (by omega) (by simp; omega) ?_; intro v7 w7 j1 j2 j3; have h7 := (below_new hbS6 (.cells #[.int .i64 (i : Int)] 3)).grown j2 (by simp; omega) (fun j hj => by have := (hown6.lt j hj).1; omega)))
            go_roundg (xl - i - 1)
            case measure => omega
            case rel => exact ⟨i + 1, by omega, by go_num, by rw [HX.out, List.length_append, List.map_append]; exact j1, h7⟩
          | false =>
            have HF : Hid (seenIn (P.take (j + 1)) x = false) := Lib.hid (by
              rw [List.take_add_one, hy]
              show seenIn (P.take j ++ [(a, b, c)]) x = false
              rw [seen_snoc, HS.out, hq]
              rfl)
            clear hy hcy
            go_wp2
            go_roundg (pl - j - 1)
            case measure => omega
            case rel => exact ⟨j + 1, by omega, by go_num, hown5.alloc _, below_new hb5 _, HF⟩
        · have hjd : decide ((j : Int) < (pl : Int)) = false := by simpa using hj
          have HX : Hid (crossT P X (i + 1) = D) := Lib.hid (by
            have : seenIn P x = false := by have := HS.out; rw [List.take_of_length_le (by omega)] at this; exact this
            rw [HST.out, this]
            simp)
          go_wp2
          go_roundg (xl - i - 1)
          case measure => omega
          case rel => exact ⟨i + 1, by omega, by go_num, by rw [HX.out]; exact hown5, below_step hbS hb5⟩
    · have hid : decide ((i : Int) < (xl : Int)) = false := by simpa using hi
      obtain rfl : i = xl := by omega
      go_wp2
      go_ret
      exact ⟨_, rfl, own_mono hown hbw3.size, below_step hbw3 hbS⟩
end Go.Proofs.Ytokldploloncgaa.topo
