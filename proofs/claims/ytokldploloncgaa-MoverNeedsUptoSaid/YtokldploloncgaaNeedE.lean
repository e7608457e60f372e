/-
  MoverNeeds: what it does with any configuration and number, of at most 1048576 in each list.
-/
import Derived.Test.YtokldploloncgaaNeedD
import Derived.Test.YtokldploloncgaaTopoV
import Derived.Test.YtokldploloncgaaMoverLives
import Derived.Deep.RegionHeld3
namespace Go.Proofs.Ytokldploloncgaa.topo
open Go.RowKit

theorem own_slice {w : World} {B e s n : Nat} {v : Value} {xs : List Value} (h : w.ownsRow B e s v n xs) : ∃ a c, v = .slice a n c := by
  rcases h.2 with ⟨hv, h0⟩ | ⟨g, cap, cur, hv, -⟩
  · exact ⟨none, 0, by rw [hv, h0]⟩
  · exact ⟨_, _, hv⟩
theorem own_rowsG {α : Type} {m : Nat} {enc : α → List Value} (hm : ∀ x, (enc x).length = m) {w : World} {B t n : Nat} {a : Option Addr} {c : Nat} {L : List α} (h : w.ownsRow B t m (.slice a n c) n (L.flatMap enc)) (hn : L.length = n) : RowsAt m enc w a n c L := by
  rcases h.2 with ⟨hv, h0⟩ | ⟨g, cap, cur, hv, hb, hg, h1, h2, h3, h4⟩
  · injection hv with e1 e2 e3
    subst e1 e3
    exact ⟨hn, by omega, by omega, fun _ => rfl, .inl h0⟩
  · have hv' := hv
    injection hv with e1 e2 e3
    subst e1 e3
    refine ⟨hn, h1, by unfold maxLen at h2; omega, fun e => (by cases e), ?_⟩
    refine .inr ⟨g, 0, rfl, lt_size hg, fun i x hx j u hu => ?_⟩
    have := h.cells (g := g) rfl (i * m + j) u (flatG_get hm L i x hx j u hu)
    rw [plain_add] at this
    rw [Nat.add_assoc]
    exact this
theorem map_flat (L : List Int) : L.map (Value.int .i64) = L.flatMap enc1 := by
  induction L with
  | nil => rfl
  | cons x r ih => rw [List.map_cons, List.flatMap_cons, ih]; rfl
theorem enc1_len (x : Int) : (enc1 x).length = 1 := rfl
/-- A pair is written over. -/
theorem own_pair {w : World} {t B g n c : Nat} {xs : List Value} {i : Nat} {u0 u1 : Value} (h : w.ownsRow B t 2 (.slice (some ⟨g, 0, none⟩) n c) n xs) :
    ∃ xs', ((w.setCell ⟨g, i * 2, none⟩ u0).setCell ⟨g, i * 2 + 1, none⟩ u1).ownsRow B t 2 (.slice (some ⟨g, 0, none⟩) n c) n xs' ∧ w.grownBy ((w.setCell ⟨g, i * 2, none⟩ u0).setCell ⟨g, i * 2 + 1, none⟩ u1) (some g) := by
  obtain ⟨h1, k1⟩ := h.stored (i * 2) u0
  obtain ⟨h2, k2⟩ := h1.stored (i * 2 + 1) u1
  exact ⟨_, h2, grown_trans k1 k2⟩

theorem same_needs (L : List (Int × Int)) (a1 a2 : Option Addr) (n c1 c2 : Nat) (w : World) (k1 : RowsAt 2 enc2 w a1 n c1 L) (k2 : RowsAt 2 enc2 w a2 n c2 L) :
    Calls Try.prog 24 #[.slice a1 n c1, .slice a2 n c2] w fun e w' => e = .returned (.bool true) ∧ Below w.heap.size w w' := by
  have hn : n ≤ 9223372036854775807 := Nat.le_trans k1.le k1.max
  go_enter Try.func24, Try.ntmps24
  go_wp2
  go_loopg [13] n (fun m v wr => ∃ k : Nat, k + m = n ∧ v = .int .i64 k ∧ Below w.heap.size w wr)
  case atStart => exact ⟨0, by omega, rfl, Below.refl _ _⟩
  case round =>
    obtain ⟨k, hk, rfl, hb⟩ := hrel
    by_cases hlt : k < n
    · obtain ⟨g1, o1, x, rfl, q1, h1, -, r1⟩ := (k1.below hb).row hlt
      obtain ⟨g2, o2, y, rfl, q2, h2, -, r2⟩ := (k2.below hb).row hlt
      obtain rfl : x = y := by rw [h1] at h2; injection h2
      obtain ⟨a, b⟩ := x
      have y1 := r1 0 _ rfl
      have y2 := r1 1 _ rfl
      have y4 := r2 0 _ rfl
      have y5 := r2 1 _ rfl
      rw [Nat.add_zero] at y1 y4
      have hkd : decide ((k : Int) < (n : Int)) = true := by simpa using hlt
      have z0 : (0 : Int) ≤ k := by omega
      have z1 : (k : Int) < n := by omega
      clear h1 h2 r1 r2 k1 k2
      go_wp2
      refine wp_region_later (by kernel_rfl) (by kernel_rfl) ?_
      repeat (go_big_quiet_step (fail))
      refine wpQuiet_nil ?_
      intro w1 hb1
      go_wp2
      go_roundg (n - k - 1)
      case measure => omega
      case rel => exact ⟨k + 1, by omega, by go_num, below_step hb hb1⟩
    · have hkd : decide ((k : Int) < (n : Int)) = false := by simpa using hlt
      go_wp2
      go_ret
      exact ⟨rfl, hb⟩

/-- The nine cells of a configuration in its box. -/
structure Nine (w : World) (b : Nat) (s v1 v2 x r : Value) (t0 t1 t2 t3 : Int) : Prop where
  c0 : w.cell? ⟨b, 0, none⟩ = some s
  c1 : w.cell? ⟨b, 1, none⟩ = some v1
  c2 : w.cell? ⟨b, 2, none⟩ = some v2
  c3 : w.cell? ⟨b, 3, none⟩ = some x
  c4 : w.cell? ⟨b, 4, none⟩ = some r
  c5 : w.cell? ⟨b, 5, none⟩ = some (.int .i64 t0)
  c6 : w.cell? ⟨b, 6, none⟩ = some (.int .i64 t1)
  c7 : w.cell? ⟨b, 7, none⟩ = some (.int .i64 t2)
  c8 : w.cell? ⟨b, 8, none⟩ = some (.int .i64 t3)
theorem Nine.kept {w w' : World} {b B : Nat} {s v1 v2 x r : Value} {t0 t1 t2 t3 : Int} (h : Nine w b s v1 v2 x r t0 t1 t2 t3) (hb : Below B w w') (hB : b < B) : Nine w' b s v1 v2 x r t0 t1 t2 t3 :=
  ⟨(hb.cell (p := ⟨b, 0, none⟩) hB).trans h.c0, (hb.cell (p := ⟨b, 1, none⟩) hB).trans h.c1, (hb.cell (p := ⟨b, 2, none⟩) hB).trans h.c2, (hb.cell (p := ⟨b, 3, none⟩) hB).trans h.c3, (hb.cell (p := ⟨b, 4, none⟩) hB).trans h.c4,
    (hb.cell (p := ⟨b, 5, none⟩) hB).trans h.c5, (hb.cell (p := ⟨b, 6, none⟩) hB).trans h.c6, (hb.cell (p := ⟨b, 7, none⟩) hB).trans h.c7, (hb.cell (p := ⟨b, 8, none⟩) hB).trans h.c8⟩

set_option maxRecDepth 100000 in
set_option maxHeartbeats 4000000 in
theorem needsLaw_any (S P : List (Int × Int × Int)) (F : List (Int × Int)) (X : List Int) (sa : Option Addr) (sl sc : Nat) (da : Option Addr) (dl dc : Nat) (ga : Option Addr) (gl gc : Nat) (xa : Option Addr) (xl xc : Nat) (ra : Option Addr) (rl rc : Nat) (t0 t1 t2 t3 r : Int) (w : World)
    (en ex : Int) (pa : Option Addr) (pl pc : Nat) (fa : Option Addr) (fl fc : Nat) (oa : Option Addr) (ol oc : Nat) (sh k : Bool) (h : RouteAt w ra rl r en ex pa pl pc fa fl fc oa ol oc sh k)
    (hS : RowsAt 3 enc3 w sa sl sc S) (hP : RowsAt 3 enc3 w pa pl pc P) (hF : RowsAt 2 enc2 w fa fl fc F) (hX : RowsAt 1 enc1 w xa xl xc X) (hps : pl ≤ 1048576) (hfs : fl ≤ 1048576) (hxs : xl ≤ 1048576) :
    Calls Try.prog 6 #[confV sa sl sc (.slice da dl dc) (.slice ga gl gc) xa xl xc ra rl rc t0 t1 t2 t3, .int .i64 r] w fun e w' => e = .returned (.bool true) ∧ Below w.heap.size w w' := by
  go_enter Try.func6, Try.ntmps6
  go_upto_region 3 with (go_at_call 14; refine (mover.lives_any _).mono ?_; rintro e' w1 ⟨rfl, hb1⟩)
  have hbx := below_new (Below.refl w.heap.size w) (.cells #[.slice sa sl sc, .slice da dl dc, .slice ga gl gc, .slice xa xl xc, .slice ra rl rc, .int .i64 t0, .int .i64 t1, .int .i64 t2, .int .i64 t3] 50)
  have N0 : Nine (w.alloc (.cells #[.slice sa sl sc, .slice da dl dc, .slice ga gl gc, .slice xa xl xc, .slice ra rl rc, .int .i64 t0, .int .i64 t1, .int .i64 t2, .int .i64 t3] 50)) w.heap.size (.slice sa sl sc) (.slice da dl dc) (.slice ga gl gc) (.slice xa xl xc) (.slice ra rl rc) t0 t1 t2 t3 := by
    constructor <;> simp
  have N1 := N0.kept hb1 (by simp)
  have hbw := below_step hbx hb1
  have hg1 : w.heap.size < w1.heap.size := World.block_lt_of_cell? _ _ N1.c0
  obtain ⟨LL, hLL⟩ : ∃ LL, needsT S P ++ F = LL := ⟨_, rfl⟩
  obtain ⟨N, hN⟩ : ∃ N, LL.length = N := ⟨_, rfl⟩
  obtain ⟨CC, hCC⟩ : ∃ CC, crossT P X xl = CC := ⟨_, rfl⟩
  obtain ⟨M, hM⟩ : ∃ M, CC.length = M := ⟨_, rfl⟩
  have hNl : N ≤ 2097152 := by
    have h1 := needs_len S P
    have h2 := hP.len
    have h3 := hF.len
    rw [← hN, ← hLL, List.length_append]
    omega
  have hMl : M ≤ 1048576 := by
    have := cross_len P X xl
    rw [hCC, hM] at this
    omega
  have K1 : ∀ x, Below w1.heap.size w1 x → Calls Try.prog 21 #[.agg #[.slice sa sl sc, .slice da dl dc, .slice ga gl gc, .slice xa xl xc, .slice ra rl rc, .int .i64 t0, .int .i64 t1, .int .i64 t2, .int .i64 t3], .int .i64 r] x fun e w' => ∃ v, e = .returned v ∧ w'.ownsRow x.heap.size 55 2 v N (LL.flatMap enc2) ∧ Below x.heap.size x w' := fun x hx => by
    have hb := below_step hbw hx
    have := needs_any S P F sa sl sc (.slice da dl dc) (.slice ga gl gc) xa xl xc ra rl rc t0 t1 t2 t3 r x en ex pa pl pc fa fl fc oa ol oc sh k (h.below hb) (hS.below hb) (hP.below hb) (hF.below hb) hps hfs
    rw [hLL] at this
    unfold Nds at this
    rw [hN] at this
    exact this
  have K2 : ∀ x, Below w1.heap.size w1 x → Calls Try.prog 22 #[.agg #[.slice sa sl sc, .slice da dl dc, .slice ga gl gc, .slice xa xl xc, .slice ra rl rc, .int .i64 t0, .int .i64 t1, .int .i64 t2, .int .i64 t3], .int .i64 r] x fun e w' => ∃ v, e = .returned v ∧ w'.ownsRow x.heap.size 55 2 v N (LL.flatMap enc2) ∧ Below x.heap.size x w' := fun x hx => by
    have hb := below_step hbw hx
    have := needsR_any S P F sa sl sc (.slice da dl dc) (.slice ga gl gc) xa xl xc ra rl rc t0 t1 t2 t3 r x en ex pa pl pc fa fl fc oa ol oc sh k (h.below hb) (hS.below hb) (hP.below hb) (hF.below hb) hps hfs
    rw [hLL] at this
    unfold Nds at this
    rw [hN] at this
    exact this
  have K3 : ∀ x, Below w1.heap.size w1 x → Calls Try.prog 23 #[.agg #[.slice sa sl sc, .slice da dl dc, .slice ga gl gc, .slice xa xl xc, .slice ra rl rc, .int .i64 t0, .int .i64 t1, .int .i64 t2, .int .i64 t3], .int .i64 r] x fun e w' => ∃ v, e = .returned v ∧ w'.ownsRow x.heap.size 3 1 v M (CC.flatMap enc1) ∧ Below x.heap.size x w' := fun x hx => by
    have hb := below_step hbw hx
    have := crossings_any P X sa sl sc (.slice da dl dc) (.slice ga gl gc) xa xl xc ra rl rc t0 t1 t2 t3 r x en ex pa pl pc fa fl fc oa ol oc sh k (h.below hb) (hP.below hb) (hX.below hb) hxs
    rw [hCC] at this
    unfold Crs at this
    rw [hM, map_flat] at this
    exact this
  have K4 : ∀ x, Below w1.heap.size w1 x → Calls Try.prog 26 #[.agg #[.slice sa sl sc, .slice da dl dc, .slice ga gl gc, .slice xa xl xc, .slice ra rl rc, .int .i64 t0, .int .i64 t1, .int .i64 t2, .int .i64 t3], .int .i64 r] x fun e w' => ∃ v, e = .returned v ∧ w'.ownsRow x.heap.size 3 1 v M (CC.flatMap enc1) ∧ Below x.heap.size x w' := fun x hx => by
    have hb := below_step hbw hx
    have := crossingsR_any P X sa sl sc (.slice da dl dc) (.slice ga gl gc) xa xl xc ra rl rc t0 t1 t2 t3 r x en ex pa pl pc fa fl fc oa ol oc sh k (h.below hb) (hP.below hb) (hX.below hb) hxs
    rw [hCC] at this
    unfold Crs at this
    rw [hM, map_flat] at this
    exact this
  have KS : ∀ x y, Below w1.heap.size w1 x → Below x.heap.size x y → Below w1.heap.size w1 y ∧ y.cell? ⟨w.heap.size, 0, none⟩ = some (.slice sa sl sc) ∧ y.cell? ⟨w.heap.size, 1, none⟩ = some (.slice da dl dc) ∧ y.cell? ⟨w.heap.size, 2, none⟩ = some (.slice ga gl gc) ∧ y.cell? ⟨w.heap.size, 3, none⟩ = some (.slice xa xl xc) ∧ y.cell? ⟨w.heap.size, 4, none⟩ = some (.slice ra rl rc) ∧ y.cell? ⟨w.heap.size, 5, none⟩ = some (.int .i64 t0) ∧ y.cell? ⟨w.heap.size, 6, none⟩ = some (.int .i64 t1) ∧ y.cell? ⟨w.heap.size, 7, none⟩ = some (.int .i64 t2) ∧ y.cell? ⟨w.heap.size, 8, none⟩ = some (.int .i64 t3) := fun x y hx hy => by
    have hb := below_step hx hy
    have n := N1.kept hb hg1
    exact ⟨hb, n.c0, n.c1, n.c2, n.c3, n.c4, n.c5, n.c6, n.c7, n.c8⟩
  have S1 := KS w1 w1.drew (Below.refl _ _) (Below.refl _ _).drew
  have HK1 := Lib.hid K1
  have HK2 := Lib.hid K2
  have HK3 := Lib.hid K3
  have HK4 := Lib.hid K4
  have HKS := Lib.hid KS
  have HN := Lib.hid hN
  have HM := Lib.hid hM
  have HN1 := Lib.hid N1
  clear K1 K2 K3 K4 KS hS hP hF hX h hLL hN hCC hM N0 hb1 hbx N1
  go_region_held3 (fun w' => Below w1.heap.size w1 w' ∧ w'.cell? ⟨w.heap.size, 0, none⟩ = some (.slice sa sl sc) ∧ w'.cell? ⟨w.heap.size, 1, none⟩ = some (.slice da dl dc) ∧ w'.cell? ⟨w.heap.size, 2, none⟩ = some (.slice ga gl gc) ∧ w'.cell? ⟨w.heap.size, 3, none⟩ = some (.slice xa xl xc) ∧ w'.cell? ⟨w.heap.size, 4, none⟩ = some (.slice ra rl rc) ∧ w'.cell? ⟨w.heap.size, 5, none⟩ = some (.int .i64 t0) ∧ w'.cell? ⟨w.heap.size, 6, none⟩ = some (.int .i64 t1) ∧ w'.cell? ⟨w.heap.size, 7, none⟩ = some (.int .i64 t2) ∧ w'.cell? ⟨w.heap.size, 8, none⟩ = some (.int .i64 t3)) (first | exact S4 | exact S3 | exact S2 | exact S1) (first
    | (go_at_call 22; have q3 := S3.1; go_must (refine (HK2.out _ S3.1).mono ?_; rintro e' w4 ⟨v4, rfl, hrow4, hb4⟩; have S4 := HKS.out _ _ S3.1 hb4; obtain ⟨a4, c4, rfl⟩ := own_slice hrow4))
    | (go_at_call 21; have q2 := S2.1; go_must (refine (HK1.out _ S2.1).mono ?_; rintro e' w3 ⟨v3, rfl, hrow3, hb3⟩; have S3 := HKS.out _ _ S2.1 hb3; obtain ⟨a3, c3, rfl⟩ := own_slice hrow3))
    | (go_at_call 21; go_must (refine (HK1.out _ S1.1).mono ?_; rintro e' w2 ⟨v2, rfl, hrow2, hb2⟩; have S2 := HKS.out _ _ S1.1 hb2; obtain ⟨a2, c2, rfl⟩ := own_slice hrow2)))
  go_wp2
  have T4 := HKS.out w4 w4.drew S4.1 ((Below.refl _ _).drew)
  go_region_held3 (fun w' => Below w1.heap.size w1 w' ∧ w'.cell? ⟨w.heap.size, 0, none⟩ = some (.slice sa sl sc) ∧ w'.cell? ⟨w.heap.size, 1, none⟩ = some (.slice da dl dc) ∧ w'.cell? ⟨w.heap.size, 2, none⟩ = some (.slice ga gl gc) ∧ w'.cell? ⟨w.heap.size, 3, none⟩ = some (.slice xa xl xc) ∧ w'.cell? ⟨w.heap.size, 4, none⟩ = some (.slice ra rl rc) ∧ w'.cell? ⟨w.heap.size, 5, none⟩ = some (.int .i64 t0) ∧ w'.cell? ⟨w.heap.size, 6, none⟩ = some (.int .i64 t1) ∧ w'.cell? ⟨w.heap.size, 7, none⟩ = some (.int .i64 t2) ∧ w'.cell? ⟨w.heap.size, 8, none⟩ = some (.int .i64 t3)) (first | exact S6 | exact S5 | exact T4) (first
    | (go_at_call 23; have q5 := S5.1; go_must (refine (HK3.out _ S5.1).mono ?_; rintro e' w6 ⟨v6, rfl, hrow6, hb6⟩; have S6 := HKS.out _ _ S5.1 hb6; obtain ⟨a6, c6, rfl⟩ := own_slice hrow6))
    | (go_at_call 23; go_must (refine (HK3.out _ T4.1).mono ?_; rintro e' w5 ⟨v5, rfl, hrow5, hb5⟩; have S5 := HKS.out _ _ T4.1 hb5; obtain ⟨a5, c5, rfl⟩ := own_slice hrow5)))
  have z2 := hb2.size
  have z3 := hb3.size
  have z4 := hb4.size
  have z5 := hb5.size
  have z6 := hb6.size
  have zd : w1.drew.heap.size = w1.heap.size := rfl
  have hbA := S6.1
  obtain ⟨W6, rfl⟩ : ∃ W : World, W = w6 := ⟨_, rfl⟩
  have dr : Below w4.heap.size w4 w4.drew := (Below.refl _ _).drew
  have lA := hrow2.lt
  have lB := hrow3.lt
  have lW := hrow4.lt
  have lX := hrow5.lt
  have lY := hrow6.lt
  have zd4 : w4.drew.heap.size = w4.heap.size := rfl
  rw [zd] at lA z2
  rw [zd4] at lX z5
  have oA : W6.ownsRow w1.heap.size 55 2 (.slice a2 N c2) N (LL.flatMap enc2) := own_mono (own_later (own_later (own_later (own_later (own_later hrow2 hb3) hb4) dr) hb5) hb6) (Nat.le_refl _)
  have oB : W6.ownsRow w1.heap.size 55 2 (.slice a3 N c3) N (LL.flatMap enc2) := own_mono (own_later (own_later (own_later (own_later hrow3 hb4) dr) hb5) hb6) z2
  have oW : W6.ownsRow w1.heap.size 55 2 (.slice a4 N c4) N (LL.flatMap enc2) := own_mono (own_later (own_later (own_later hrow4 dr) hb5) hb6) (by omega)
  have oX : W6.ownsRow w1.heap.size 3 1 (.slice a5 M c5) M (CC.flatMap enc1) := own_mono (own_later hrow5 hb6) (by rw [zd4]; omega)
  have oY : W6.ownsRow w1.heap.size 3 1 (.slice a6 M c6) M (CC.flatMap enc1) := own_mono hrow6 (by omega)
  have LA : ∀ g, (Value.slice a2 N c2).ownBlock = some g → w1.heap.size ≤ g ∧ g < w2.heap.size := lA
  have LB : ∀ g, (Value.slice a3 N c3).ownBlock = some g → w2.heap.size ≤ g ∧ g < w3.heap.size := lB
  have LW : ∀ g, (Value.slice a4 N c4).ownBlock = some g → w3.heap.size ≤ g ∧ g < w4.heap.size := lW
  have LX : ∀ g, (Value.slice a5 M c5).ownBlock = some g → w4.heap.size ≤ g ∧ g < w5.heap.size := lX
  have LY : ∀ g, (Value.slice a6 M c6).ownBlock = some g → w5.heap.size ≤ g ∧ g < W6.heap.size := lY
  have HLA := Lib.hid LA
  have HLB := Lib.hid LB
  have HLW := Lib.hid LW
  have HLX := Lib.hid LX
  have HLY := Lib.hid LY
  clear lA lB lW lX lY LA LB LW LX LY hrow2 hrow3 hrow4 hrow5 hrow6 hb2 hb3 hb4 hb5 hb6 dr S1 S2 S3 S4 S5 S6 T4 HK1 HK2 HK3 HKS
  go_wp2
  go_loopg [31] N (fun m c wr => ∃ i : Nat, i + m = N ∧ c = .int .i64 i ∧ ∃ xs, wr.ownsRow w1.heap.size 55 2 (.slice a2 N c2) N xs ∧ W6.grownBy wr (Value.slice a2 N c2).ownBlock)
  case atStart => exact ⟨0, by omega, rfl, _, oA, grown_refl' _ _⟩
  case round =>
    obtain ⟨i, him, rfl, xs, hown, hgr⟩ := hrel
    obtain ⟨W7, rfl⟩ : ∃ W : World, W = wr := ⟨_, rfl⟩
    by_cases hi : i < N
    · have hid : decide ((i : Int) < (N : Int)) = true := by simpa using hi
      have hi0 : (0 : Int) ≤ (i : Int) := by omega
      have hi1 : (i : Int) < (N : Int) := by omega
      obtain ⟨g, rfl⟩ : ∃ g, a2 = some ⟨g, 0, none⟩ := by
        rcases hown.2 with ⟨-, h0⟩ | ⟨g, cap, cur, hv, -⟩
        · omega
        · injection hv with h1
          exact ⟨g, h1⟩
      obtain ⟨xs', hown', hgr'⟩ := own_pair (i := i) (u0 := .int .i64 (-9)) (u1 := .int .i64 0) hown
      have hxl := hown.1
      have y0 := hown.cells (g := g) rfl (i * 2) _ (List.getElem?_eq_getElem (by omega))
      have y1 := hown.cells (g := g) rfl (i * 2 + 1) _ (List.getElem?_eq_getElem (by omega))
      rw [plain_add, Nat.zero_add] at y0 y1
      have f0 := hown.frozenAt (i * 2)
      have f1 := hown.frozenAt (i * 2 + 1)
      clear oA oB oW oX oY
      go_wp2
      go_roundg (N - i - 1)
      case measure => omega
      case rel => exact ⟨i + 1, by omega, by go_num, xs', hown', grown_trans hgr hgr'⟩
    · have hid : decide ((i : Int) < (N : Int)) = false := by simpa using hi
      obtain ⟨i0', hi', hz0', hz1', hz2'⟩ := info_parts info_need
      have hgs := hgr.size
      have hbA7 : Below w1.heap.size w1 W7 := hbA.grown hgr hbA.size (fun j hj => (HLA.out j hj).1)
      clear oA
      have hAB : ∀ g, (Value.slice a3 N c3).ownBlock = some g → (Value.slice a2 N c2).ownBlock ≠ some g := fun g h1 h2 => by have := (HLB.out g h1).1; have := (HLA.out g h2).2; omega
      have hAW : ∀ g, (Value.slice a4 N c4).ownBlock = some g → (Value.slice a2 N c2).ownBlock ≠ some g := fun g h1 h2 => by have := (HLW.out g h1).1; have := (HLA.out g h2).2; omega
      have hAX : ∀ g, (Value.slice a5 M c5).ownBlock = some g → (Value.slice a2 N c2).ownBlock ≠ some g := fun g h1 h2 => by have := (HLX.out g h1).1; have := (HLA.out g h2).2; omega
      have hAY : ∀ g, (Value.slice a6 M c6).ownBlock = some g → (Value.slice a2 N c2).ownBlock ≠ some g := fun g h1 h2 => by have := (HLY.out g h1).1; have := (HLA.out g h2).2; omega
      have hXB : ∀ g, (Value.slice a3 N c3).ownBlock = some g → (Value.slice a5 M c5).ownBlock ≠ some g := fun g h1 h2 => by have := (HLB.out g h1).2; have := (HLX.out g h2).1; omega
      have hXW : ∀ g, (Value.slice a4 N c4).ownBlock = some g → (Value.slice a5 M c5).ownBlock ≠ some g := fun g h1 h2 => by have := (HLW.out g h1).2; have := (HLX.out g h2).1; omega
      have hXY : ∀ g, (Value.slice a6 M c6).ownBlock = some g → (Value.slice a5 M c5).ownBlock ≠ some g := fun g h1 h2 => by have := (HLY.out g h1).1; have := (HLX.out g h2).2; omega
      have HAB := Lib.hid hAB
      have HAW := Lib.hid hAW
      have HAX := Lib.hid hAX
      have HAY := Lib.hid hAY
      have HXB := Lib.hid hXB
      have HXW := Lib.hid hXW
      have HXY := Lib.hid hXY
      clear hAB hAW hAX hAY hXB hXW hXY
      go_upto_region 11 with (at_builtin; (refine append_any rfl _ _ 51 rfl w1.heap.size 55 i0' (.agg #[.int .i64 0, .int .i64 0]) 2 16 Try.underlying51 hi' hz0' hz1' hz2' rfl (by decide) (.slice a2 N c2) N xs rfl (hown.alloc _) (some ⟨W7.heap.size, 0, none⟩) 1 1 [.int .i64 0, .int .i64 0] rfl (fun e1 => by cases e1) rfl (fun ad had => by injection had with had; subst had; exact news2 W7 _ _ _) (one2 0 0) (by unfold maxLen; omega) (by omega) (by simp; omega) ?_; intro v8 w8 j1 j2 j3))
      obtain ⟨a8, c8, rfl⟩ := own_slice j1
      have hg68 : W6.grownBy w8 (Value.slice a2 N c2).ownBlock := grown_trans hgr (grown_trans (World.grownBy_alloc W7 _ _) j2)
      have hbA8 : Below w1.heap.size w1 w8 := hbA.grown hg68 hbA.size (fun j hj => (HLA.out j hj).1)
      have oB8 := own_ne oB HAB.out hg68
      have oW8 := own_ne oW HAW.out hg68
      have oX8 := own_ne oX HAX.out hg68
      have oY8 := own_ne oY HAY.out hg68
      obtain ⟨W8, rfl⟩ : ∃ W : World, W = w8 := ⟨_, rfl⟩
      clear oB oW oX oY j1 j2 j3 hown hgr hbA7 hid hi him
      go_wp2
      go_loopg [45] M (fun m c wr => ∃ i : Nat, i + m = M ∧ c = .int .i64 i ∧ ∃ xs, wr.ownsRow w1.heap.size 3 1 (.slice a5 M c5) M xs ∧ W8.grownBy wr (Value.slice a5 M c5).ownBlock)
      case atStart => exact ⟨0, by omega, rfl, _, oX8, grown_refl' _ _⟩
      case round =>
        obtain ⟨j, hjm, rfl, xs, hown, hgr⟩ := hrel
        obtain ⟨W9, rfl⟩ : ∃ W : World, W = wr := ⟨_, rfl⟩
        by_cases hj : j < M
        · have hjd : decide ((j : Int) < (M : Int)) = true := by simpa using hj
          have hj0 : (0 : Int) ≤ (j : Int) := by omega
          have hj1 : (j : Int) < (M : Int) := by omega
          obtain ⟨g, rfl⟩ : ∃ g, a5 = some ⟨g, 0, none⟩ := by
            rcases hown.2 with ⟨-, h0⟩ | ⟨g, cap, cur, hv, -⟩
            · omega
            · injection hv with h1
              exact ⟨g, h1⟩
          obtain ⟨hown', hgr'⟩ := hown.stored j (.int .i64 (-9))
          have hxl := hown.1
          have y0 := hown.cells (g := g) rfl j _ (List.getElem?_eq_getElem (by omega))
          rw [plain_add, Nat.zero_add] at y0
          have f0 := hown.frozenAt j
          clear oB8 oW8 oX8 oY8
          go_wp2
          go_roundg (M - j - 1)
          case measure => omega
          case rel => exact ⟨j + 1, by omega, by go_num, _, hown', grown_trans hgr hgr'⟩
        · have hjd : decide ((j : Int) < (M : Int)) = false := by simpa using hj
          have hbA9 : Below w1.heap.size w1 W9 := hbA8.grown hgr hbA8.size (fun j hj => by have := (HLX.out j hj).1; omega)
          have oB9 := own_ne oB8 HXB.out hgr
          have oW9 := own_ne oW8 HXW.out hgr
          have oY9 := own_ne oY8 HXY.out hgr
          have KN := same_needs LL a3 a4 N c3 c4 W9 (own_rowsG enc2_len oB9 HN.out) (own_rowsG enc2_len oW9 HN.out)
          have HKN := Lib.hid KN
          have n9 := HN1.out.kept hbA9 hg1
          have hg9 : w.heap.size < W9.heap.size := World.block_lt_of_cell? _ _ n9.c0
          have hW26 : IntKind.i64.wrap ((N : Int) + 1) = (N : Int) + 1 := by rw [IntWalk.i64_in _ (by omega)]
          have hee : ((N : Int) + 1 == (N : Int) + 1) = true := by simp
          clear oB8 oW8 oX8 oY8 oB9 oW9 hown hgr KN
          go_wp2_with (first
            | (go_at_call 24; go_must (refine HKN.out.mono ?_; rintro e' w10 ⟨rfl, hb10⟩; have n10 := n9.kept hb10 hg9; have e0 := n10.c0; have e1 := n10.c1; have e2 := n10.c2; have e3 := n10.c3; have e4 := n10.c4; have e5 := n10.c5; have e6 := n10.c6; have e7 := n10.c7; have e8 := n10.c8; have oY10 := own_later oY9 hb10; have hbA10 := below_step hbA9 hb10))
            | (go_at_call 26; go_must (refine (HK4.out _ hbA10).mono ?_; rintro e' w11 ⟨v11, rfl, hrow11, hb11⟩; obtain ⟨a11, c11, rfl⟩ := own_slice hrow11; have oY11 := own_later oY10 hb11; have KI := Lib.hid (same_ints CC a6 a11 M c6 c11 w11 (own_rowsG enc1_len oY11 HM.out) (own_rowsG enc1_len hrow11 HM.out))))
            | (go_at_call 25; go_must (refine KI.out.mono ?_; rintro e' w12 ⟨rfl, hb12⟩)))
          go_ret
          exact ⟨rfl, below_step hbw (below_step (below_step hbA10 hb11) hb12)⟩
end Go.Proofs.Ytokldploloncgaa.topo
