/-
  Needs of the program and of the reference: what the route's path needs, and its flank.
-/
import Derived.Test.YtokldploloncgaaNeedA
namespace Go.Proofs.Ytokldploloncgaa.topo
open Go.RowKit

theorem enc2_len (x : Int × Int) : (enc2 x).length = 2 := rfl
theorem enc2_one (x : Int × Int) : ∀ u ∈ enc2 x, u.oneCell' = true := by
  intro u hu
  simp only [enc2, List.mem_cons, List.not_mem_nil, or_false] at hu
  rcases hu with rfl | rfl <;> rfl
theorem news2 (W : World) (a b : Value) (t : TypeId) : ∀ j u, [a, b][j]? = some u → (W.alloc (.cells #[a, b] t)).cell? ((⟨W.heap.size, 0, none⟩ : Addr).add j) = some u := by
  intro j u hu
  rw [plain_add, Nat.zero_add, cell_of_row _ _ j _ _ _ (heap_alloc_new W _)]
  simpa using hu
theorem one2 (a b : Int) : ∀ u ∈ [Value.int .i64 a, .int .i64 b], u.oneCell' = true := by
  intro u hu
  simp only [List.mem_cons, List.not_mem_nil, or_false] at hu
  rcases hu with rfl | rfl <;> rfl
theorem info_need : (Try.prog.info? 55).map (fun i => (i.zero, i.size, i.bytes)) = some (some (.agg #[.int .i64 0, .int .i64 0]), 2, 16) := by kernel_rfl
/-- The cells of rows of records, as append wants them. -/
theorem rows_cells {α : Type} {m : Nat} {enc : α → List Value} {w : World} {ao : Option Addr} {ln lc : Nat} {L : List α} (hm : ∀ x, (enc x).length = m) (h : RowsAt m enc w ao ln lc L) :
    ∀ ad, ao = some ad → ∀ j u, (L.flatMap enc)[j]? = some u → w.cell? (ad.add j) = some u := by
  intro ad had j u hu
  obtain ⟨i, x, r, h1, h2, rfl⟩ := flatG_inv hm L j u hu
  have hi : i < L.length := (List.getElem?_eq_some_iff.1 h1).1
  have hl := h.len
  obtain ⟨g, o', hao, hg, hc⟩ := h.at'.resolve_left (by omega)
  rw [hao] at had
  injection had with had
  subst had
  rw [plain_add, ← Nat.add_assoc]
  exact hc i x h1 r u h2

/-- What Needs leaves. -/
def Nds (w : World) (L : List (Int × Int)) (e : Ending) (w' : World) : Prop := ∃ v, e = .returned v ∧ w'.ownsRow w.heap.size 55 2 v L.length (L.flatMap enc2) ∧ Below w.heap.size w w'

set_option maxRecDepth 100000 in
set_option maxHeartbeats 4000000 in
theorem needs_any (S P : List (Int × Int × Int)) (F : List (Int × Int)) (sa : Option Addr) (sl sc : Nat) (v1 v2 : Value) (xa : Option Addr) (xl xc : Nat) (ra : Option Addr) (rl rc : Nat) (t0 t1 t2 t3 r : Int) (w : World)
    (en ex : Int) (pa : Option Addr) (pl pc : Nat) (fa : Option Addr) (fl fc : Nat) (oa : Option Addr) (ol oc : Nat) (sh k : Bool) (h : RouteAt w ra rl r en ex pa pl pc fa fl fc oa ol oc sh k)
    (hS : RowsAt 3 enc3 w sa sl sc S) (hP : RowsAt 3 enc3 w pa pl pc P) (hF : RowsAt 2 enc2 w fa fl fc F) (hps : pl ≤ 1048576) (hfs : fl ≤ 1048576) :
    Calls Try.prog 21 #[confV sa sl sc v1 v2 xa xl xc ra rl rc t0 t1 t2 t3, .int .i64 r] w fun e w' => Nds w (needsT S P ++ F) e w' := by
  have hSl := hS.len
  have hPl := hP.len
  have hFl := hF.len
  have hsle := hS.le
  have hsmax := hS.max
  have hple := hP.le
  have hfle := hF.le
  have hb2 := below_new (Below.refl w.heap.size w) (.cells #[.slice sa sl sc, v1, v2, .slice xa xl xc, .slice ra rl rc, .int .i64 t0, .int .i64 t1, .int .i64 t2, .int .i64 t3] 50)
  have HRT := Lib.hid (route_any sa sl sc v1 v2 xa xl xc ra rl rc t0 t1 t2 t3 r _ en ex pa pl pc fa fl fc oa ol oc sh k (h.below hb2))
  go_enter Try.func21, Try.ntmps21
  go_upto_region 3 with (go_at_call 43; go_must (refine HRT.out.mono ?_; rintro e' w2 ⟨rfl, hb3⟩))
  have hbw2 := below_step hb2 hb3
  have b0 : w2.cell? ⟨w.heap.size, 0, none⟩ = some (.slice sa sl sc) := (hb3.cell (p := ⟨w.heap.size, 0, none⟩) (by simp)).trans (by simp)
  obtain ⟨W3, hW3⟩ : ∃ W3, w2.alloc (.cells #[.int .i64 en, .int .i64 ex, .slice pa pl pc, .slice fa fl fc, .slice oa ol oc, .bool sh] 87) = W3 := ⟨_, rfl⟩
  rw [hW3]
  have hb4 : Below w2.heap.size w2 W3 := hW3 ▸ below_new (Below.refl _ _) _
  have q2 : W3.cell? ⟨w2.heap.size, 2, none⟩ = some (.slice pa pl pc) := by rw [← hW3]; simp
  have q3 : W3.cell? ⟨w2.heap.size, 3, none⟩ = some (.slice fa fl fc) := by rw [← hW3]; simp
  have q0 := (hb4.cell (p := ⟨w.heap.size, 0, none⟩) (World.block_lt_of_cell? _ _ b0)).trans b0
  have hbw3 := below_step hbw2 hb4
  have hS3 := hS.below hbw3
  have hP3 := hP.below hbw3
  have hF3 := hF.below hbw3
  clear hW3 hb4 b0 hbw2 hb2 hb3 HRT hS hP hF h
  go_wp2
  go_loopg [7, 21] pl (fun m v7 v21 wr => ∃ i : Nat, i + m = pl ∧ v21 = .int .i64 i ∧ wr.ownsRow W3.heap.size 55 2 v7 (needsT S (P.take i)).length ((needsT S (P.take i)).flatMap enc2) ∧ Below W3.heap.size W3 wr)
  case atStart => exact ⟨0, by omega, rfl, World.ownsRow_nil _ _ _ _, Below.refl _ _⟩
  case round =>
    obtain ⟨i, him, rfl, hown, hbS⟩ := hrel
    obtain ⟨W4, rfl⟩ : ∃ W : World, W = wr := ⟨_, rfl⟩
    have r0 := (hbS.cell (p := ⟨w.heap.size, 0, none⟩) (World.block_lt_of_cell? _ _ q0)).trans q0
    have r3 := (hbS.cell (p := ⟨w2.heap.size, 3, none⟩) (World.block_lt_of_cell? _ _ q3)).trans q3
    by_cases hi : i < pl
    · have hid : decide ((i : Int) < (pl : Int)) = true := by simpa using hi
      have i0 : (0 : Int) ≤ (i : Int) := by omega
      have i1 : (i : Int) < (pl : Int) := by omega
      obtain ⟨g, o, x, rfl, hg, hx, -, hc⟩ := (hP3.below hbS).row hi
      have hst := needs_step (S := S) hx
      obtain ⟨s, ii, oo⟩ := x
      have k0 := hc 0 _ rfl
      have k1 := hc 1 _ rfl
      have k2 := hc 2 _ rfl
      rw [Nat.add_zero] at k0
      have hnl : (needsT S (P.take i)).length ≤ i := Nat.le_trans (needs_len S _) (by rw [List.length_take]; omega)
      obtain ⟨D, hD⟩ : ∃ D, needsT S (P.take i) = D := ⟨_, rfl⟩
      rw [hD] at hown hst hnl
      have HST := Lib.hid hst
      clear hst hc hx hD
      go_upto_region 6 with (fail)
      obtain ⟨W5, hW5⟩ : ∃ W5, W4.alloc (.cells #[.int .i64 s, .int .i64 ii, .int .i64 oo] 71) = W5 := ⟨_, rfl⟩
      rw [hW5]
      have hb5 : Below W4.heap.size W4 W5 := hW5 ▸ below_new (Below.refl _ _) _
      have p0 : W5.cell? ⟨W4.heap.size, 0, none⟩ = some (.int .i64 s) := by rw [← hW5]; simp
      have p1 : W5.cell? ⟨W4.heap.size, 1, none⟩ = some (.int .i64 ii) := by rw [← hW5]; simp
      have p2 : W5.cell? ⟨W4.heap.size, 2, none⟩ = some (.int .i64 oo) := by rw [← hW5]; simp
      have u0 := (hb5.cell (p := ⟨w.heap.size, 0, none⟩) (World.block_lt_of_cell? _ _ r0)).trans r0
      have hown5 := own_later hown hb5
      have hbS5 := below_step hbS hb5
      have hz5 : W4.heap.size < W5.heap.size := World.block_lt_of_cell? _ _ p0
      have hzw5 : w.heap.size < W5.heap.size := World.block_lt_of_cell? _ _ u0
      clear hW5 k0 k1 k2 hown hb5 r0
      by_cases hs : 0 ≤ s ∧ s < sl
      · obtain ⟨n, rfl⟩ := Int.eq_ofNat_of_zero_le hs.1
        have d1 : decide ((n : Int) < 0) = false := by simp
        have d2 : decide ((sl : Int) ≤ (n : Int)) = false := by simp; omega
        have d3 : decide (sl ≤ n) = false := by simp; omega
        have i2 : (0 : Int) ≤ (n : Int) := by omega
        have i3 : (n : Int) < (sl : Int) := by omega
        obtain ⟨gs, os, y, rfl, hgs, hy, -, hcy⟩ := (hS3.below hbS5).row (show n < sl by omega)
        have hkd := kindAt_of hy
        obtain ⟨kd, y2⟩ := y
        have m0 := hcy 0 _ rfl
        simp only [Nat.add_zero] at m0 hkd
        have hone : needOne S ((n : Int), ii, oo) = (match posT kd ii oo with | some p => if p = 0 then [] else [((n : Int), p)] | none => []) := by
          unfold needOne
          rw [if_pos (by rw [hSl]; exact hs)]
          simp only [hkd]
          rfl
        have KP : ∀ x : Later W5, Calls Try.prog 38 #[.int .i64 kd, .int .i64 ii, .int .i64 oo] x.now fun e w' => e = .returned (ansV (posT kd ii oo)) ∧ Below x.now.heap.size x.now w' := fun x => pos_any kd ii oo x.now
        clear hcy hy hkd
        cases hpos : posT kd ii oo with
        | none =>
          rw [hpos] at KP hone
          have HKP := Lib.hid KP
          have HX : Hid (needsT S (P.take (i + 1)) = D) := Lib.hid (by rw [HST.out, hone]; simp)
          clear KP hone hpos
          go_wp2
          refine wp_region_later (by kernel_rfl) (by kernel_rfl) ?_
          repeat (go_big_quiet_step ((go_at_call 38; exact later_of (HKP.out _))))
          refine wpQuiet_nil ?_
          intro w6 hb6
          go_wp2
          go_roundg (pl - i - 1)
          case measure => omega
          case rel => exact ⟨i + 1, by omega, by go_num, by rw [HX.out]; exact own_later hown5 hb6, below_step hbS5 hb6⟩
        | some p =>
          rw [hpos] at KP hone
          by_cases hp0 : p = 0
          · have HKP := Lib.hid KP
            have HX : Hid (needsT S (P.take (i + 1)) = D) := Lib.hid (by rw [HST.out, hone]; simp [hp0])
            have z0 : (p != 0) = false := by simpa using hp0
            clear KP hone hpos
            go_wp2
            refine wp_region_later (by kernel_rfl) (by kernel_rfl) ?_
            repeat (go_big_quiet_step ((go_at_call 38; exact later_of (HKP.out _))))
            refine wpQuiet_nil ?_
            intro w6 hb6
            go_wp2
            go_roundg (pl - i - 1)
            case measure => omega
            case rel => exact ⟨i + 1, by omega, by go_num, by rw [HX.out]; exact own_later hown5 hb6, below_step hbS5 hb6⟩
          · have HKP := Lib.hid KP
            have HX : Hid (needsT S (P.take (i + 1)) = D ++ [((n : Int), p)]) := Lib.hid (by rw [HST.out, hone]; simp [hp0])
            have z0 : (p != 0) = true := by simpa using hp0
            clear KP hone hpos
            go_wp2
            refine wp_region_later (by kernel_rfl) (by kernel_rfl) ?_
            repeat (go_big_quiet_step ((go_at_call 38; exact later_of (HKP.out _))))
            refine wpQuiet_nil ?_
            intro w6 hb6
            obtain ⟨i0', hi', hz0', hz1', hz2'⟩ := info_parts info_need
            have hown6 := own_later hown5 hb6
            have hbS6 := below_step hbS5 hb6
            have t0 := (hb6.cell (p := ⟨W4.heap.size, 0, none⟩) hz5).trans p0
            have hs36 := hbS6.size
            go_wp2_with (at_builtin; (refine append_any rfl _ _ 51 rfl W3.heap.size 55 i0' (.agg #[.int .i64 0, .int .i64 0]) 2 16 Try.underlying51 hi' hz0' hz1' hz2' rfl (by decide) _ D.length _ rfl (hown6.alloc _) (some ⟨w6.heap.size, 0, none⟩) 1 _ [.int .i64 (n : Int), .int .i64 p] rfl (fun e1 => by cases e1) rfl (fun ad had => by injection had with had; subst had; exact news2 w6 _ _ _) (one2 _ _) (by unfold maxLen; omega) (by omega) (by simp; omega) ?_; intro v7 w7 j1 j2 j3; have h7 := (below_new hbS6 (.cells #[.int .i64 (n : Int), .int .i64 p] 55)).grown j2 (by simp; omega) (fun j hj => by have := (hown6.lt j hj).1; omega)))
            go_roundg (pl - i - 1)
            case measure => omega
            case rel => exact ⟨i + 1, by omega, by go_num, by rw [HX.out, List.length_append, List.flatMap_append]; exact j1, h7⟩
      · have HX : Hid (needsT S (P.take (i + 1)) = D) := Lib.hid (by
          rw [HST.out, needOne, if_neg (by rw [hSl]; exact hs)]
          simp)
        by_cases hs0 : s < 0
        · have d1 : decide (s < 0) = true := by simpa using hs0
          go_wp2
          go_roundg (pl - i - 1)
          case measure => omega
          case rel => exact ⟨i + 1, by omega, by go_num, by rw [HX.out]; exact hown5, hbS5⟩
        · have d1 : decide (s < 0) = false := by simpa using hs0
          have d2 : decide ((sl : Int) ≤ s) = true := by simp; omega
          go_wp2
          go_roundg (pl - i - 1)
          case measure => omega
          case rel => exact ⟨i + 1, by omega, by go_num, by rw [HX.out]; exact hown5, hbS5⟩
    · have hid : decide ((i : Int) < (pl : Int)) = false := by simpa using hi
      have hall : P.take i = P := List.take_of_length_le (by omega)
      rw [hall] at hown
      have r3' := r3
      have hnl : (needsT S P).length ≤ pl := Nat.le_trans (needs_len S _) (by omega)
      obtain ⟨D, hD⟩ : ∃ D, needsT S P = D := ⟨_, rfl⟩
      rw [hD] at hown hnl
      have HD := Lib.hid hD
      have hs3 := hbS.size
      have hfao : fa = none → fl = 0 ∧ fc = 0 := fun e => ⟨by have := hF3.nil e; omega, hF3.nil e⟩
      have hFc := rows_cells enc2_len (hF3.below hbS)
      have hFn := flatG_length enc2_len F
      rw [hFl] at hFn
      obtain ⟨i0', hi', hz0', hz1', hz2'⟩ := info_parts info_need
      clear hD hall
      go_wp2_with (at_builtin; (refine append_any rfl _ _ 51 rfl W3.heap.size 55 i0' (.agg #[.int .i64 0, .int .i64 0]) 2 16 Try.underlying51 hi' hz0' hz1' hz2' rfl (by decide) _ D.length _ rfl hown fa fl fc (F.flatMap enc2) rfl hfao hFn hFc (flatG_one enc2_one F) (by unfold maxLen; omega) (by omega) (by omega) ?_; intro v7 w7 j1 j2 j3; have h7 := hbS.grown j2 (by omega) (fun j hj => by have := (hown.lt j hj).1; omega)))
      go_ret
      refine ⟨_, rfl, ?_, below_step hbw3 h7⟩
      rw [HD.out, List.length_append, hFl, List.flatMap_append]
      exact own_mono j1 hbw3.size
end Go.Proofs.Ytokldploloncgaa.topo
