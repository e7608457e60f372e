/-
  Follow of the program: the way of a train is followT's.
-/
import Derived.Test.YtokldploloncgaaTopoE
import Derived.Deep.CutBlock
import Derived.Outline
namespace Go.Proofs.Ytokldploloncgaa.topo
open Go.RowKit

set_option maxRecDepth 100000 in
set_option maxHeartbeats 2000000 in
theorem follow_any (S : List (Int × Int × Int)) (J : List (Int × Int × Int × Int)) (P : List Int) (sa ja pa : Option Addr) (sl sc jl jc pl pc : Nat) (s0 i0 : Int) (w : World)
    (hS : RowsAt 3 enc3 w sa sl sc S) (hJ : RowsAt 4 enc4 w ja jl jc J) (hP : RowsAt 1 enc1 w pa pl pc P) (hr : sl * 24 ≤ 140737488351232) :
    Calls Try.prog 32 #[.slice sa sl sc, .slice ja jl jc, .int .i64 s0, .int .i64 i0, .slice pa pl pc] w fun e w' => Steps w (followT S J P (sl + 1) [] s0 i0) e w' := by
  obtain ⟨R, hR⟩ : ∃ R, followT S J P (sl + 1) [] s0 i0 = R := ⟨_, rfl⟩
  have HR := Lib.hid hR
  clear hR
  obtain ⟨B, hB⟩ : ∃ B, w.heap.size = B := ⟨_, rfl⟩
  have hSl := hS.len
  have hPl := hP.len
  have hpm := hP.max
  have hple := hP.le
  have hF0 : Fol w B (w.alloc (.map #[] 0)) (.slice none 0 0) [] := by
    subst hB
    refine ⟨World.ownsRow_nil _ _ _ _, ?_, below_new (Below.refl _ _) _, rfl⟩
    have h := CountMap.made 3 w
    obtain ⟨D, h1, h2, h3⟩ := h
    exact ⟨D, h1, h2, fun key kl hk => (h3 key kl hk).trans (congrArg (fun z : Int => DataW.lit (.int .i64 z)) (by dsimp only; split <;> rfl))⟩
  have HB := Lib.hid hB
  clear hB
  have hmm := @run_makeMap Try.prog
  go_enter Try.func32, Try.ntmps32
  go_wp2
  rw [HB.out]
  go_loopg [2, 3, 11, 13] (sl + 1) (fun m vs vi vo vk wr => ∃ (s i : Int) (L : List (Int × Int × Int)) (k : Bool), vs = .int .i64 s ∧ vi = .int .i64 i ∧ vk = .bool k ∧ Fol w B wr vo L ∧ L.length + unseen sl L = sl ∧ ((k = true ∧ m = unseen sl L + 1 ∧ followT S J P m L s i = R) ∨ (k = false ∧ L = R)))
  case atStart => exact ⟨s0, i0, [], true, rfl, rfl, rfl, hF0, by rw [unseen_nil]; simp, .inl ⟨rfl, by rw [unseen_nil], HR.out⟩⟩
  case round =>
    clear hF0 hmm
    obtain ⟨s, i, L, k, rfl, rfl, rfl, hF, hLn, hk⟩ := hrel
    obtain ⟨W, rfl⟩ : ∃ W : World, W = wr := ⟨_, rfl⟩
    rcases hk with ⟨rfl, rfl, hR⟩ | ⟨rfl, rfl⟩
    · have hEk := endsT_in (kindAt S s)
      by_cases hsr : 0 ≤ s ∧ s < S.length
      · obtain ⟨n, rfl⟩ := Int.eq_ofNat_of_zero_le hsr.1
        have hnl : n < sl := by omega
        have hs64 : -9223372036854775808 ≤ (n : Int) ∧ (n : Int) ≤ 9223372036854775807 := by omega
        obtain ⟨g, o, x, rfl, hg, hx, -, hcx⟩ := hS.row hnl
        have hkd := kindAt_of hx
        obtain ⟨kd, hkd'⟩ : ∃ kd, kindAt S (n : Int) = kd := ⟨_, rfl⟩
        have k0 := hcx 0 _ rfl
        rw [Nat.add_zero, ← hkd, hkd'] at k0
        have hgB : g < B := by rw [← HB.out]; exact hg
        have kW : W.cell? ⟨g, o + n * 3, none⟩ = some (.int .i64 kd) := by
          have hb := hF.below
          exact (hb.cell (p := ⟨g, o + n * 3, none⟩) hgB).trans k0
        have hgW : g < W.heap.size := World.block_lt_of_cell? _ _ kW
        rw [hkd'] at hEk
        have hb1 : btw (n : Int) 0 ((sl : Int) - 1) = true := btw_true (by omega)
        have i1 : (0 : Int) ≤ (n : Int) := by omega
        have i2 : (n : Int) < (sl : Int) := by omega
        clear hcx hkd hx
        by_cases hir : 0 ≤ i ∧ i < endsT kd
        · have hb2 : btw i 0 (endsT kd - 1) = true := btw_true (by omega)
          by_cases hsn : seenIn L (n : Int) = false
          · obtain ⟨p, hp⟩ : ∃ p, posAt P (n : Int) = p := ⟨_, rfl⟩
            obtain ⟨E, hE⟩ : ∃ E : Int, (wayT kd i p).getD (-1) = E := ⟨_, rfl⟩
            have hun : unseen sl (L ++ [((n : Int), i, E)]) + 1 = unseen sl L := unseen_snoc (by omega) (by omega) hsn
            have hLs : L.length + 1 ≤ sl := by omega
            have hgood : goodAt S (n : Int) i := ⟨hsr, hir.1, by rw [hkd']; exact hir.2⟩
            have hR2 : (match wayT kd i p with
              | none => L ++ [((n : Int), i, -1)]
              | some e => match nextT J (n : Int) e with
                | none => L ++ [((n : Int), i, e)]
                | some (s', i') => followT S J P (unseen sl L) (L ++ [((n : Int), i, e)]) s' i') = R := by
              rw [← hR, followT, if_pos ⟨hgood, hsn⟩, hkd', hp]
              rfl
            have HR2 := Lib.hid hR2
            have HE := Lib.hid hE
            have HP := Lib.hid hp
            clear hR hR2 hE hp hkd' hsr hir hgood
            go_upto_if 50 with (first
              | (go_at_call 46; (refine (between_any _ _ _ _).mono ?_; rintro e w1 ⟨rfl, rfl⟩; first | rw [hb1] | rw [hb2]))
              | (go_at_call 35; go_must (refine (ends_any kd _).mono ?_; rintro e w5 ⟨rfl, hb5⟩; have F5 := hF.later hb5; have hlk := F5.look0 hs64 hsn; obtain ⟨w6, hup, G6, z6⟩ := F5.mark2 (i := i) (e := E) hs64 (by unfold maxLen; omega))))
            have hBg := G6.map.lt
            have kW6 := (G6.below.cell (p := ⟨g, o + n * 3, none⟩) hgB).trans k0
            have hgW6 : g < w6.heap.size := World.block_lt_of_cell? _ _ kW6
            clear hlk hup F5 hb1 hb2 hsn kW
            obtain ⟨W6, rfl⟩ : ∃ W6 : World, W6 = w6 := ⟨_, rfl⟩
            go_cut [14] (fun s14 wx => s14 = .int .i64 p ∧ W6 = wx)
            case first =>
              by_cases hpl : n < pl
              · have hd : decide ((n : Int) < (pl : Int)) = true := by simpa using hpl
                have i3 : (n : Int) < (pl : Int) := by omega
                obtain ⟨gp, op, y, rfl, hgp, hy, -, hcy⟩ := hP.row hpl
                have ky := hcy 0 _ rfl
                rw [Nat.mul_one, Nat.add_zero] at ky
                have ky6 := (G6.below.cell (p := ⟨gp, op + n, none⟩) (by rw [← HB.out]; exact hgp)).trans ky
                have HY := Lib.hid (posAt_of hy)
                clear hcy ky hy hP
                go_wp2
                go_meet
                case rel => exact ⟨by rw [← HP.out, HY.out], rfl⟩
              · have hd : decide ((n : Int) < (pl : Int)) = false := by simpa using hpl
                have HY : Hid (posAt P (n : Int) = 0) := Lib.hid (posAt_none (by omega))
                go_wp2
                go_meet
                case rel => exact ⟨by rw [← HP.out, HY.out], rfl⟩
            case rest =>
              obtain ⟨rfl, rfl⟩ := hcut
              obtain ⟨i0', hi', hz0', hz1', hz2'⟩ := info_parts info_step
              have hnot := G6.notIn W6.heap.size (Nat.le_refl _)
              have hBg' : B < W6.heap.size := hBg
              cases hw : wayT kd i p with
              | none =>
                have HF : Hid (L ++ [((n : Int), i, -1)] = R) := Lib.hid (by have := HR2.out; rw [hw] at this; exact this)
                obtain rfl : -1 = E := by have := HE.out; rw [hw] at this; exact this
                go_wp2_with (first
                  | (go_at_call 36; go_must (refine (way_any kd i p _).mono ?_; rintro e7 w7 ⟨rfl, hb7⟩; have x2 := box_cell hb7; obtain ⟨c7, f7⟩ := below_reads hb7; have G7 := (G6.later (below_new (Below.refl _ _) _)).later hb7; have hz7 := hb7.size; simp only [World.size_alloc] at hz7; rw [hw]; have y2 := cell_set w7 W6.heap.size 2 (.int .i64 0) x2; have z2 := cell_set _ W6.heap.size 2 (.int .i64 (-1)) y2; have G9 := (G7.set (o := 2) (u := .int .i64 0) hBg' hnot).set (o := 2) (u := .int .i64 (-1)) hBg' hnot))
                  | (at_builtin; go_must (refine wpList_append_own_at _ rfl _ _ 72 rfl (B + 1) 71 i0' (.agg #[.int .i64 0, .int .i64 0, .int .i64 0]) 3 24 Try.underlying72 hi' hz0' hz1' hz2' rfl (by decide) _ L.length (flat L) rfl (G9.row.alloc _) ⟨_, 0, none⟩ 1 1 [.int .i64 (n : Int), .int .i64 i, .int .i64 (-1)] rfl rfl (news3' _ _ _ _ _ _ (by simp [World.setCell])) (one3 _ _ _) (by unfold maxLen; omega) (by omega) (by simp; omega) ?_; intro v8 w8 k1 k2 _ k3; have F8 := (G9.later (below_new (Below.refl _ _) _)).push k1 k2)))
                go_roundg 0
                case measure => omega
                case rel => exact ⟨_, _, _, false, rfl, rfl, rfl, F8, by simp only [List.length_append, List.length_cons, List.length_nil]; omega, .inr ⟨rfl, HF.out⟩⟩
              | some e =>
                obtain rfl : e = E := by have := HE.out; rw [hw] at this; exact this
                cases hnx : nextT J (n : Int) e with
                | none =>
                  have HF : Hid (L ++ [((n : Int), i, e)] = R) := Lib.hid (by have := HR2.out; rw [hw] at this; simp only [hnx] at this; exact this)
                  go_wp2_with (first
                    | (go_at_call 36; go_must (refine (way_any kd i p _).mono ?_; rintro e7 w7 ⟨rfl, hb7⟩; have x2 := box_cell hb7; obtain ⟨c7, f7⟩ := below_reads hb7; have G7 := (G6.later (below_new (Below.refl _ _) _)).later hb7; have hz7 := hb7.size; simp only [World.size_alloc] at hz7; rw [hw]; have y2 := cell_set w7 W6.heap.size 2 (.int .i64 e) x2; have G9 := G7.set (o := 2) (u := .int .i64 e) hBg' hnot))
                    | (at_builtin; go_must (refine wpList_append_own_at _ rfl _ _ 72 rfl (B + 1) 71 i0' (.agg #[.int .i64 0, .int .i64 0, .int .i64 0]) 3 24 Try.underlying72 hi' hz0' hz1' hz2' rfl (by decide) _ L.length (flat L) rfl (G9.row.alloc _) ⟨_, 0, none⟩ 1 1 [.int .i64 (n : Int), .int .i64 i, .int .i64 e] rfl rfl (news3' _ _ _ _ _ _ (by simp [World.setCell])) (one3 _ _ _) (by unfold maxLen; omega) (by omega) (by simp; omega) ?_; intro v8 w8 k1 k2 _ k3; have F8 := (G9.later (below_new (Below.refl _ _) _)).push k1 k2; have x8 := (World.cell?_of_block (a := ⟨W6.heap.size, 2, none⟩) (k2.block W6.heap.size (by simp; omega) (Ne.symm hnot))).trans ((World.cell?_alloc_lt _ _ _ (by simp [World.setCell]; omega)).trans y2)))
                    | (go_at_call 30; go_must (refine (next_any ja jl jc J (n : Int) e _ (hJ.below (by rw [HB.out]; exact F8.below))).mono ?_; rintro e9 w9 ⟨rfl, hb9⟩; rw [hnx])))
                  go_roundg 0
                  case measure => omega
                  case rel => exact ⟨_, _, _, false, rfl, rfl, rfl, F8.later hb9, by simp only [List.length_append, List.length_cons, List.length_nil]; omega, .inr ⟨rfl, HF.out⟩⟩
                | some q =>
                  obtain ⟨s', i'⟩ := q
                  have HF : Hid (followT S J P (unseen sl (L ++ [((n : Int), i, e)]) + 1) (L ++ [((n : Int), i, e)]) s' i' = R) := Lib.hid (by have := HR2.out; rw [hw] at this; simp only [hnx] at this; rw [hun]; exact this)
                  go_wp2_with (first
                    | (go_at_call 36; go_must (refine (way_any kd i p _).mono ?_; rintro e7 w7 ⟨rfl, hb7⟩; have x2 := box_cell hb7; obtain ⟨c7, f7⟩ := below_reads hb7; have G7 := (G6.later (below_new (Below.refl _ _) _)).later hb7; have hz7 := hb7.size; simp only [World.size_alloc] at hz7; rw [hw]; have y2 := cell_set w7 W6.heap.size 2 (.int .i64 e) x2; have G9 := G7.set (o := 2) (u := .int .i64 e) hBg' hnot))
                    | (at_builtin; go_must (refine wpList_append_own_at _ rfl _ _ 72 rfl (B + 1) 71 i0' (.agg #[.int .i64 0, .int .i64 0, .int .i64 0]) 3 24 Try.underlying72 hi' hz0' hz1' hz2' rfl (by decide) _ L.length (flat L) rfl (G9.row.alloc _) ⟨_, 0, none⟩ 1 1 [.int .i64 (n : Int), .int .i64 i, .int .i64 e] rfl rfl (news3' _ _ _ _ _ _ (by simp [World.setCell])) (one3 _ _ _) (by unfold maxLen; omega) (by omega) (by simp; omega) ?_; intro v8 w8 k1 k2 _ k3; have F8 := (G9.later (below_new (Below.refl _ _) _)).push k1 k2; have x8 := (World.cell?_of_block (a := ⟨W6.heap.size, 2, none⟩) (k2.block W6.heap.size (by simp; omega) (Ne.symm hnot))).trans ((World.cell?_alloc_lt _ _ _ (by simp [World.setCell]; omega)).trans y2)))
                    | (go_at_call 30; go_must (refine (next_any ja jl jc J (n : Int) e _ (hJ.below (by rw [HB.out]; exact F8.below))).mono ?_; rintro e9 w9 ⟨rfl, hb9⟩; rw [hnx])))
                  go_roundg (unseen sl (L ++ [((n : Int), i, e)]) + 1)
                  case measure => omega
                  case rel => exact ⟨_, _, _, true, rfl, rfl, rfl, F8.later hb9, by simp only [List.length_append, List.length_cons, List.length_nil]; omega, .inl ⟨rfl, rfl, HF.out⟩⟩
          · have hs1 : seenIn L (n : Int) = true := by simpa using hsn
            have HF : Hid (L = R) := Lib.hid (by rw [← hR, followT, if_neg (fun h => hsn h.2)])
            have HK := Lib.hid hkd'
            clear hR hsn hkd' hsr hir
            go_wp2_with (first
              | (go_at_call 46; (refine (between_any _ _ _ _).mono ?_; rintro e w1 ⟨rfl, rfl⟩; first | rw [hb1] | rw [hb2]))
              | (go_at_call 35; go_must (refine (ends_any kd _).mono ?_; rintro e w5 ⟨rfl, hb5⟩; have F5 := hF.later hb5; have hlk := F5.look1 hs64 hs1)))
            go_ret
            have e := HB.out
            subst e
            exact ⟨_, rfl, by rw [HR.out, ← HF.out]; exact own_base F5.row (Nat.le_succ _), F5.below⟩
        · have hb2 : btw i 0 (endsT kd - 1) = false := btw_false (by omega)
          have HF : Hid (L = R) := Lib.hid (by rw [← hR, followT, if_neg (fun h => hir ⟨h.1.2.1, by rw [← hkd']; exact h.1.2.2⟩)])
          clear hR hkd' hsr hir
          go_wp2_with (first
            | (go_at_call 46; (refine (between_any _ _ _ _).mono ?_; rintro e w1 ⟨rfl, rfl⟩; first | rw [hb1] | rw [hb2]))
            | (go_at_call 35; go_must (refine (ends_any kd _).mono ?_; rintro e w5 ⟨rfl, hb5⟩; have F5 := hF.later hb5)))
          go_ret
          have e := HB.out
          subst e
          exact ⟨_, rfl, by rw [HR.out, ← HF.out]; exact own_base F5.row (Nat.le_succ _), F5.below⟩
      · have hb1 : btw s 0 ((sl : Int) - 1) = false := btw_false (by omega)
        have HF : Hid (L = R) := Lib.hid (by rw [← hR, followT, if_neg (fun h => hsr h.1.1)])
        clear hR hsr hEk
        go_wp2_with (go_at_call 46; (refine (between_any _ _ _ _).mono ?_; rintro e w1 ⟨rfl, rfl⟩; rw [hb1]))
        go_ret
        have e := HB.out
        subst e
        exact ⟨_, rfl, by rw [HR.out, ← HF.out]; exact own_base hF.row (Nat.le_succ _), hF.below⟩
    · have hbl := hF.below
      have hrow := own_base hF.row (Nat.le_succ B)
      clear hF
      go_wp2
      go_ret
      have e := HB.out
      subst e
      exact ⟨_, rfl, by rw [HR.out]; exact hrow, hbl⟩
end Go.Proofs.Ytokldploloncgaa.topo
