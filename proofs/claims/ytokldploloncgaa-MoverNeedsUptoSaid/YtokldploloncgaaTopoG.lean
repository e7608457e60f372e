/-
  Follow of the reference.
-/
import Derived.Test.YtokldploloncgaaTopoE
import Derived.Deep.CutBlock
import Derived.Outline
namespace Go.Proofs.Ytokldploloncgaa.topo
open Go.RowKit

theorem flat_get : ∀ (L : List (Int × Int × Int)) (i : Nat) (x : Int × Int × Int), L[i]? = some x → ∀ (j : Nat) (u : Value), (enc3 x)[j]? = some u → (flat L)[i * 3 + j]? = some u
  | [], _, _, h, _, _, _ => by simp at h
  | y :: L, 0, x, h, j, u, hu => by
    simp only [List.getElem?_cons_zero, Option.some.injEq] at h
    subst h
    have hj : j < (enc3 y).length := (List.getElem?_eq_some_iff.1 hu).1
    rw [flat, List.flatMap_cons, Nat.zero_mul, Nat.zero_add, List.getElem?_append_left hj]
    exact hu
  | y :: L, i + 1, x, h, j, u, hu => by
    have := flat_get L i x (by simpa using h) j u hu
    rw [flat, List.flatMap_cons, List.getElem?_append_right (by simp [enc3]; omega)]
    rw [flat] at this
    rw [← this]
    congr 1
    simp [enc3]
    omega
theorem flat_length (L : List (Int × Int × Int)) : (flat L).length = L.length * 3 := by
  induction L with
  | nil => rfl
  | cons x L ih => rw [flat, List.flatMap_cons, List.length_append, ← flat, ih]; simp [enc3]; omega
/-- A row of steps of one's own, as what is read. -/
theorem own_rows {w : World} {B n : Nat} {v : Value} {L : List (Int × Int × Int)} (h : w.ownsRow B 71 3 v n (flat L)) (hn : L.length = n) : ∃ a c, v = .slice a n c ∧ RowsAt 3 enc3 w a n c L := by
  rcases h.2 with ⟨hv, h0⟩ | ⟨g, cap, cur, hv, hb, hg, h1, h2, h3, h4⟩
  · exact ⟨none, 0, by rw [hv, h0], ⟨hn, by omega, by omega, fun _ => rfl, .inl h0⟩⟩
  · refine ⟨some ⟨g, 0, none⟩, cap, hv, ⟨hn, h1, by unfold maxLen at h2; omega, fun e => (by cases e), ?_⟩⟩
    by_cases h0 : n = 0
    · exact .inl h0
    · refine .inr ⟨g, 0, rfl, (Array.getElem?_eq_some_iff.1 hg).1, fun i x hx j u hu => ?_⟩
      have := h.cells (g := g) (by rw [hv]; rfl) (i * 3 + j) u (flat_get L i x hx j u hu)
      rw [plain_add] at this
      rw [Nat.add_assoc]
      exact this

structure Rol (w wr : World) (v : Value) (L : List (Int × Int × Int)) : Prop where
  row : wr.ownsRow w.heap.size 71 3 v L.length (flat L)
  below : Below w.heap.size w wr
theorem Rol.later {w wr w' : World} {v : Value} {L : List (Int × Int × Int)} (h : Rol w wr v L) (hb : Below wr.heap.size wr w') : Rol w w' v L := ⟨own_later h.row hb, below_step h.below hb⟩
theorem Rol.push {w wr w' : World} {v v' : Value} {L : List (Int × Int × Int)} {s i e : Int} (h : Rol w wr v L) (k1 : w'.ownsRow w.heap.size 71 3 v' (L.length + 1) (flat L ++ [.int .i64 s, .int .i64 i, .int .i64 e])) (k2 : wr.grownBy w' v.ownBlock) : Rol w w' v' (L ++ [(s, i, e)]) :=
  ⟨by rw [flat_snoc, List.length_append]; exact k1, h.below.grown k2 h.below.size (fun j hj => (h.row.lt j hj).1)⟩

set_option maxRecDepth 100000 in
set_option maxHeartbeats 2000000 in
theorem followR_any (S : List (Int × Int × Int)) (J : List (Int × Int × Int × Int)) (P : List Int) (sa ja pa : Option Addr) (sl sc jl jc pl pc : Nat) (s0 i0 : Int) (w : World)
    (hS : RowsAt 3 enc3 w sa sl sc S) (hJ : RowsAt 4 enc4 w ja jl jc J) (hP : RowsAt 1 enc1 w pa pl pc P) (hr : sl * 24 ≤ 140737488351232) :
    Calls Try.prog 33 #[.slice sa sl sc, .slice ja jl jc, .int .i64 s0, .int .i64 i0, .slice pa pl pc] w fun e w' => Steps w (followT S J P (sl + 1) [] s0 i0) e w' := by
  obtain ⟨R, hR⟩ : ∃ R, followT S J P (sl + 1) [] s0 i0 = R := ⟨_, rfl⟩
  have HR := Lib.hid hR
  clear hR
  have hSl := hS.len
  have hPl := hP.len
  have hpm := hP.max
  have hple := hP.le
  have hF0 : Rol w w (.slice none 0 0) [] := ⟨World.ownsRow_nil _ _ _ _, Below.refl _ _⟩
  go_enter Try.func33, Try.ntmps33
  go_wp2
  go_loopg [2, 3, 11] (sl + 1) (fun m vs vi vo wr => ∃ (s i : Int) (L : List (Int × Int × Int)), vs = .int .i64 s ∧ vi = .int .i64 i ∧ Rol w wr vo L ∧ L.length + unseen sl L = sl ∧ m = unseen sl L + 1 ∧ followT S J P m L s i = R)
  case atStart => exact ⟨s0, i0, [], rfl, rfl, hF0, by rw [unseen_nil]; simp, by rw [unseen_nil], HR.out⟩
  case round =>
    clear hF0
    obtain ⟨s, i, L, rfl, rfl, hF, hLn, rfl, hR⟩ := hrel
    obtain ⟨W, rfl⟩ : ∃ W : World, W = wr := ⟨_, rfl⟩
    have hEk := endsT_in (kindAt S s)
    by_cases hs0 : 0 ≤ s
    · have d0 : decide (s < 0) = false := by simpa using hs0
      by_cases hsl : s < (sl : Int)
      · have d1 : decide ((sl : Int) ≤ s) = false := by simpa using hsl
        obtain ⟨n, rfl⟩ := Int.eq_ofNat_of_zero_le hs0
        have hnl : n < sl := by omega
        obtain ⟨g, o, x, rfl, hg, hx, -, hcx⟩ := hS.row hnl
        have hkd := kindAt_of hx
        obtain ⟨kd, hkd'⟩ : ∃ kd, kindAt S (n : Int) = kd := ⟨_, rfl⟩
        have k0 := hcx 0 _ rfl
        rw [Nat.add_zero, ← hkd, hkd'] at k0
        have kW := (hF.below.cell (p := ⟨g, o + n * 3, none⟩) hg).trans k0
        have hgW : g < W.heap.size := World.block_lt_of_cell? _ _ kW
        rw [hkd'] at hEk
        have i1 : (0 : Int) ≤ (n : Int) := by omega
        have i2 : (n : Int) < (sl : Int) := by omega
        clear hcx hkd hx
        by_cases hi0 : 0 ≤ i
        · have d2 : decide (i < 0) = false := by simpa using hi0
          by_cases hil : i < endsT kd
          · have d3 : decide (endsT kd ≤ i) = false := by simpa using hil
            obtain ⟨v0, hv0⟩ : ∃ v : Value, v = u11 := ⟨_, rfl⟩
            obtain ⟨a11, c11, hv, -⟩ := own_rows hF.row rfl
            subst hv
            clear hv0
            obtain ⟨p, hp⟩ : ∃ p, posAt P (n : Int) = p := ⟨_, rfl⟩
            have hgood : goodAt S (n : Int) i := ⟨⟨hs0, by omega⟩, hi0, by rw [hkd']; exact hil⟩
            have hR1 : seenIn L (n : Int) = true → L = R := fun h => by rw [← hR, followT, if_neg (fun h2 => by rw [h2.2] at h; cases h)]
            have hR2 : seenIn L (n : Int) = false → (match wayT kd i p with
              | none => L ++ [((n : Int), i, -1)]
              | some e => match nextT J (n : Int) e with
                | none => L ++ [((n : Int), i, e)]
                | some (s', i') => followT S J P (unseen sl L) (L ++ [((n : Int), i, e)]) s' i') = R := fun hsn => by
              rw [← hR, followT, if_pos ⟨hgood, hsn⟩, hkd', hp]
              rfl
            have HR1 := Lib.hid hR1
            have HR2 := Lib.hid hR2
            have HP := Lib.hid hp
            have hd1 : decide (sl ≤ n) = false := by simpa using hnl
            clear hR hR1 hR2 hp hkd' hgood hs0 hsl hi0 hil
            go_wp2_with (go_at_call 40; go_must (refine (endsR_any kd _).mono ?_; rintro e w5 ⟨rfl, hb5⟩; have F5 := hF.later hb5))
            obtain ⟨a', c', hv, hrows⟩ := own_rows F5.row rfl
            simp only [Value.slice.injEq, true_and] at hv
            obtain ⟨rfl, rfl⟩ := hv
            clear hF hb5 kW
            obtain ⟨N, hN⟩ : ∃ N, L.length = N := ⟨_, rfl⟩
            have hN63 : N ≤ 5864062014634 := by omega
            rw [hN] at hrows ⊢
            have HN := Lib.hid hN
            clear hN
            go_loopg [44] N (fun m c wr => ∃ j : Nat, j + m = N ∧ c = .int .i64 j ∧ Below w5.heap.size w5 wr ∧ seenIn (L.drop j) (n : Int) = seenIn L (n : Int))
            case atStart => exact ⟨0, by omega, rfl, Below.refl _ _, rfl⟩
            case round =>
              obtain ⟨j, hjm, rfl, hb6, hsj⟩ := hrel
              obtain ⟨W6, rfl⟩ : ∃ W6 : World, W6 = wr := ⟨_, rfl⟩
              have HSJ := Lib.hid hsj
              clear hsj
              have F6 := F5.later hb6
              by_cases hj : j < N
              · have hjd : decide ((j : Int) < (N : Int)) = true := by simpa using hj
                have hjl : (j : Int) < N := by omega
                obtain ⟨g', o', y, rfl, hg', -, hdj, hcy⟩ := (hrows.below hb6).row hj
                have ky := hcy 0 _ rfl
                have ky1 := hcy 1 _ rfl
                have ky2 := hcy 2 _ rfl
                rw [Nat.add_zero] at ky
                have HD := Lib.hid hdj
                clear hcy hdj
                by_cases hy : y.1 = (n : Int)
                · have b0 : (y.1 == (n : Int)) = true := by simpa using hy
                  have HF : Hid (L = R) := Lib.hid (HR1.out (by rw [← HSJ.out, HD.out]; simp [seenIn, hy]))
                  clear hy
                  go_wp2
                  go_ret
                  have F9 := F6.later (below_new (Below.refl _ _) (.cells #[.int .i64 y.1, .int .i64 y.2.1, .int .i64 y.2.2] 71))
                  have e := HN.out
                  subst e
                  exact ⟨_, rfl, by rw [HR.out, ← HF.out]; exact F9.row, F9.below⟩
                · have b0 : (y.1 == (n : Int)) = false := by simpa using hy
                  have HF : Hid (seenIn (y :: L.drop (j + 1)) (n : Int) = seenIn (L.drop (j + 1)) (n : Int)) := Lib.hid (by simp [seenIn, hy])
                  clear hy
                  go_wp2
                  go_roundg (N - j - 1)
                  case measure => omega
                  case rel => exact ⟨j + 1, by omega, by go_num, below_new hb6 _, by rw [← HF.out, ← HD.out]; exact HSJ.out⟩
              · have hjd : decide ((j : Int) < (N : Int)) = false := by simpa using hj
                have hsn : seenIn L (n : Int) = false := by
                  rw [← HSJ.out, List.drop_of_length_le (by rw [HN.out]; omega)]
                  rfl
                have hR2 := HR2.out hsn
                have HR3 := Lib.hid hR2
                have HSN := Lib.hid hsn
                have hN' := HN.out
                have hun : ∀ E : Int, unseen sl (L ++ [((n : Int), i, E)]) + 1 = unseen sl L := fun E => unseen_snoc (by omega) (by omega) hsn
                have hun0 := hun 0
                have hLs : L.length + 1 ≤ sl := by omega
                have kW6 := (F6.below.cell (p := ⟨g, o + n * 3, none⟩) hg).trans k0
                have hgW6 : g < W6.heap.size := World.block_lt_of_cell? _ _ kW6
                have HU := Lib.hid hun
                clear hR2 hsn hrows F5 hb6 hun hun0
                clear hN'
                go_upto_if 57 with (fail)
                go_cut [14] (fun s14 wx => s14 = .int .i64 p ∧ W6 = wx)
                case first =>
                  by_cases hpl : n < pl
                  · have hd : decide ((n : Int) < (pl : Int)) = true := by simpa using hpl
                    have i3 : (n : Int) < (pl : Int) := by omega
                    obtain ⟨gp, op, y, rfl, hgp, hy, -, hcy⟩ := hP.row hpl
                    have ky := hcy 0 _ rfl
                    rw [Nat.mul_one, Nat.add_zero] at ky
                    have ky6 := (F6.below.cell (p := ⟨gp, op + n, none⟩) hgp).trans ky
                    have HY := Lib.hid (posAt_of hy)
                    clear hcy ky hy hP
                    go_wp2
                    go_meet
                    case rel => exact ⟨by rw [← HP.out, HY.out], rfl⟩
                  · have hd : decide ((n : Int) < (pl : Int)) = false := by simpa using hpl
                    have HY : Hid (posAt P (n : Int) = 0) := Lib.hid (posAt_none (by omega))
                    go_wp2
                    go_meet
                    case rel => exact ⟨by rw [← HP.out, HY.out], rfl⟩
                case rest =>
                  obtain ⟨rfl, rfl⟩ := hcut
                  rw [← HN.out]
                  obtain ⟨i0', hi', hz0', hz1', hz2'⟩ := info_parts info_step
                  cases hw : wayT kd i p with
                  | none =>
                    have HF : Hid (L ++ [((n : Int), i, -1)] = R) := Lib.hid (by have := HR3.out; rw [hw] at this; exact this)
                    go_wp2_with (first
                      | (go_at_call 37; go_must (refine (wayR_any kd i p _).mono ?_; rintro e7 w7 ⟨rfl, hb7⟩; have G7 := F6.later hb7; have hz7 := G7.below.size; rw [hw]))
                      | (at_builtin; go_must (refine wpList_append_own_at _ rfl _ _ 72 rfl w.heap.size 71 i0' (.agg #[.int .i64 0, .int .i64 0, .int .i64 0]) 3 24 Try.underlying72 hi' hz0' hz1' hz2' rfl (by decide) _ L.length (flat L) rfl (G7.row.alloc _) ⟨_, 0, none⟩ 1 1 [.int .i64 (n : Int), .int .i64 i, .int .i64 (-1)] rfl rfl (news3' _ _ _ _ _ _ rfl) (one3 _ _ _) (by unfold maxLen; omega) (by omega) (by simp; omega) ?_; intro v8 w8 k1 k2 _ k3; have F8 := (G7.later (below_new (Below.refl _ _) _)).push k1 k2)))
                    go_ret
                    exact ⟨_, rfl, by rw [HR.out, ← HF.out]; exact F8.row, F8.below⟩
                  | some e =>
                    cases hnx : nextT J (n : Int) e with
                    | none =>
                      have HF : Hid (L ++ [((n : Int), i, e)] = R) := Lib.hid (by have := HR3.out; rw [hw] at this; simp only [hnx] at this; exact this)
                      go_wp2_with (first
                        | (go_at_call 37; go_must (refine (wayR_any kd i p _).mono ?_; rintro e7 w7 ⟨rfl, hb7⟩; have G7 := F6.later hb7; have hz7 := G7.below.size; rw [hw]))
                        | (at_builtin; go_must (refine wpList_append_own_at _ rfl _ _ 72 rfl w.heap.size 71 i0' (.agg #[.int .i64 0, .int .i64 0, .int .i64 0]) 3 24 Try.underlying72 hi' hz0' hz1' hz2' rfl (by decide) _ L.length (flat L) rfl (G7.row.alloc _) ⟨_, 0, none⟩ 1 1 [.int .i64 (n : Int), .int .i64 i, .int .i64 e] rfl rfl (news3' _ _ _ _ _ _ rfl) (one3 _ _ _) (by unfold maxLen; omega) (by omega) (by simp; omega) ?_; intro v8 w8 k1 k2 _ k3; have F8 := (G7.later (below_new (Below.refl _ _) _)).push k1 k2))
                        | (go_at_call 31; go_must (refine (nextR_any ja jl jc J (n : Int) e _ (hJ.below F8.below)).mono ?_; rintro e9 w9 ⟨rfl, hb9⟩; have F9 := F8.later hb9; rw [hnx])))
                      go_ret
                      exact ⟨_, rfl, by rw [HR.out, ← HF.out]; exact F9.row, F9.below⟩
                    | some q =>
                      obtain ⟨s', i'⟩ := q
                      have HF : Hid (followT S J P (unseen sl (L ++ [((n : Int), i, e)]) + 1) (L ++ [((n : Int), i, e)]) s' i' = R) := Lib.hid (by have := HR3.out; rw [hw] at this; simp only [hnx] at this; rw [HU.out e]; exact this)
                      go_wp2_with (first
                        | (go_at_call 37; go_must (refine (wayR_any kd i p _).mono ?_; rintro e7 w7 ⟨rfl, hb7⟩; have G7 := F6.later hb7; have hz7 := G7.below.size; rw [hw]))
                        | (at_builtin; go_must (refine wpList_append_own_at _ rfl _ _ 72 rfl w.heap.size 71 i0' (.agg #[.int .i64 0, .int .i64 0, .int .i64 0]) 3 24 Try.underlying72 hi' hz0' hz1' hz2' rfl (by decide) _ L.length (flat L) rfl (G7.row.alloc _) ⟨_, 0, none⟩ 1 1 [.int .i64 (n : Int), .int .i64 i, .int .i64 e] rfl rfl (news3' _ _ _ _ _ _ rfl) (one3 _ _ _) (by unfold maxLen; omega) (by omega) (by simp; omega) ?_; intro v8 w8 k1 k2 _ k3; have F8 := (G7.later (below_new (Below.refl _ _) _)).push k1 k2))
                        | (go_at_call 31; go_must (refine (nextR_any ja jl jc J (n : Int) e _ (hJ.below F8.below)).mono ?_; rintro e9 w9 ⟨rfl, hb9⟩; rw [hnx])))
                      have hun := HU.out e
                      go_roundg (unseen sl (L ++ [((n : Int), i, e)]) + 1)
                      case measure => omega
                      case rel => exact ⟨_, _, _, rfl, rfl, F8.later hb9, by simp only [List.length_append, List.length_cons, List.length_nil]; omega, rfl, HF.out⟩
          · have d3 : decide (endsT kd ≤ i) = true := by simpa using hil
            have HF : Hid (L = R) := Lib.hid (by rw [← hR, followT, if_neg (fun h => hil (by rw [← hkd']; exact h.1.2.2))])
            clear hR hkd' hil hsl
            go_wp2_with (go_at_call 40; go_must (refine (endsR_any kd _).mono ?_; rintro e w5 ⟨rfl, hb5⟩; have F5 := hF.later hb5))
            go_ret
            exact ⟨_, rfl, by rw [HR.out, ← HF.out]; exact F5.row, F5.below⟩
        · have d2 : decide (i < 0) = true := by simpa using hi0
          have HF : Hid (L = R) := Lib.hid (by rw [← hR, followT, if_neg (fun h => hi0 h.1.2.1)])
          clear hR hkd' hi0 hsl
          go_wp2
          go_ret
          exact ⟨_, rfl, by rw [HR.out, ← HF.out]; exact hF.row, hF.below⟩
      · have d1 : decide ((sl : Int) ≤ s) = true := by simpa using hsl
        have HF : Hid (L = R) := Lib.hid (by rw [← hR, followT, if_neg (fun h => hsl (by have := h.1.1.2; omega))])
        clear hR hsl hEk
        go_wp2
        go_ret
        exact ⟨_, rfl, by rw [HR.out, ← HF.out]; exact hF.row, hF.below⟩
    · have d0 : decide (s < 0) = true := by simpa using hs0
      have HF : Hid (L = R) := Lib.hid (by rw [← hR, followT, if_neg (fun h => hs0 h.1.1.1)])
      clear hR hs0 hEk
      go_wp2
      go_ret
      exact ⟨_, rfl, by rw [HR.out, ← HF.out]; exact hF.row, hF.below⟩
end Go.Proofs.Ytokldploloncgaa.topo
