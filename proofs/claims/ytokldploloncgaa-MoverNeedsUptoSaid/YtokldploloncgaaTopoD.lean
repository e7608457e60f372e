/-
  Ends and Next of both, rows of records in memory.
-/
import Derived.Test.YtokldploloncgaaTopoC
import Derived.WalkLawsBesides
import Derived.Deep.QuietTactic
namespace Go.Proofs.Ytokldploloncgaa.topo
open Go.RowKit

set_option maxHeartbeats 400000 in
theorem ends_any (k : Int) (w : World) : Calls Try.prog 35 #[.int .i64 k] w fun e w' => e = .returned (.int .i64 (endsT k)) ∧ Below w.heap.size w w' := by
  go_enter Try.func35, Try.ntmps35
  go_wp2_with (go_at_call 48; go_must (refine (ways_any k _).mono ?_; rintro e w1 ⟨ao, n, rfl, hT, hb1⟩))
  obtain ⟨R, hR⟩ : ∃ R, endsT k = R := ⟨_, rfl⟩
  have hR0 : endsL ((tab k).drop 0) 0 = R := by rw [List.drop_zero, endsL_tab]; exact hR
  have HR0 := Lib.hid hR0
  have HW := Lib.hid hR
  have hn2 := hT.small
  clear hR hR0
  go_loopg [9, 3] n (fun m c s wr => ∃ (j : Nat) (x : Int), j + m = n ∧ c = .int .i64 j ∧ s = .int .i64 x ∧ (0 ≤ x ∧ x ≤ 4) ∧ TabAt wr ao n (tab k) ∧ Below w.heap.size w wr ∧ endsL ((tab k).drop j) x = R)
  case atStart => exact ⟨0, 0, by omega, rfl, rfl, by omega, hT, hb1, HR0.out⟩
  case round =>
    clear hT hb1
    obtain ⟨j, x, hjm, rfl, rfl, ⟨hx0, hx4⟩, hT, hbl, hR⟩ := hrel
    have HR := Lib.hid hR
    clear hR
    by_cases hj : j < n
    · have hjd : decide ((j : Int) < (n : Int)) = true := by simpa using hj
      have hjl : (j : Int) < n := by omega
      obtain ⟨g, a, b, q, rfl, hg, hd, k0, k1, k2⟩ := hT.row hj
      obtain ⟨s1, s2, s3, s4, s5, s6⟩ := tab_small hd
      have HD := Lib.hid hd
      clear hd
      go_wp2
      all_goals
        go_roundg (n - j - 1)
        case measure => omega
        case rel => exact ⟨j + 1, _, by omega, by go_num, rfl, by (try split) <;> (try split) <;> omega, hT.below (box3 _ _ _ _ _), below_new hbl _, by
          rw [← HR.out, HD.out, endsL]
          first
            | rfl
            | (congr 1; (repeat' split) <;> omega)⟩
    · have hjd : decide ((j : Int) < (n : Int)) = false := by simpa using hj
      have hl := hT.len
      have HF : Hid (x = R) := Lib.hid (by rw [← HR.out, List.drop_of_length_le (by omega)]; rfl)
      clear hl
      go_wp2
      go_ret
      exact ⟨by rw [HW.out, ← HF.out]; rfl, hbl⟩
set_option maxHeartbeats 400000 in
theorem endsR_any (k : Int) (w : World) : Calls Try.prog 40 #[.int .i64 k] w fun e w' => e = .returned (.int .i64 (endsT k)) ∧ Below w.heap.size w w' := by
  go_enter Try.func40, Try.ntmps40
  go_wp2_with (go_at_call 50; go_must (refine (waysR_any k _).mono ?_; rintro e w1 ⟨ao, n, rfl, hT, hb1⟩))
  obtain ⟨R, hR⟩ : ∃ R, endsT k = R := ⟨_, rfl⟩
  have hR0 : endsL ((tab k).drop 0) 0 = R := by rw [List.drop_zero, endsL_tab]; exact hR
  have HR0 := Lib.hid hR0
  have HW := Lib.hid hR
  have hn2 := hT.small
  clear hR hR0
  go_loopg [9, 3] n (fun m c s wr => ∃ (j : Nat) (x : Int), j + m = n ∧ c = .int .i64 j ∧ s = .int .i64 x ∧ (0 ≤ x ∧ x ≤ 4) ∧ TabAt wr ao n (tab k) ∧ Below w.heap.size w wr ∧ endsL ((tab k).drop j) x = R)
  case atStart => exact ⟨0, 0, by omega, rfl, rfl, by omega, hT, hb1, HR0.out⟩
  case round =>
    clear hT hb1
    obtain ⟨j, x, hjm, rfl, rfl, ⟨hx0, hx4⟩, hT, hbl, hR⟩ := hrel
    have HR := Lib.hid hR
    clear hR
    by_cases hj : j < n
    · have hjd : decide ((j : Int) < (n : Int)) = true := by simpa using hj
      have hjl : (j : Int) < n := by omega
      obtain ⟨g, a, b, q, rfl, hg, hd, k0, k1, k2⟩ := hT.row hj
      obtain ⟨s1, s2, s3, s4, s5, s6⟩ := tab_small hd
      have HD := Lib.hid hd
      clear hd
      go_wp2
      all_goals
        go_roundg (n - j - 1)
        case measure => omega
        case rel => exact ⟨j + 1, _, by omega, by go_num, rfl, by (try split) <;> (try split) <;> omega, hT.below (box3 _ _ _ _ _), below_new hbl _, by
          rw [← HR.out, HD.out, endsL]
          first
            | rfl
            | (congr 1; (repeat' split) <;> omega)⟩
    · have hjd : decide ((j : Int) < (n : Int)) = false := by simpa using hj
      have hl := hT.len
      have HF : Hid (x = R) := Lib.hid (by rw [← HR.out, List.drop_of_length_le (by omega)]; rfl)
      clear hl
      go_wp2
      go_ret
      exact ⟨by rw [HW.out, ← HF.out]; rfl, hbl⟩
/-- Rows of records in memory: m cells each. -/
structure RowsAt {α : Type} (m : Nat) (enc : α → List Value) (w : World) (ao : Option Addr) (ln lc : Nat) (L : List α) : Prop where
  len : L.length = ln
  le : ln ≤ lc
  max : lc ≤ 9223372036854775807
  nil : ao = none → lc = 0
  at' : ln = 0 ∨ ∃ g o, ao = some ⟨g, o, none⟩ ∧ g < w.heap.size ∧ ∀ i x, L[i]? = some x → ∀ j u, (enc x)[j]? = some u → w.cell? ⟨g, o + i * m + j, none⟩ = some u

section
variable {α : Type} {m : Nat} {enc : α → List Value} {w w' : World} {ao : Option Addr} {ln lc : Nat} {L : List α}
theorem RowsAt.below (h : RowsAt m enc w ao ln lc L) (hb : Below w.heap.size w w') : RowsAt m enc w' ao ln lc L := by
  refine ⟨h.len, h.le, h.max, h.nil, ?_⟩
  rcases h.at' with h0 | ⟨g, o, e, hg, hc⟩
  · exact .inl h0
  · exact .inr ⟨g, o, e, Nat.lt_of_lt_of_le hg hb.size, fun i x hx j u hu => (hb.cell (p := ⟨g, o + i * m + j, none⟩) hg).trans (hc i x hx j u hu)⟩
theorem RowsAt.row (h : RowsAt m enc w ao ln lc L) {i : Nat} (hi : i < ln) : ∃ g o x, ao = some ⟨g, o, none⟩ ∧ g < w.heap.size ∧ L[i]? = some x ∧ L.drop i = x :: L.drop (i + 1) ∧ ∀ j u, (enc x)[j]? = some u → w.cell? ⟨g, o + i * m + j, none⟩ = some u := by
  obtain ⟨g, o, e, hg, hc⟩ := h.at'.resolve_left (by omega)
  have hl := h.len
  obtain ⟨x, hx⟩ : ∃ x, L[i]? = some x := ⟨_, List.getElem?_eq_getElem (by omega)⟩
  exact ⟨g, o, x, e, hg, hx, drop_at hx, hc i x hx⟩
end

/-- Numbers, pairs, threes, fours. -/
def enc1 (x : Int) : List Value := [.int .i64 x]
def enc2 (x : Int × Int) : List Value := [.int .i64 x.1, .int .i64 x.2]
def enc3 (x : Int × Int × Int) : List Value := [.int .i64 x.1, .int .i64 x.2.1, .int .i64 x.2.2]
def enc4 (x : Int × Int × Int × Int) : List Value := [.int .i64 x.1, .int .i64 x.2.1, .int .i64 x.2.2.1, .int .i64 x.2.2.2]

/-- What meets an end. -/
def nextT : List (Int × Int × Int × Int) → Int → Int → Option (Int × Int)
  | [], _, _ => none
  | (a, ae, b, be) :: r, s, e => if a = s ∧ ae = e then some (b, be) else if b = s ∧ be = e then some (a, ae) else nextT r s e
def ansP : Option (Int × Int) → Value
  | some (x, y) => .tuple #[.int .i64 x, .int .i64 y, .bool true]
  | none => .tuple #[.int .i64 0, .int .i64 0, .bool false]

theorem not_both {a b c d : Int} (h : ¬(a = b ∧ c = d)) : (a == b) = false ∨ (a == b) = true ∧ (c == d) = false := by
  by_cases h1 : a = b
  · right; simp only [h1, true_and] at h; simp [h1, h]
  · left; simpa using h1

set_option maxHeartbeats 1000000 in
theorem next_any (ao : Option Addr) (ln lc : Nat) (J : List (Int × Int × Int × Int)) (s e : Int) (w : World) (hJ : RowsAt 4 enc4 w ao ln lc J) :
    Calls Try.prog 30 #[.slice ao ln lc, .int .i64 s, .int .i64 e] w fun e' w' => e' = .returned (ansP (nextT J s e)) ∧ Below w.heap.size w w' := by
  have hle := hJ.le
  have hmax := hJ.max
  obtain ⟨R, hR⟩ : ∃ R, nextT J s e = R := ⟨_, rfl⟩
  have HR0 : Hid (nextT (J.drop 0) s e = R) := Lib.hid (by rw [List.drop_zero]; exact hR)
  have HW := Lib.hid hR
  clear hR
  go_enter Try.func30, Try.ntmps30
  go_wp2
  go_loopg [13] ln (fun m c wr => ∃ j : Nat, j + m = ln ∧ c = .int .i64 j ∧ RowsAt 4 enc4 wr ao ln lc J ∧ Below w.heap.size w wr ∧ nextT (J.drop j) s e = R)
  case atStart => exact ⟨0, by omega, rfl, hJ, Below.refl _ _, HR0.out⟩
  case round =>
    clear hJ
    obtain ⟨j, hjm, rfl, hJ, hbl, hR⟩ := hrel
    have HR := Lib.hid hR
    clear hR
    by_cases hj : j < ln
    · have hjd : decide ((j : Int) < (ln : Int)) = true := by simpa using hj
      have hjl : (j : Int) < ln := by omega
      obtain ⟨g, o, x, rfl, hg, -, hd, hc⟩ := hJ.row hj
      obtain ⟨a, ae, b, be⟩ := x
      have k0 := hc 0 _ rfl
      have k1 := hc 1 _ rfl
      have k2 := hc 2 _ rfl
      have k3 := hc 3 _ rfl
      simp only [Nat.add_zero] at k0
      have HD := Lib.hid hd
      clear hd hc
      by_cases h1 : a = s ∧ ae = e
      · have HF : Hid (R = some (b, be)) := Lib.hid (by rw [← HR.out, HD.out, nextT, if_pos h1])
        have c1 : (a == s) = true := by simp [h1.1]
        have c2 : (ae == e) = true := by simp [h1.2]
        clear h1
        go_wp2
        go_quiet (fail)
        go_wp2
        go_ret3
        exact ⟨by rw [HW.out, HF.out]; rfl, below_drewN (below_new hbl _) _⟩
      · by_cases h2 : b = s ∧ be = e
        · have HF : Hid (R = some (a, ae)) := Lib.hid (by rw [← HR.out, HD.out, nextT, if_neg h1, if_pos h2])
          have d1 : (b == s) = true := by simp [h2.1]
          have d2 : (be == e) = true := by simp [h2.2]
          rcases not_both h1 with c1 | ⟨c1, c2⟩
          all_goals
            clear h1 h2
            go_wp2
            go_quiet (fail)
            go_wp2
            go_ret3
            exact ⟨by rw [HW.out, HF.out]; rfl, below_drewN (below_new hbl _) _⟩
        · have HF : Hid (nextT ((a, ae, b, be) :: J.drop (j + 1)) s e = nextT (J.drop (j + 1)) s e) := Lib.hid (by rw [nextT, if_neg h1, if_neg h2])
          rcases not_both h1 with c1 | ⟨c1, c2⟩ <;> rcases not_both h2 with d1 | ⟨d1, d2⟩
          all_goals
            clear h1 h2
            go_wp2
            go_roundg (ln - j - 1)
            case measure => omega
            case rel => exact ⟨j + 1, by omega, by go_num, hJ.below (below_new (Below.refl _ _) _), below_new hbl _, by rw [← HF.out, ← HD.out]; exact HR.out⟩
    · have hjd : decide ((j : Int) < (ln : Int)) = false := by simpa using hj
      have hl := hJ.len
      have HF : Hid (R = none) := Lib.hid (by rw [← HR.out, List.drop_of_length_le (by omega)]; rfl)
      clear hl
      go_wp2
      go_ret3
      exact ⟨by rw [HW.out, HF.out]; rfl, hbl⟩

set_option maxHeartbeats 1000000 in
theorem nextR_any (ao : Option Addr) (ln lc : Nat) (J : List (Int × Int × Int × Int)) (s e : Int) (w : World) (hJ : RowsAt 4 enc4 w ao ln lc J) :
    Calls Try.prog 31 #[.slice ao ln lc, .int .i64 s, .int .i64 e] w fun e' w' => e' = .returned (ansP (nextT J s e)) ∧ Below w.heap.size w w' := by
  have hle := hJ.le
  have hmax := hJ.max
  obtain ⟨R, hR⟩ : ∃ R, nextT J s e = R := ⟨_, rfl⟩
  have HR0 : Hid (nextT (J.drop 0) s e = R) := Lib.hid (by rw [List.drop_zero]; exact hR)
  have HW := Lib.hid hR
  clear hR
  go_enter Try.func31, Try.ntmps31
  go_wp2
  go_loopg [13] ln (fun m c wr => ∃ j : Nat, j + m = ln ∧ c = .int .i64 j ∧ RowsAt 4 enc4 wr ao ln lc J ∧ Below w.heap.size w wr ∧ nextT (J.drop j) s e = R)
  case atStart => exact ⟨0, by omega, rfl, hJ, Below.refl _ _, HR0.out⟩
  case round =>
    clear hJ
    obtain ⟨j, hjm, rfl, hJ, hbl, hR⟩ := hrel
    have HR := Lib.hid hR
    clear hR
    by_cases hj : j < ln
    · have hjd : decide ((j : Int) < (ln : Int)) = true := by simpa using hj
      have hjl : (j : Int) < ln := by omega
      obtain ⟨g, o, x, rfl, hg, -, hd, hc⟩ := hJ.row hj
      obtain ⟨a, ae, b, be⟩ := x
      have k0 := hc 0 _ rfl
      have k1 := hc 1 _ rfl
      have k2 := hc 2 _ rfl
      have k3 := hc 3 _ rfl
      simp only [Nat.add_zero] at k0
      have HD := Lib.hid hd
      clear hd hc
      by_cases h1 : a = s ∧ ae = e
      · have HF : Hid (R = some (b, be)) := Lib.hid (by rw [← HR.out, HD.out, nextT, if_pos h1])
        have c1 : (a == s) = true := by simp [h1.1]
        have c2 : (ae == e) = true := by simp [h1.2]
        clear h1
        go_wp2
        go_quiet (fail)
        go_wp2
        go_ret3
        exact ⟨by rw [HW.out, HF.out]; rfl, below_drewN (below_new hbl _) _⟩
      · by_cases h2 : b = s ∧ be = e
        · have HF : Hid (R = some (a, ae)) := Lib.hid (by rw [← HR.out, HD.out, nextT, if_neg h1, if_pos h2])
          have d1 : (b == s) = true := by simp [h2.1]
          have d2 : (be == e) = true := by simp [h2.2]
          rcases not_both h1 with c1 | ⟨c1, c2⟩
          all_goals
            clear h1 h2
            go_wp2
            go_quiet (fail)
            go_wp2
            go_ret3
            exact ⟨by rw [HW.out, HF.out]; rfl, below_drewN (below_new hbl _) _⟩
        · have HF : Hid (nextT ((a, ae, b, be) :: J.drop (j + 1)) s e = nextT (J.drop (j + 1)) s e) := Lib.hid (by rw [nextT, if_neg h1, if_neg h2])
          rcases not_both h1 with c1 | ⟨c1, c2⟩ <;> rcases not_both h2 with d1 | ⟨d1, d2⟩
          all_goals
            clear h1 h2
            go_wp2
            go_roundg (ln - j - 1)
            case measure => omega
            case rel => exact ⟨j + 1, by omega, by go_num, hJ.below (below_new (Below.refl _ _) _), below_new hbl _, by rw [← HF.out, ← HD.out]; exact HR.out⟩
    · have hjd : decide ((j : Int) < (ln : Int)) = false := by simpa using hj
      have hl := hJ.len
      have HF : Hid (R = none) := Lib.hid (by rw [← HR.out, List.drop_of_length_le (by omega)]; rfl)
      clear hl
      go_wp2
      go_ret3
      exact ⟨by rw [HW.out, HF.out]; rfl, hbl⟩

end Go.Proofs.Ytokldploloncgaa.topo
