/-
  Way of the reference, Pos and Ends of both.
-/
import Derived.Test.YtokldploloncgaaTopoB
namespace Go.Proofs.Ytokldploloncgaa.topo
open Go.RowKit

theorem box3 (W : World) (a b q : Int) (t : TypeId) : Below W.heap.size W (W.alloc (.cells #[.int .i64 a, .int .i64 b, .int .i64 q] t)) := below_new (Below.refl _ _) _

set_option maxHeartbeats 400000 in
theorem wayR_any (k i p : Int) (w : World) : Calls Try.prog 37 #[.int .i64 k, .int .i64 i, .int .i64 p] w fun e w' => e = .returned (ansV (wayT k i p)) ∧ Below w.heap.size w w' := by
  go_enter Try.func37, Try.ntmps37
  go_wp2_with (go_at_call 50; go_must (refine (waysR_any k _).mono ?_; rintro e w1 ⟨ao, n, rfl, hT, hb1⟩))
  obtain ⟨R, hR⟩ : ∃ R, wayT k i p = R := ⟨_, rfl⟩
  have hR0 : wayL ((tab k).drop 0) i p = R := hR
  have HR0 := Lib.hid hR0
  have HW := Lib.hid hR
  have hn2 := hT.small
  clear hR hR0
  go_loopg [13] n (fun m c wr => ∃ j : Nat, j + m = n ∧ c = .int .i64 j ∧ TabAt wr ao n (tab k) ∧ Below w.heap.size w wr ∧ wayL ((tab k).drop j) i p = R)
  case atStart => exact ⟨0, by omega, rfl, hT, hb1, HR0.out⟩
  case round =>
    clear hT hb1
    obtain ⟨j, hjm, rfl, hT, hbl, hR⟩ := hrel
    have HR := Lib.hid hR
    clear hR
    obtain ⟨W1, rfl⟩ : ∃ W1 : World, W1 = wr := ⟨_, rfl⟩
    by_cases hj : j < n
    · have hjd : decide ((j : Int) < (n : Int)) = true := by simpa using hj
      have hjl : (j : Int) < n := by omega
      obtain ⟨g, a, b, q, rfl, hg, hd, k0, k1, k2⟩ := hT.row hj
      have HD := Lib.hid hd
      clear hd
      by_cases hq : q = 0 ∨ q = p
      · by_cases ha : a = i
        · have c0 : (a == i) = true := by simpa using ha
          have HF : Hid (R = some b) := Lib.hid (by rw [← HR.out, HD.out, wayL, otherT, if_pos ha.symm]; simp only; rw [if_pos hq])
          by_cases hq0 : q = 0
          · have b0 : (q != 0) = false := by simpa using hq0
            clear hq hq0 ha
            go_wp2
            go_ret2
            exact ⟨by rw [HW.out, HF.out]; rfl, below_new hbl _⟩
          · have b0 : (q != 0) = true := by simpa using hq0
            have b1 : (q != p) = false := by simpa using hq.resolve_left hq0
            clear hq hq0 ha
            go_wp2
            go_ret2
            exact ⟨by rw [HW.out, HF.out]; rfl, below_new hbl _⟩
        · have c0 : (a == i) = false := by simpa using ha
          by_cases hb : b = i
          · have c1 : (b == i) = true := by simpa using hb
            have HF : Hid (R = some a) := Lib.hid (by rw [← HR.out, HD.out, wayL, otherT, if_neg (Ne.symm ha), if_pos hb.symm]; simp only; rw [if_pos hq])
            by_cases hq0 : q = 0
            · have b0 : (q != 0) = false := by simpa using hq0
              clear hq hq0 ha hb
              go_wp2
              go_ret2
              exact ⟨by rw [HW.out, HF.out]; rfl, below_new hbl _⟩
            · have b0 : (q != 0) = true := by simpa using hq0
              have b1 : (q != p) = false := by simpa using hq.resolve_left hq0
              clear hq hq0 ha hb
              go_wp2
              go_ret2
              exact ⟨by rw [HW.out, HF.out]; rfl, below_new hbl _⟩
          · have c1 : (b == i) = false := by simpa using hb
            have HF : Hid (wayL ((a, b, q) :: (tab k).drop (j + 1)) i p = wayL ((tab k).drop (j + 1)) i p) := Lib.hid (by rw [wayL, otherT, if_neg (Ne.symm ha), if_neg (Ne.symm hb)])
            by_cases hq0 : q = 0
            · have b0 : (q != 0) = false := by simpa using hq0
              clear hq hq0 ha hb
              go_wp2
              go_roundg (n - j - 1)
              case measure => omega
              case rel => exact ⟨j + 1, by omega, by go_num, hT.below (box3 _ _ _ _ _), below_new hbl _, by rw [← HF.out, ← HD.out]; exact HR.out⟩
            · have b0 : (q != 0) = true := by simpa using hq0
              have b1 : (q != p) = false := by simpa using hq.resolve_left hq0
              clear hq hq0 ha hb
              go_wp2
              go_roundg (n - j - 1)
              case measure => omega
              case rel => exact ⟨j + 1, by omega, by go_num, hT.below (box3 _ _ _ _ _), below_new hbl _, by rw [← HF.out, ← HD.out]; exact HR.out⟩
      · have b0 : (q != 0) = true := by simp; omega
        have b1 : (q != p) = true := by simp; omega
        have HF : Hid (wayL ((a, b, q) :: (tab k).drop (j + 1)) i p = wayL ((tab k).drop (j + 1)) i p) := Lib.hid (by
          rw [wayL]
          cases otherT a b i with
          | none => rfl
          | some o => simp only; rw [if_neg hq])
        clear hq
        go_wp2
        go_roundg (n - j - 1)
        case measure => omega
        case rel => exact ⟨j + 1, by omega, by go_num, hT.below (box3 _ _ _ _ _), below_new hbl _, by rw [← HF.out, ← HD.out]; exact HR.out⟩
    · have hjd : decide ((j : Int) < (n : Int)) = false := by simpa using hj
      have hl := hT.len
      have HF : Hid (R = none) := Lib.hid (by rw [← HR.out, List.drop_of_length_le (by omega)]; rfl)
      clear hl
      go_wp2
      go_ret2
      exact ⟨by rw [HW.out, HF.out]; rfl, hbl⟩

set_option maxHeartbeats 400000 in
theorem pos_any (k i o : Int) (w : World) : Calls Try.prog 38 #[.int .i64 k, .int .i64 i, .int .i64 o] w fun e w' => e = .returned (ansV (posT k i o)) ∧ Below w.heap.size w w' := by
  go_enter Try.func38, Try.ntmps38
  go_wp2_with (go_at_call 48; go_must (refine (ways_any k _).mono ?_; rintro e w1 ⟨ao, n, rfl, hT, hb1⟩))
  obtain ⟨R, hR⟩ : ∃ R, posT k i o = R := ⟨_, rfl⟩
  have hR0 : posL ((tab k).drop 0) i o = R := hR
  have HR0 := Lib.hid hR0
  have HW := Lib.hid hR
  have hn2 := hT.small
  clear hR hR0
  go_loopg [15] n (fun m c wr => ∃ j : Nat, j + m = n ∧ c = .int .i64 j ∧ TabAt wr ao n (tab k) ∧ Below w.heap.size w wr ∧ posL ((tab k).drop j) i o = R)
  case atStart => exact ⟨0, by omega, rfl, hT, hb1, HR0.out⟩
  case round =>
    clear hT hb1
    obtain ⟨j, hjm, rfl, hT, hbl, hR⟩ := hrel
    have HR := Lib.hid hR
    clear hR
    obtain ⟨W1, rfl⟩ : ∃ W1 : World, W1 = wr := ⟨_, rfl⟩
    by_cases hj : j < n
    · have hjd : decide ((j : Int) < (n : Int)) = true := by simpa using hj
      have hjl : (j : Int) < n := by omega
      obtain ⟨g, a, b, q, rfl, hg, hd, k0, k1, k2⟩ := hT.row hj
      have HD := Lib.hid hd
      clear hd
      cases ho : otherT a b i with
      | none =>
        have HF : Hid (posL ((a, b, q) :: (tab k).drop (j + 1)) i o = posL ((tab k).drop (j + 1)) i o) := Lib.hid (by rw [posL, ho, if_neg (by simp)])
        go_wp2_with (go_at_call 49; go_must (refine (other_any a b q i _).mono ?_; rintro e w5 ⟨rfl, hb5⟩; rw [ho]))
        go_roundg (n - j - 1)
        case measure => omega
        case rel =>
          have hb := (box3 W1 a b q 101).trans (hb5.mono (by simp))
          exact ⟨j + 1, by omega, by go_num, hT.below hb, below_step hbl hb, by rw [← HF.out, ← HD.out]; exact HR.out⟩
      | some x =>
        by_cases hx : x = o
        · have b0 : (x == o) = true := by simpa using hx
          have HF : Hid (R = some q) := Lib.hid (by rw [← HR.out, HD.out, posL, ho, hx, if_pos rfl])
          clear hx
          go_wp2_with (go_at_call 49; go_must (refine (other_any a b q i _).mono ?_; rintro e w5 ⟨rfl, hb5⟩; obtain ⟨c5, f5⟩ := below_reads hb5; rw [ho]))
          go_ret2
          exact ⟨by rw [HW.out, HF.out]; rfl, below_step (below_new hbl _) hb5⟩
        · have b0 : (x == o) = false := by simpa using hx
          have HF : Hid (posL ((a, b, q) :: (tab k).drop (j + 1)) i o = posL ((tab k).drop (j + 1)) i o) := Lib.hid (by rw [posL, ho, if_neg (by simpa using hx)])
          clear hx
          go_wp2_with (go_at_call 49; go_must (refine (other_any a b q i _).mono ?_; rintro e w5 ⟨rfl, hb5⟩; obtain ⟨c5, f5⟩ := below_reads hb5; rw [ho]))
          go_roundg (n - j - 1)
          case measure => omega
          case rel =>
            have hb := (box3 W1 a b q 101).trans (hb5.mono (by simp))
            exact ⟨j + 1, by omega, by go_num, hT.below hb, below_step hbl hb, by rw [← HF.out, ← HD.out]; exact HR.out⟩
    · have hjd : decide ((j : Int) < (n : Int)) = false := by simpa using hj
      have hl := hT.len
      have HF : Hid (R = none) := Lib.hid (by rw [← HR.out, List.drop_of_length_le (by omega)]; rfl)
      clear hl
      go_wp2
      go_ret2
      exact ⟨by rw [HW.out, HF.out]; rfl, hbl⟩

set_option maxHeartbeats 800000 in
theorem posR_any (k i o : Int) (w : World) : Calls Try.prog 39 #[.int .i64 k, .int .i64 i, .int .i64 o] w fun e w' => e = .returned (ansV (posT k i o)) ∧ Below w.heap.size w w' := by
  go_enter Try.func39, Try.ntmps39
  go_wp2_with (go_at_call 50; go_must (refine (waysR_any k _).mono ?_; rintro e w1 ⟨ao, n, rfl, hT, hb1⟩))
  obtain ⟨R, hR⟩ : ∃ R, posT k i o = R := ⟨_, rfl⟩
  have hR0 : posL ((tab k).drop 0) i o = R := hR
  have HR0 := Lib.hid hR0
  have HW := Lib.hid hR
  have hn2 := hT.small
  clear hR hR0
  go_loopg [13] n (fun m c wr => ∃ j : Nat, j + m = n ∧ c = .int .i64 j ∧ TabAt wr ao n (tab k) ∧ Below w.heap.size w wr ∧ posL ((tab k).drop j) i o = R)
  case atStart => exact ⟨0, by omega, rfl, hT, hb1, HR0.out⟩
  case round =>
    clear hT hb1
    obtain ⟨j, hjm, rfl, hT, hbl, hR⟩ := hrel
    have HR := Lib.hid hR
    clear hR
    obtain ⟨W1, rfl⟩ : ∃ W1 : World, W1 = wr := ⟨_, rfl⟩
    by_cases hj : j < n
    · have hjd : decide ((j : Int) < (n : Int)) = true := by simpa using hj
      have hjl : (j : Int) < n := by omega
      obtain ⟨g, a, b, q, rfl, hg, hd, k0, k1, k2⟩ := hT.row hj
      have HD := Lib.hid hd
      clear hd
      by_cases hx : otherT a b i = some o
      · have HF : Hid (R = some q) := Lib.hid (by rw [← HR.out, HD.out, posL, if_pos hx])
        unfold otherT at hx
        by_cases h1 : i = a
        · rw [if_pos h1] at hx
          injection hx with hx
          have c1 : (a == i) = true := by simp [h1]
          have c2 : (b == o) = true := by simpa using hx
          clear h1 hx
          go_wp2
          go_ret2
          exact ⟨by rw [HW.out, HF.out]; rfl, below_new hbl _⟩
        · rw [if_neg h1] at hx
          by_cases h2 : i = b
          · rw [if_pos h2] at hx
            injection hx with hx
            have c1 : (a == i) = false := by simpa using (Ne.symm h1)
            have c2 : (b == i) = true := by simp [h2]
            have c3 : (a == o) = true := by simpa using hx
            clear h1 h2 hx
            go_wp2
            go_ret2
            exact ⟨by rw [HW.out, HF.out]; rfl, below_new hbl _⟩
          · rw [if_neg h2] at hx
            cases hx
      · have HF : Hid (posL ((a, b, q) :: (tab k).drop (j + 1)) i o = posL ((tab k).drop (j + 1)) i o) := Lib.hid (by rw [posL, if_neg hx])
        unfold otherT at hx
        by_cases h1 : i = a
        · rw [if_pos h1] at hx
          have hx : ¬ b = o := fun e => hx (by rw [e])
          have c1 : (a == i) = true := by simp [h1]
          have c2 : (b == o) = false := by simpa using hx
          by_cases h2 : b = i
          · have c3 : (b == i) = true := by simpa using h2
            have c4 : (a == o) = false := by simp; omega
            clear h1 h2 hx
            go_wp2
            go_roundg (n - j - 1)
            case measure => omega
            case rel => exact ⟨j + 1, by omega, by go_num, hT.below (box3 _ _ _ _ _), below_new hbl _, by rw [← HF.out, ← HD.out]; exact HR.out⟩
          · have c3 : (b == i) = false := by simpa using h2
            clear h1 h2 hx
            go_wp2
            go_roundg (n - j - 1)
            case measure => omega
            case rel => exact ⟨j + 1, by omega, by go_num, hT.below (box3 _ _ _ _ _), below_new hbl _, by rw [← HF.out, ← HD.out]; exact HR.out⟩
        · rw [if_neg h1] at hx
          have c1 : (a == i) = false := by simpa using (Ne.symm h1)
          by_cases h2 : i = b
          · rw [if_pos h2] at hx
            have hx : ¬ a = o := fun e => hx (by rw [e])
            have c2 : (b == i) = true := by simp [h2]
            have c3 : (a == o) = false := by simpa using hx
            clear h1 h2 hx
            go_wp2
            go_roundg (n - j - 1)
            case measure => omega
            case rel => exact ⟨j + 1, by omega, by go_num, hT.below (box3 _ _ _ _ _), below_new hbl _, by rw [← HF.out, ← HD.out]; exact HR.out⟩
          · have c2 : (b == i) = false := by simpa using (Ne.symm h2)
            clear h1 h2 hx
            go_wp2
            go_roundg (n - j - 1)
            case measure => omega
            case rel => exact ⟨j + 1, by omega, by go_num, hT.below (box3 _ _ _ _ _), below_new hbl _, by rw [← HF.out, ← HD.out]; exact HR.out⟩
    · have hjd : decide ((j : Int) < (n : Int)) = false := by simpa using hj
      have hl := hT.len
      have HF : Hid (R = none) := Lib.hid (by rw [← HR.out, List.drop_of_length_le (by omega)]; rfl)
      clear hl
      go_wp2
      go_ret2
      exact ⟨by rw [HW.out, HF.out]; rfl, hbl⟩

/-- What max of a table's ends comes to, row by row. -/
def endsL : List (Int × Int × Int) → Int → Int
  | [], m => m
  | (a, b, _) :: r, m => endsL r (if (if m < a + 1 then a + 1 else m) < b + 1 then b + 1 else if m < a + 1 then a + 1 else m)
theorem endsL_tab (k : Int) : endsL (tab k) 0 = endsT k := by
  unfold tab endsT
  split
  · rfl
  · split
    · rfl
    · split <;> rfl
/-- The tables' numbers are small. -/
theorem tab_small {k : Int} {j : Nat} {a b q : Int} {r : List (Int × Int × Int)} (h : (tab k).drop j = (a, b, q) :: r) : 0 ≤ a ∧ a ≤ 3 ∧ 0 ≤ b ∧ b ≤ 3 ∧ 0 ≤ q ∧ q ≤ 2 := by
  have hm : (a, b, q) ∈ tab k := List.mem_of_mem_drop (by rw [h]; simp)
  unfold tab at hm
  split at hm
  · simp at hm; omega
  · split at hm
    · simp at hm; omega
    · split at hm
      · simp at hm; omega
      · simp at hm
end Go.Proofs.Ytokldploloncgaa.topo
