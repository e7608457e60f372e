/-
  The reference's count of an end, and its Check.
-/
import Derived.Test.YtokldploloncgaaTopoW
import Derived.Test.YtokldploloncgaaTopoP
import Derived.Deep.CutBlock
import Derived.Outline
namespace Go.Proofs.Ytokldploloncgaa.topo
open Go.RowKit

theorem spots_len (J : List (Int × Int × Int × Int)) : (spots J).length = 2 * J.length := by
  induction J with
  | nil => rfl
  | cons x r ih =>
    have : spots (x :: r) = [(x.1, x.2.1), (x.2.2.1, x.2.2.2)] ++ spots r := by obtain ⟨a, b, c, d⟩ := x; simp [spots]
    rw [this, List.length_append, ih]
    simp
    omega
theorem spots_step {J : List (Int × Int × Int × Int)} {j : Nat} {a ae b be : Int} (h : J[j]? = some (a, ae, b, be)) (s e : Int) :
    (spots (J.take (j + 1))).count (s, e) = (spots (J.take j)).count (s, e) + (if a = s ∧ ae = e then 1 else 0) + (if b = s ∧ be = e then 1 else 0) := by
  rw [List.take_add_one, h]
  simp only [Option.toList_some, spots_snoc, List.count_append, List.count_cons, List.count_nil, Nat.zero_add, beq_iff_eq, Prod.mk.injEq]
  omega

set_option maxRecDepth 100000 in
set_option maxHeartbeats 1000000 in
theorem countR_any (ao : Option Addr) (ln lc : Nat) (J : List (Int × Int × Int × Int)) (s e : Int) (w : World) (hJ : RowsAt 4 enc4 w ao ln lc J) (hr : ln ≤ 140737488351232) :
    Calls Try.prog 47 #[.slice ao ln lc, .int .i64 s, .int .i64 e] w fun e' w' => e' = .returned (.int .i64 ((spots J).count (s, e) : Nat)) ∧ Below w.heap.size w w' := by
  have hle := hJ.le
  have hmax := hJ.max
  go_enter Try.func47, Try.ntmps47
  go_wp2
  go_loopg [7, 12] ln (fun m vn vj wr => ∃ j : Nat, j + m = ln ∧ vn = .int .i64 ((spots (J.take j)).count (s, e) : Nat) ∧ vj = .int .i64 j ∧ Below w.heap.size w wr)
  case atStart => exact ⟨0, by omega, rfl, rfl, Below.refl _ _⟩
  case round =>
    obtain ⟨j, hjm, rfl, rfl, hbl⟩ := hrel
    by_cases hj : j < ln
    · have hjd : decide ((j : Int) < (ln : Int)) = true := by simpa using hj
      have hjl : (j : Int) < ln := by omega
      obtain ⟨g, o, x, rfl, hg, hx, -, hc⟩ := (hJ.below hbl).row hj
      obtain ⟨a, ae, b, be⟩ := x
      have hst := spots_step hx s e
      have hlen := spots_len (J.take j)
      have hcl := List.count_le_length (a := (s, e)) (l := spots (J.take j))
      rw [List.length_take] at hlen
      obtain ⟨C, hC⟩ : ∃ C, (spots (J.take j)).count (s, e) = C := ⟨_, rfl⟩
      rw [hC] at hst hcl ⊢
      have hC2 : C ≤ 2 * j := by omega
      have hw1 : IntKind.i64.wrap ((C : Int) + 1) = (C : Int) + 1 := by rw [IntWalk.i64_in _ (by omega)]
      have hw2 : IntKind.i64.wrap ((C : Int) + 1 + 1) = (C : Int) + 1 + 1 := by rw [IntWalk.i64_in _ (by omega)]
      have k0 := hc 0 _ rfl
      have k1 := hc 1 _ rfl
      have k2 := hc 2 _ rfl
      have k3 := hc 3 _ rfl
      simp only [Nat.add_zero] at k0
      have hs1 : ∃ n1 : Nat, (if a = s ∧ ae = e then 1 else 0) = n1 ∧ ((n1 = 1 ∧ (a == s) = true ∧ (ae == e) = true) ∨ (n1 = 0 ∧ (a == s) = false) ∨ (n1 = 0 ∧ (a == s) = true ∧ (ae == e) = false)) := by
        by_cases h1 : a = s ∧ ae = e
        · exact ⟨1, if_pos h1, .inl ⟨rfl, by simp [h1.1], by simp [h1.2]⟩⟩
        · refine ⟨0, if_neg h1, .inr ?_⟩
          rcases not_both h1 with c1 | ⟨c1, c2⟩
          · exact .inl ⟨rfl, c1⟩
          · exact .inr ⟨rfl, c1, c2⟩
      have hs2 : ∃ n1 : Nat, (if b = s ∧ be = e then 1 else 0) = n1 ∧ ((n1 = 1 ∧ (b == s) = true ∧ (be == e) = true) ∨ (n1 = 0 ∧ (b == s) = false) ∨ (n1 = 0 ∧ (b == s) = true ∧ (be == e) = false)) := by
        by_cases h1 : b = s ∧ be = e
        · exact ⟨1, if_pos h1, .inl ⟨rfl, by simp [h1.1], by simp [h1.2]⟩⟩
        · refine ⟨0, if_neg h1, .inr ?_⟩
          rcases not_both h1 with c1 | ⟨c1, c2⟩
          · exact .inl ⟨rfl, c1⟩
          · exact .inr ⟨rfl, c1, c2⟩
      obtain ⟨n1, hn1, hs1⟩ := hs1
      obtain ⟨n2, hn2, hs2⟩ := hs2
      rw [hn1, hn2] at hst
      have HST := Lib.hid hst
      clear hst hn1 hn2 hx hc hcl hlen hC
      rcases hs1 with ⟨rfl, c1, c2⟩ | ⟨rfl, c1⟩ | ⟨rfl, c1, c2⟩ <;> rcases hs2 with ⟨rfl, d1, d2⟩ | ⟨rfl, d1⟩ | ⟨rfl, d1, d2⟩
      all_goals
        go_wp2
        go_roundg (ln - j - 1)
        case measure => omega
        case rel => exact ⟨j + 1, by omega, congrArg (Value.int .i64) (by rw [HST.out]; omega), by go_num, below_new hbl _⟩
    · have hjd : decide ((j : Int) < (ln : Int)) = false := by simpa using hj
      have hl := hJ.len
      have hF : J.take j = J := List.take_of_length_le (by omega)
      rw [hF]
      clear hF hl
      go_wp2
      go_ret
      exact ⟨rfl, hbl⟩
end Go.Proofs.Ytokldploloncgaa.topo
