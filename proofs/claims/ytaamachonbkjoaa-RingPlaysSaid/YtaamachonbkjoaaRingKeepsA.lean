/-
  The walk through RingKeeps: whatever numbers are put, the law answers true.
-/
import Derived.Test.YtaamachonbkjoaaRingAll
namespace Go.Proofs.Ytaamachonbkjoaa.ring
open Go.RowKit

/-- A row of numbers that came in. -/
structure Nums (w : World) (ao : Option Addr) (ln lc : Nat) (L : List Int) : Prop where
  len : L.length = ln
  le : ln ≤ lc
  max : lc ≤ 9223372036854775807
  nil : ao = none → lc = 0
  at' : ln = 0 ∨ ∃ g o, ao = some ⟨g, o, none⟩ ∧ g < w.heap.size ∧ ∀ i x, L[i]? = some x → w.cell? ⟨g, o + i, none⟩ = some (.int .i64 x)

theorem put_nums {w0 w : World} {b p cap first : Nat} {lost : Int} {q L : List Int} {ao : Option Addr} {ln lc : Nat} (hB : Nums w0 ao ln lc L) (hw : Below w0.heap.size w0 w) (hb : w0.heap.size ≤ b) (hp : w0.heap.size ≤ p) (h : RingAt int.enc w b p cap first lost q)
    (d : Nat) (hd : ln - min ln (cap - q.length) = d) :
    Calls Try.prog 18 #[.pointer (some ⟨b, 0, none⟩), .slice ao ln lc] w fun e w' => e = .returned (.int .i64 d) ∧ RingAt int.enc w' b p cap first (int.lostBy lost d) (q ++ L.take (cap - q.length)) ∧ Touch w w' b p := by
  by_cases h0 : ln = 0
  · have hL : L = [] := List.eq_nil_of_length_eq_zero (by rw [hB.len, h0])
    have hnil := hB.nil
    have hmax := hB.max
    have hl : int.lostBy lost 0 = lost := by unfold int.lostBy; simpa using IntWalk.wrap64_in _ h.lostb
    obtain rfl : d = 0 := by omega
    subst h0
    rw [hl, hL]
    simpa using int.put_none b p cap first lost q ao lc w h hmax hnil
  · obtain ⟨g, o, rfl, hg, hc⟩ := hB.at'.resolve_left h0
    exact int.put_as b p cap first lost q L g o ln lc w h d _ _ hB.len hB.le hB.max (by omega) (by omega) (fun i x hx => (hw.cell (p := ⟨g, o + i, none⟩) hg).trans (hc i x hx)) hd rfl rfl

set_option maxRecDepth 100000 in
set_option maxHeartbeats 2000000 in
theorem keeps_any (n : Int) (ao : Option Addr) (ln lc : Nat) (L : List Int) (w : World) (hL : Nums w ao ln lc L) :
    Calls Try.prog 6 #[.int .i64 n, .slice ao ln lc] w fun e w' => e = .returned (.bool true) ∧ Below w.heap.size w w' := by
  have hc := capOf_in n
  have hce := capOf_eq n
  have hmax := hL.max
  have hle := hL.le
  have hLn := hL.len
  obtain ⟨cp, hcp⟩ : ∃ c, capOf n = c := ⟨_, rfl⟩
  obtain ⟨d, hd⟩ : ∃ d, ln - min ln cp = d := ⟨_, rfl⟩
  obtain ⟨m, hm⟩ : ∃ m, min ln cp = m := ⟨_, rfl⟩
  rw [hcp] at hc hce
  have HC := Lib.hid hcp
  go_enter Try.func6, Try.ntmps6
  go_upto_region 3 with (go_at_call 7; refine (lives_any _).mono ?_; rintro e w1 ⟨rfl, hb1⟩)
  go_upto_region 4 with (go_at_call 14; refine (int.new_any n _).mono ?_; rintro e w2 ⟨b, p, rfl, hwb, hwp, hr2, hb2⟩)
  rw [HC.out] at hr2
  have hwb' : w.heap.size ≤ b := Nat.le_trans hb1.size hwb
  have hwp' : w.heap.size ≤ p := Nat.le_trans hb1.size hwp
  have h2 := below_step hb1 hb2
  have c1 := hr2.c1
  have hb2' := hr2.lt_b
  clear hwb hwp hb1 hb2 hcp
  go_upto_region 5 with (fail)
  clear hce
  generalize (if n < 1 then (1 : Int) else n) = u17
  have hmx : (if (ln : Int) - (cp : Int) < 0 then (0 : Int) else (ln : Int) - (cp : Int)) = (d : Int) := by split <;> omega
  have hmn : (if cp < ln then (cp : Int) else (ln : Int)) = (m : Int) := by split <;> omega
  have hld : int.lostBy 0 d = d := by unfold int.lostBy; rw [Int.zero_add]; exact IntWalk.wrap64_in _ (by omega)
  go_cut [47] (fun s47 wx => s47 = .bool false ∧ RingAt int.enc wx b p cp 0 d (L.take cp) ∧ Below w.heap.size w wx)
  case first =>
    go_wp2_with (first
      | (go_at_call 25; go_must (refine (cap_any b _ _ c1).mono ?_; rintro e w3 ⟨rfl, hb3⟩; have hr3 := hr2.below hb3; have h3 := below_step h2 hb3))
      | (go_at_call 18; go_must (refine (put_nums hL h3 hwb' hwp' hr3 d (by simpa using hd)).mono ?_; rintro e w4 ⟨rfl, hr4, ht4⟩; rw [hld] at hr4; have c2 := hr4.c2))
      | (go_at_call 12; go_must (refine (lost_any b _ _ c2).mono ?_; rintro e w5 ⟨rfl, hb5⟩)))
    all_goals
      go_meet
      case rel => exact ⟨by simp, (by simpa using hr4.below hb5), below_step (Touch.under h3 ht4 hwb' hwp') hb5⟩
  case rest =>
    obtain ⟨rfl, hr5, h5⟩ := hcut
    have hqm : (L.take cp).length = m := by rw [List.length_take]; omega
    clear hr2 h2 c1 hb2' hld hmx hd
    go_wp2
    go_loopg [7] m (fun r i wr => ∃ (k first : Nat), k + r = m ∧ i = .int .i64 k ∧ RingAt int.enc wr b p cp first d ((L.take cp).drop k) ∧ Below w.heap.size w wr)
    case atStart => exact ⟨0, 0, by omega, rfl, by simpa using hr5, h5⟩
    case round =>
      clear hr5 h5
      obtain ⟨k, first, hkr, rfl, hr, hbl⟩ := hrel
      by_cases hk : k < m
      · have hkd : decide ((k : Int) < (m : Int)) = true := by simpa using hk
        obtain ⟨x, hx⟩ : ∃ x, (L.take cp)[k]'(by omega) = x := ⟨_, rfl⟩
        have hLk : L[k]? = some x := by
          have h1 : (L.take cp)[k]? = some x := by rw [List.getElem?_eq_getElem (by omega), hx]
          rw [List.getElem?_take] at h1
          split at h1
          · exact h1
          · cases h1
        have hdr : (L.take cp).drop k = x :: (L.take cp).drop (k + 1) := by rw [List.drop_eq_getElem_cons (by omega), hx]
        have hql : ((((L.take cp).drop (k + 1)).length : Nat) : Int) = (m : Int) - k - 1 := by rw [List.length_drop]; omega
        obtain ⟨g, o, rfl, hg, hc⟩ := hL.at'.resolve_left (by omega)
        have hcell := hc k x hLk
        have hkl : (k : Int) < ln := by omega
        rw [hdr] at hr
        have HQ := Lib.hid hql
        clear hql hc hLk hx hdr
        go_wp2_with (first
          | (go_at_call 16; go_must (refine (int.take_any b p cp first d _ _ hr).mono ?_; rintro e w6 ⟨rfl, hr6, ht6⟩; have h6 := Touch.under hbl ht6 hwb' hwp'; have y := (h6.cell (p := ⟨g, o + k, none⟩) hg).trans hcell; have c0 := hr6.c0; rw [HQ.out] at c0))
          | (go_at_call 11; go_must (refine (len_any b _ _ c0).mono ?_; rintro e w7 ⟨rfl, hb7⟩)))
        go_roundg (m - k - 1)
        case measure => omega
        case rel => exact ⟨k + 1, _, by omega, by go_num, hr6.below hb7, below_step h6 hb7⟩
      · obtain rfl : k = m := by omega
        have hkd : decide ((k : Int) < (k : Int)) = false := by simp
        have hnil : (L.take cp).drop k = [] := List.drop_eq_nil_iff.2 (by omega)
        rw [hnil] at hr
        have hbr := hr.lt_b
        have c0 := hr.c0
        clear hL hLn hqm hnil
        go_wp2_with (first
          | (go_at_call 16; go_must (refine (int.take_any b p cp first d [] _ hr).mono ?_; rintro e w6 ⟨rfl, hb6⟩; have hr6 := hr.below hb6; have c06 := hr6.c0))
          | (go_at_call 11; go_must (refine (len_any b _ _ c06).mono ?_; rintro e w7 ⟨rfl, hb7⟩; have hr7 := hr6.below hb7))
          | (go_at_call 24; go_must (refine (all_any b p cp first d [] _ hr7).mono ?_; rintro e w8 ⟨v8, rfl, ho8, hb8⟩; obtain ⟨a8, c8, rfl, -⟩ := own_ints ho8 rfl)))
        go_ret
        exact ⟨rfl, by repeat (first | assumption | refine below_step ?_ (by assumption))⟩
end Go.Proofs.Ytaamachonbkjoaa.ring
