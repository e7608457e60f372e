/-
  The walk through RingKinds: the three queues go hand in hand.
-/
import Derived.Test.YtaamachonbkjoaaRingSitPut
import Derived.Deep.RegionHeld3
namespace Go.Proofs.Ytaamachonbkjoaa.ring
open Go.RowKit

/-- The three queues, hand in hand. -/
structure Kin (w0 : World) (b1 p1 b2 p2 b3 p3 cap : Nat) (wr : World) (lost : Int) (k : Nat) : Prop where
  i : ∃ f q, RingAt int.enc wr b1 p1 cap f lost q ∧ q.length = k
  t : ∃ f q, RingAt text.enc wr b2 p2 cap f lost q ∧ q.length = k
  p : ∃ f, PairAt wr b3 p3 cap f lost k
  below : Below w0.heap.size w0 wr

theorem Kin.later {w0 wr w' : World} {b1 p1 b2 p2 b3 p3 cap k : Nat} {lost : Int} (h : Kin w0 b1 p1 b2 p2 b3 p3 cap wr lost k) (hb : Below wr.heap.size wr w') : Kin w0 b1 p1 b2 p2 b3 p3 cap w' lost k := by
  obtain ⟨f1, q1, h1, e1⟩ := h.i
  obtain ⟨f2, q2, h2, e2⟩ := h.t
  obtain ⟨f3, h3⟩ := h.p
  exact ⟨⟨f1, q1, h1.below hb, e1⟩, ⟨f2, q2, h2.below hb, e2⟩, ⟨f3, h3.below hb⟩, below_step h.below hb⟩

theorem Three.At.kin {T : Three} {w : World} (h : T.At true true true w) {d k' : Nat} (hd : T.d = d) (hk : T.k + min T.m (T.cap - T.k) = k') : Kin T.w0 T.b1 T.p1 T.b2 T.p2 T.b3 T.p3 T.cap w (wrap64 (T.lost + d)) k' := by
  have ok := h.ok
  subst hd hk
  refine ⟨⟨T.f1, _, h.i, ?_⟩, ⟨T.f2, _, h.t, ?_⟩, ⟨T.f3, h.p⟩, h.below⟩
  · simp [Three.q1', ok.l1]; omega
  · simp [Three.q2', ok.l2]; omega

/-- '==' of two pairs. -/
@[go_sem] theorem eq_pair (a b c d : Int) (w : World) : (Op.equalIn 10000 43 (.agg #[.int .i64 a, .int .i64 b]) (.agg #[.int .i64 c, .int .i64 d])).run Try.prog w = .ok (a == c && b == d) w := by
  have u3 := Try.underlying3
  have a3 := Try.isAgg3
  have z3 := Try.sizeOf3
  rw [show (10000 : Nat) = 9999 + 1 from rfl, Op.equalIn]
  simp only [Sem.run_bind, run_underlying Try.underlying43, Result.andThen_ok]
  simp only [Std.Legacy.Range.forIn_eq_forIn_range', Std.Legacy.Range.size, Nat.sub_zero, Nat.add_sub_cancel, Nat.div_one, List.range'_succ, List.range'_zero, List.forIn_cons, List.forIn_nil]
  go_simp
  by_cases h1 : a = c <;> by_cases h2 : b = d <;> simp [h1, h2]

theorem mod5_in (n : Int) : ∃ c : Nat, wrap64 ((IntKind.u64.wrap n).tmod 5) = (c : Int) ∧ c ≤ 4 := by
  have h : 0 ≤ IntKind.u64.wrap n := by simp [IntKind.wrap, IntKind.bits, IntKind.signed]; omega
  rw [Int.tmod_eq_emod_of_nonneg h, IntWalk.wrap64_in _ (by omega)]
  exact ⟨((IntKind.u64.wrap n) % 5).toNat, by omega, by omega⟩

set_option maxRecDepth 100000 in
set_option maxHeartbeats 2000000 in
theorem kinds_any (n : Int) (ao : Option Addr) (ln lc : Nat) (L : List Int) (w : World) (hL : Nums w ao ln lc L) :
    Calls Try.prog 4 #[.int .i64 n, .slice ao ln lc] w fun e w' => e = .returned (.bool true) ∧ Below w.heap.size w w' := by
  have hc := capOf_in n
  have hmax := hL.max
  have hle := hL.le
  have hLn := hL.len
  obtain ⟨cp, hcp⟩ : ∃ c, capOf n = c := ⟨_, rfl⟩
  rw [hcp] at hc
  have HC := Lib.hid hcp
  clear hcp
  go_enter Try.func4, Try.ntmps4
  go_upto_region 3 with (go_at_call 7; refine (lives_any _).mono ?_; rintro e w1 ⟨rfl, hb1⟩)
  go_upto_region 4 with (first
    | (go_at_call 14; refine (int.new_any n _).mono ?_; rintro e w2 ⟨b1, p1, rfl, hwb1, hwp1, hr1, hb2⟩)
    | (go_at_call 8; refine (text.new_any n _).mono ?_; rintro e w3 ⟨b2, p2, rfl, hwb2, hwp2, hr2, hb3⟩)
    | (go_at_call 15; refine (newP_any n _).mono ?_; rintro e w4 ⟨b3, p3, rfl, hwb3, hwp3, hr3, hb4⟩))
  have s1 := hr1.lt_b
  have s2 := hr1.lt_p
  have s3 := hr2.lt_b
  have s4 := hr2.lt_p
  have s5 := hr3.lt_b
  have s6 := hr3.lt_p
  have s7 := hb1.size
  have hkin : Kin w b1 p1 b2 p2 b3 p3 cp w4 0 0 := by
    have e : ring.capOf n = cp := HC.out
    rw [e] at hr1 hr2 hr3
    exact ⟨⟨0, [], (hr1.below hb3).below hb4, rfl⟩, ⟨0, [], hr2.below hb4, rfl⟩, ⟨0, hr3⟩, below_step (below_step (below_step hb1 hb2) hb3) hb4⟩
  have hN : b1 ≠ b2 ∧ b1 ≠ p2 ∧ p1 ≠ b2 ∧ p1 ≠ p2 ∧ b1 ≠ b3 ∧ b1 ≠ p3 ∧ p1 ≠ b3 ∧ p1 ≠ p3 ∧ b2 ≠ b3 ∧ b2 ≠ p3 ∧ p2 ≠ b3 ∧ p2 ≠ p3 := by omega
  have hW : w.heap.size ≤ b1 ∧ w.heap.size ≤ p1 ∧ w.heap.size ≤ b2 ∧ w.heap.size ≤ p2 ∧ w.heap.size ≤ b3 ∧ w.heap.size ≤ p3 := by omega
  clear s1 s2 s3 s4 s5 s6 s7 hr1 hr2 hr3 hb1 hb2 hb3 hb4 hwb1 hwp1 hwb2 hwp2 hwb3 hwp3
  go_wp2
  go_loopg [30] ln (fun r i wr => ∃ (j k : Nat) (lost : Int), j + r = ln ∧ i = .int .i64 j ∧ Kin w b1 p1 b2 p2 b3 p3 cp wr lost k)
  case atStart => exact ⟨0, 0, 0, by omega, rfl, hkin⟩
  case round =>
    clear hkin
    obtain ⟨j, k, lost, hjr, rfl, hkin⟩ := hrel
    obtain ⟨wo, rfl⟩ : ∃ wo : World, wo = wr := ⟨_, rfl⟩
    by_cases hj : j < ln
    · have hjd : decide ((j : Int) < (ln : Int)) = true := by simpa using hj
      have hjl : (j : Int) < ln := by omega
      obtain ⟨x, hx⟩ : ∃ x, L[j]? = some x := ⟨_, List.getElem?_eq_getElem (by omega)⟩
      obtain ⟨g, o, rfl, hg, hcx⟩ := hL.at'.resolve_left (by omega)
      have hcell := (hkin.below.cell (p := ⟨g, o + j, none⟩) hg).trans (hcx j x hx)
      clear hcx hx hL
      go_upto_if 37 with (fail)
      obtain ⟨f1, q1, hr1, hq1⟩ := hkin.i
      obtain ⟨f2, q2, hr2, hq2⟩ := hkin.t
      obtain ⟨f3, hr3⟩ := hkin.p
      have hbl := hkin.below
      obtain ⟨n1, n2, n3, n4, n5, n6, n7, n8, n9, n10, n11, n12⟩ := hN
      obtain ⟨m1, m2, m3, m4, m5, m6⟩ := hW
      clear hkin hcell
      cases hB : (x.tmod 3 == 0) with
      | true =>
        cases k with
        | zero =>
          obtain rfl : q1 = [] := List.eq_nil_of_length_eq_zero hq1
          obtain rfl : q2 = [] := List.eq_nil_of_length_eq_zero hq2
          go_wp2_with (first
            | (go_at_call 16; go_must (refine (int.take_any b1 p1 cp f1 lost [] _ hr1).mono ?_; rintro e w5 ⟨rfl, hb5⟩))
            | (go_at_call 10; go_must (refine (text.take_any b2 p2 cp f2 lost [] _ (hr2.below hb5)).mono ?_; rintro e w6 ⟨rfl, hb6⟩))
            | (go_at_call 17; go_must (refine (takeP_any b3 p3 cp f3 lost 0 _ ((hr3.below hb5).below hb6)).mono ?_; rintro e w7 ⟨rfl, hb7⟩)))
          go_roundg (ln - j - 1)
          case measure => omega
          case rel =>
            have hnew : Below w7.heap.size w7 (w7.alloc (Obj.cells #[Value.int IntKind.i64 0, Value.int IntKind.i64 0] 43)) := below_new (Below.refl _ _) _
            exact ⟨j + 1, 0, lost, by omega, by go_num, ⟨⟨f1, [], (((hr1.below hb5).below hb6).below hb7).below hnew, rfl⟩, ⟨f2, [], (((hr2.below hb5).below hb6).below hb7).below hnew, rfl⟩, ⟨f3, (((hr3.below hb5).below hb6).below hb7).below hnew⟩, below_step (below_step (below_step (below_step hbl hb5) hb6) hb7) hnew⟩⟩
        | succ k =>
          obtain ⟨x1, q1, rfl⟩ := List.exists_cons_of_ne_nil (show q1 ≠ [] by rintro rfl; simp at hq1)
          obtain ⟨x2, q2, rfl⟩ := List.exists_cons_of_ne_nil (show q2 ≠ [] by rintro rfl; simp at hq2)
          simp only [List.length_cons] at hq1 hq2
          go_wp2_with (first
            | (go_at_call 16; go_must (refine (int.take_any b1 p1 cp f1 lost (x1 :: q1) _ hr1).mono ?_; rintro e w5 ⟨rfl, hr5, ht5⟩))
            | (go_at_call 10; go_must (refine (text.take_any b2 p2 cp f2 lost (x2 :: q2) _ (hr2.touch ht5 n1.symm n3.symm n2.symm n4.symm)).mono ?_; rintro e w6 ⟨rfl, hr6, ht6⟩))
            | (go_at_call 17; go_must (refine (takeP_any b3 p3 cp f3 lost (k + 1) _ ((hr3.touch ht5 n5.symm n7.symm n6.symm n8.symm).touch ht6 n9.symm n11.symm n10.symm n12.symm)).mono ?_; rintro e w7 ⟨rfl, hr7, ht7⟩)))
          go_roundg (ln - j - 1)
          case measure => omega
          case rel =>
            have hnew : Below w7.heap.size w7 (w7.alloc (Obj.cells #[Value.int IntKind.i64 0, Value.int IntKind.i64 0] 43)) := below_new (Below.refl _ _) _
            exact ⟨j + 1, k, lost, by omega, by go_num, ⟨⟨_, q1, ((hr5.touch ht6 n1 n2 n3 n4).touch ht7 n5 n6 n7 n8).below hnew, by omega⟩, ⟨_, q2, (hr6.touch ht7 n9 n10 n11 n12).below hnew, by omega⟩, ⟨_, hr7.below hnew⟩,
              below_step (Touch.under (Touch.under (Touch.under hbl ht5 m1 m2) ht6 m3 m4) ht7 m5 m6) hnew⟩⟩
      | false =>
        obtain ⟨m, hm, hm4⟩ := mod5_in x
        obtain ⟨d, hd⟩ : ∃ d, m - min m (cp - k) = d := ⟨_, rfl⟩
        obtain ⟨k', hk'⟩ : ∃ k', k + min m (cp - k) = k' := ⟨_, rfl⟩
        have d1 : m - min m (cp - q1.length) = d := by rw [hq1]; exact hd
        have d2 : m - min m (cp - q2.length) = d := by rw [hq2]; exact hd
        have w1' := hr1.lt_b
        have w2' := hr1.lt_p
        have w3' := hr2.lt_b
        have w4' := hr2.lt_p
        have w5' := hr3.lt_b
        have w6' := hr3.lt_p
        have hmk1 := fun W => makeI m (by omega) W
        have hmk2 := fun W => makeT m (by omega) W
        have hmk3 := fun W => makeP m (by omega) W
        go_upto_region 14 with (fail)
        rw [hm]
        clear hm
        go_cut [17, 18, 19] (fun s17 s18 s19 wx => s17 = .int .i64 d ∧ s18 = .int .i64 d ∧ s19 = .int .i64 d ∧ Kin w b1 p1 b2 p2 b3 p3 cp wx (wrap64 (lost + d)) k')
        case first =>
          have HB := Lib.hid hbl
          clear hbl
          have S0 : Three.At ⟨w, b1, p1, b2, p2, b3, p3, wo.heap.size, cp, f1, f2, f3, lost, q1, q2, k, m⟩ false false false wo.drew :=
            ⟨⟨w1', w2', w3', w4', w5', w6', ⟨n1, n2, n3, n4⟩, ⟨n5, n6, n7, n8⟩, ⟨n9, n10, n11, n12⟩, ⟨m1, m2, m3, m4, m5, m6⟩, hq1, hq2, show m ≤ 64 by omega⟩, hr1.kept rfl rfl, hr2.kept rfl rfl, hr3.kept rfl rfl, HB.out.drew, Nat.le_refl _⟩
          clear hr1 hr2 hr3
          go_region_held3 (fun _ => True) (exact trivial) (first
            | (go_at_call 18; go_must (refine (Three.put1 (T := ⟨w, b1, p1, b2, p2, b3, p3, wo.heap.size, cp, f1, f2, f3, lost, q1, q2, k, m⟩) (by repeat (first | with_reducible exact S0 | with_reducible exact S1 | with_reducible exact S2 | with_reducible apply Three.At.rowI | with_reducible apply Three.At.rowT | with_reducible apply Three.At.rowP)) (by repeat (first | with_reducible refine Three.At.newI' (by repeat (first | with_reducible exact S0 | with_reducible exact S1 | with_reducible exact S2 | with_reducible apply Three.At.rowI | with_reducible apply Three.At.rowT | with_reducible apply Three.At.rowP)) (by first | rfl | simp) | with_reducible apply Three.Row.rowT | with_reducible apply Three.Row.rowP))).mono ?_; rintro e v1 ⟨rfl, S1, K1⟩))
            | (go_at_call 9; go_must (refine (Three.put2 (T := ⟨w, b1, p1, b2, p2, b3, p3, wo.heap.size, cp, f1, f2, f3, lost, q1, q2, k, m⟩) (by repeat (first | with_reducible exact S0 | with_reducible exact S1 | with_reducible exact S2 | with_reducible apply Three.At.rowI | with_reducible apply Three.At.rowT | with_reducible apply Three.At.rowP)) (by repeat (first | with_reducible refine Three.At.newT' (by repeat (first | with_reducible exact S0 | with_reducible exact S1 | with_reducible exact S2 | with_reducible apply Three.At.rowI | with_reducible apply Three.At.rowT | with_reducible apply Three.At.rowP)) (by first | rfl | simp) | with_reducible apply Three.Row.rowI | with_reducible apply Three.Row.rowP | with_reducible refine Three.Keeps.row K1 ?_))).mono ?_; rintro e v2 ⟨rfl, S2, K2⟩))
            | (go_at_call 19; go_must (refine (Three.put3 (T := ⟨w, b1, p1, b2, p2, b3, p3, wo.heap.size, cp, f1, f2, f3, lost, q1, q2, k, m⟩) (by repeat (first | with_reducible exact S0 | with_reducible exact S1 | with_reducible exact S2 | with_reducible apply Three.At.rowI | with_reducible apply Three.At.rowT | with_reducible apply Three.At.rowP)) (by repeat (first | with_reducible refine Three.At.newP' (by repeat (first | with_reducible exact S0 | with_reducible exact S1 | with_reducible exact S2 | with_reducible apply Three.At.rowI | with_reducible apply Three.At.rowT | with_reducible apply Three.At.rowP)) (by first | rfl | simp) | with_reducible apply Three.Row.rowI | with_reducible apply Three.Row.rowT | with_reducible refine Three.Keeps.row K2 ?_ | with_reducible refine Three.Keeps.row K1 ?_))).mono ?_; rintro e v3 ⟨rfl, S3, K3⟩)))
          all_goals
            go_wp2
            go_meet
            case rel => exact ⟨congrArg (fun z : Nat => Value.int .i64 (z : Int)) hd, congrArg (fun z : Nat => Value.int .i64 (z : Int)) hd, congrArg (fun z : Nat => Value.int .i64 (z : Int)) hd, Three.At.kin S3 hd hk'⟩
        case rest =>
          obtain ⟨rfl, rfl, rfl, hkin⟩ := hcut
          clear hr1 hr2 hr3 hbl d1 d2 hq1 hq2 w1' w2' w3' w4' w5' w6'
          obtain ⟨f1, q1, hr1, hq1⟩ := hkin.i
          obtain ⟨f2, q2, hr2, hq2⟩ := hkin.t
          obtain ⟨f3, hr3⟩ := hkin.p
          have c01 := hr1.c0
          have c02 := hr2.c0
          have c03 := hr3.c0
          have c21 := hr1.c2
          have c22 := hr2.c2
          rw [hq1] at c01
          rw [hq2] at c02
          clear hr1 hr2 hr3 hq1 hq2 hd hk'
          obtain ⟨lost', hlost'⟩ : ∃ l, wrap64 (lost + d) = l := ⟨_, rfl⟩
          rw [hlost'] at hkin c21 c22
          have HK := Lib.hid hkin
          clear hkin hlost'
          have key : ∀ B : Bool, decide ((5000 : Int) < (j : Int)) = B → True := fun _ _ => trivial
          by_cases h5 : (5000 : Int) < j
          · have h5d : decide ((5000 : Int) < (j : Int)) = true := by simpa using h5
            clear h5 key
            go_wp2
            refine wp_region_later (by kernel_rfl) (by kernel_rfl) ?_
            repeat (go_big_quiet_step (first
              | (go_at_call_of 11 (Value.pointer (some (⟨b1, 0, none⟩ : Addr))); exact later_of (len_any b1 _ _ (Later.cellIs _ c01)))
              | (go_at_call_of 11 (Value.pointer (some (⟨b2, 0, none⟩ : Addr))); exact later_of (len_any b2 _ _ (Later.cellIs _ c02)))
              | (go_at_call_of 11 (Value.pointer (some (⟨b3, 0, none⟩ : Addr))); exact later_of (len_any b3 _ _ (Later.cellIs _ c03)))
              | (go_at_call_of 12 (Value.pointer (some (⟨b1, 0, none⟩ : Addr))); exact later_of (lost_any b1 _ _ (Later.cellIs _ c21)))
              | (go_at_call_of 12 (Value.pointer (some (⟨b2, 0, none⟩ : Addr))); exact later_of (lost_any b2 _ _ (Later.cellIs _ c22)))))
            refine wpQuiet_nil ?_
            intro w9 hb9
            go_wp2
            go_ret
            exact ⟨rfl, below_step HK.out.below hb9⟩
          · have h5d : decide ((5000 : Int) < (j : Int)) = false := by simpa using h5
            clear h5 key
            go_wp2
            refine wp_region_later (by kernel_rfl) (by kernel_rfl) ?_
            repeat (go_big_quiet_step (first
              | (go_at_call_of 11 (Value.pointer (some (⟨b1, 0, none⟩ : Addr))); exact later_of (len_any b1 _ _ (Later.cellIs _ c01)))
              | (go_at_call_of 11 (Value.pointer (some (⟨b2, 0, none⟩ : Addr))); exact later_of (len_any b2 _ _ (Later.cellIs _ c02)))
              | (go_at_call_of 11 (Value.pointer (some (⟨b3, 0, none⟩ : Addr))); exact later_of (len_any b3 _ _ (Later.cellIs _ c03)))
              | (go_at_call_of 12 (Value.pointer (some (⟨b1, 0, none⟩ : Addr))); exact later_of (lost_any b1 _ _ (Later.cellIs _ c21)))
              | (go_at_call_of 12 (Value.pointer (some (⟨b2, 0, none⟩ : Addr))); exact later_of (lost_any b2 _ _ (Later.cellIs _ c22)))))
            refine wpQuiet_nil ?_
            intro w9 hb9
            go_wp2
            go_roundg (ln - j - 1)
            case measure => omega
            case rel => exact ⟨j + 1, k', lost', by omega, by go_num, HK.out.later hb9⟩
    · have hjd : decide ((j : Int) < (ln : Int)) = false := by simpa using hj
      obtain ⟨f1, q1, hr1, -⟩ := hkin.i
      obtain ⟨f3, hr3⟩ := hkin.p
      have hbl := hkin.below
      go_wp2
      refine wp_region_later (by kernel_rfl) (by kernel_rfl) ?_
      have c1 := hr1.c2
      have c3 := hr3.c2
      have sb1 := hr1.lt_b
      have sb3 := hr3.lt_b
      clear hr1 hr3 hkin
      repeat (go_big_quiet_step (first | (go_at_call_of 12 (Value.pointer (some (⟨b1, 0, none⟩ : Addr))); exact later_of (lost_any b1 _ _ (Later.cellIs _ c1))) | (go_at_call_of 12 (Value.pointer (some (⟨b3, 0, none⟩ : Addr))); exact later_of (lost_any b3 _ _ (Later.cellIs _ c3)))))
      refine wpQuiet_nil ?_
      intro w5 hb5
      go_wp2
      go_ret
      exact ⟨by simp, below_step hbl hb5⟩
end Go.Proofs.Ytaamachonbkjoaa.ring
