/-
  The walk through RingPlays: the queue and the reference's go hand in hand.
-/
import Derived.Test.YtaamachonbkjoaaRingPlaysA
import Derived.Deep.RegionHeld3
namespace Go.Proofs.Ytaamachonbkjoaa.ring
open Go.RowKit

set_option maxRecDepth 100000 in
set_option maxHeartbeats 2000000 in
theorem plays_some (n : Int) (g o ln lc : Nat) (w : World) (hg : g < w.heap.size) (hreach : ln * 32 ≤ 140737488351232)
    (hops : ∀ i, i < ln → ∃ (t : Bool) (ao : Option Addr) (l c : Nat) (L : List Int), OpAt w g (o + i * 2) t ao l c L) :
    Calls Try.prog 5 #[.int .i64 n, .slice (some ⟨g, o, none⟩) ln lc] w fun e w' => e = .returned (.bool true) ∧ Below w.heap.size w w' := by
  have hc := capOf_in n
  obtain ⟨cp, hcp⟩ : ∃ c, capOf n = c := ⟨_, rfl⟩
  rw [hcp] at hc
  have HC := Lib.hid hcp
  clear hcp
  go_enter Try.func5, Try.ntmps5
  go_upto_region 3 with (go_at_call 7; refine (lives_any _).mono ?_; rintro e w1 ⟨rfl, hb1⟩)
  go_upto_region 4 with (first
    | (go_at_call_of 14 (Value.int .i64 n); refine (int.new_any n _).mono ?_; rintro e w2 ⟨b1, p1, rfl, hwb1, hwp1, hr1, hb2⟩)
    | (go_at_call_of 14 (Value.int .i64 3); refine (int.new_any 3 _).mono ?_; rintro e w4 ⟨b3, p3, rfl, hwb3, hwp3, hr3, hb4⟩)
    | (go_at_call 20; refine (newR_any n _).mono ?_; rintro e w3 ⟨r, rfl, hwr, hrr, hrs, hb3⟩))
  have hP : Play w w4.heap.size b1 p1 b3 p3 r cp w4 0 0 [] (.slice none 0 0) := by
    have e : ring.capOf n = cp := HC.out
    rw [e] at hr1 hrr
    have s1 := hr1.lt_b
    have s2 := hr1.lt_p
    have s3 := hr3.lt_b
    have s4 := hr3.lt_p
    have s5 := hb1.size
    have s6 := hb2.size
    have s7 := hb3.size
    have s8 := hb4.size
    refine ⟨(hr1.below hb3).below hb4, hr3, (hrr w4.heap.size (by omega)).below hb4, below_step (below_step (below_step hb1 hb2) hb3) hb4, Nat.le_refl _, ⟨by omega, by omega, by omega, by omega⟩⟩
  obtain ⟨B, hB⟩ : ∃ B, w4.heap.size = B := ⟨_, rfl⟩
  rw [hB] at hP
  clear hr1 hb1 hb2 hb3 hb4 hrr hr3 hwb1 hwp1 hwb3 hwp3 hwr hrs hB
  go_wp2
  go_loopg [28] ln (fun m i wr => ∃ (k f : Nat) (lost : Int) (q : List Int) (v : Value), k + m = ln ∧ i = .int .i64 k ∧ Play w B b1 p1 b3 p3 r cp wr f lost q v)
  case atStart => exact ⟨0, 0, 0, [], _, by omega, rfl, hP⟩
  case round =>
    clear hP
    obtain ⟨k, f, lost, q, v, hkm, rfl, hP⟩ := hrel
    obtain ⟨wo, rfl⟩ : ∃ wo : World, wo = wr := ⟨_, rfl⟩
    by_cases hk : k < ln
    · have hkd : decide ((k : Int) < (ln : Int)) = true := by simpa using hk
      have hkl : (k : Int) < ln := by omega
      obtain ⟨t, ao, l, c, L, hop⟩ := hops k hk
      have hc0 := (hP.below.cell (p := ⟨g, o + k * 2, none⟩) hg).trans hop.c0
      have hc1 := (hP.below.cell (p := ⟨g, o + k * 2 + 1, none⟩) hg).trans hop.c1
      have hgo : g < wo.heap.size := Nat.lt_of_lt_of_le hg hP.below.size
      clear hops
      go_upto_if 33 with (fail)
      have hP1 := hP.later (below_new (Below.refl _ _) (Obj.cells #[Value.bool t, Value.slice ao l c] 60))
      have hN := hop.nums
      have hR := hop.reach
      have hN1 := (hN.below hP.below).below (below_new (Below.refl _ _) (Obj.cells #[Value.bool t, Value.slice ao l c] 60))
      have hbx := hP.big
      have hrow := rowOf_big hP.m
      have hBw := hP.below.size
      obtain ⟨W1, hW1⟩ : ∃ W1, wo.alloc (Obj.cells #[Value.bool t, Value.slice ao l c] 60) = W1 := ⟨_, rfl⟩
      have e0 : W1.cell? ⟨wo.heap.size, 0, none⟩ = some (.bool t) := by rw [← hW1]; simp
      have e1 : W1.cell? ⟨wo.heap.size, 1, none⟩ = some (.slice ao l c) := by rw [← hW1]; simp
      have hz1 : wo.heap.size < W1.heap.size := by rw [← hW1]; simp
      rw [hW1] at hP1 hN1 ⊢
      have hBW := hP1.big
      clear hP hc0 hc1 hop hW1
      go_cut [10, 11, 12, 13, 14, 15] (fun _ _ _ _ _ _ wx => ∃ (f : Nat) (lost : Int) (q : List Int) (v : Value), Play w B b1 p1 b3 p3 r cp wx f lost q v)
      case first =>
        cases t with
        | true =>
          cases q with
          | nil =>
            go_wp2_with (first
              | (go_at_call 16; go_must (refine (int.take_any b1 p1 cp f lost [] _ hP1.i).mono ?_; rintro e w5 ⟨rfl, hb5⟩; have hP5 := hP1.later hb5))
              | (go_at_call 21; go_must (refine (takeR_any B r cp lost [] v _ hP5.m hP5.big).mono ?_; rintro e w6 ⟨rfl, hb6⟩)))
            go_meet
            case rel => exact ⟨f, lost, [], v, hP5.later hb6⟩
          | cons x q =>
            have hbl := hP1.bl
            go_wp2_with (first
              | (go_at_call 16; go_must (refine (int.take_any b1 p1 cp f lost (x :: q) _ hP1.i).mono ?_; rintro e w5 ⟨rfl, hr5, ht5⟩; have hm5 := hP1.m.touch ht5 hbl.m.1 hbl.m.2.1 hbl.hi.1 hbl.hi.2.1; have hs5 := ht5.size))
              | (go_at_call 21; go_must (refine (takeR_any B r cp lost (x :: q) v _ hm5 (by omega)).mono ?_; rintro e w6 ⟨rfl, ⟨v6, hm6⟩, ht6⟩)))
            go_meet
            case rel => exact ⟨_, lost, q, v6, hP1.took hr5 ht5 hm6 ht6 (.inl rfl)⟩
        | false =>
          have hl := hN.len
          have hle := hN.le
          have hao : ao = none → l = 0 ∧ c = 0 := fun e => ⟨by have := hN.nil e; omega, hN.nil e⟩
          have hmade : (W1.alloc (.cells #[] 3)).ownsRow W1.heap.size 3 1 (.slice (some ⟨W1.heap.size, 0, none⟩) 0 0) 0 [] := World.ownsRow_made W1 #[] 0 (Nat.le_refl _) (by unfold maxLen; omega) rfl
          have hnews : ∀ ad, ao = some ad → ∀ j u, (L.map (Value.int .i64))[j]? = some u → (W1.alloc (.cells #[] 3)).cell? (ad.add j) = some u := by
            intro ad had j u hu
            rw [List.getElem?_map, Option.map_eq_some_iff] at hu
            obtain ⟨y, hy, rfl⟩ := hu
            have hjl : j < L.length := (List.getElem?_eq_some_iff.1 hy).1
            obtain ⟨g1, o1, hao1, hg1, hc1⟩ := hN1.at'.resolve_left (by omega)
            rw [hao1] at had
            injection had with had
            subst had
            rw [plain_add, World.cell?_alloc_lt _ _ _ hg1]
            exact hc1 j y hy
          obtain ⟨i0, hi, hz0, hz1', hz2⟩ := info_parts info_int
          have HL := Lib.hid hl
          clear hl
          go_upto_region 13 with (first
            | (at_builtin; (refine append_any rfl _ _ 38 rfl W1.heap.size 3 i0 (.int .i64 0) 1 8 Try.underlying38 hi hz0 hz1' hz2 rfl (by decide) _ l _ rfl (k1.alloc _) (some ⟨w5.heap.size, 0, none⟩) 1 _ [.int .i64 77] rfl (fun e1 => by cases e1) rfl (fun ad had => by injection had with had; subst had; exact cell_one_new _ _ _) (ints_one [77]) (by unfold maxLen; omega) (by omega) (by simp; omega) ?_; intro v7 w7 j1 j2 j3; have h7 := below_row (below_new h5 _) (k1.alloc _) (Nat.le_refl _) j2; have j1' : w7.ownsRow W1.heap.size 3 1 v7 (l + 1) ((L ++ [77]).map (Value.int .i64)) := by simpa using j1))
            | (at_builtin; (refine append_any rfl _ _ 38 rfl W1.heap.size 3 i0 (.int .i64 0) 1 8 Try.underlying38 hi hz0 hz1' hz2 rfl (by decide) (.slice (some ⟨W1.heap.size, 0, none⟩) 0 0) 0 [] rfl hmade ao l c (L.map (Value.int .i64)) rfl hao (by simpa using HL.out) hnews (ints_one L) (by unfold maxLen; omega) (by omega) (by simp) ?_; intro v5 w5 k1 k2 k3; have h5 := below_row (below_new (Below.refl _ _) _) hmade (Nat.le_refl _) k2; have s5 := h5.size; rw [Nat.zero_add, List.nil_append] at k1)))
          obtain ⟨g7, c7, rfl, hg7, hg7', hc7, hc7m, hcell7, hfr7⟩ := own_full j1' (by omega)
          have hP7 := (hP1.later h7).later ((Below.refl _ _).drew)
          have b0 := (h7.cell (p := ⟨wo.heap.size, 0, none⟩) hz1).trans e0
          have b1' := (h7.cell (p := ⟨wo.heap.size, 1, none⟩) hz1).trans e1
          have hl := HL.out
          have b77 := hcell7 l 77 (by rw [← hl]; simp)
          rw [Nat.zero_add] at b77
          have hF7 : Free w7 g7 (l + 1) := ⟨hg7', fun j hj => by
            obtain ⟨x, hx⟩ : ∃ x, (L ++ [77])[j]? = some x := ⟨_, List.getElem?_eq_getElem (by simp; omega)⟩
            have := hcell7 j x hx
            rw [Nat.zero_add] at this
            exact ⟨_, this⟩, hfr7⟩
          have hL7 : ∀ i x, L[i]? = some x → w7.cell? ⟨g7, 0 + i, none⟩ = some (.int .i64 x) := fun i x hx => hcell7 i x (by rw [List.getElem?_append_left (List.getElem?_eq_some_iff.1 hx).1]; exact hx)
          have hold : ∀ g o, ao = some ⟨g, o, none⟩ → 0 < l → g < w.heap.size := fun g o e1 h0 => by
            obtain ⟨g1, o1, h1, h2, -⟩ := hN.at'.resolve_left (by omega)
            rw [h1] at e1
            injection e1 with e1
            injection e1 with e1
            omega
          obtain ⟨d, hd⟩ : ∃ d, l - min l (cp - q.length) = d := ⟨_, rfl⟩
          have hbl := hP7.bl
          obtain ⟨l1, l2, l3, l4, l5⟩ := hbl.lo
          obtain ⟨h1', h2', h3', h4', h5'⟩ := hbl.hi
          obtain ⟨hrow1, hrow2⟩ := hrow
          have hvb : ∀ g, v.ownBlock = some g → g < W1.heap.size := fun g hg => (hP1.m.own.lt g hg).2
          have hrowlo : w.heap.size ≤ rowOf v r := by omega
          have i1 : (0 : Int) ≤ (l : Int) := by omega
          have i2 : (l : Int) ≤ (c7 : Int) := by omega
          have i3 : (l : Int) < (l : Int) + 1 := by omega
          have HS := Lib.hid hd
          have HC7 := Lib.hid hcell7
          have HVB := Lib.hid hvb
          have HF := Lib.hid hF7
          have HL7 := Lib.hid hL7
          have HO := Lib.hid hold
          clear hd hcell7 j1 j1' j2 j3 k1 k2 k3 hmade hnews hP1 hN1 hao h5 h7 hvb hF7 hfr7 hL7 hold e0 e1 hl
          go_cut [89] (fun s89 wx => s89 = .bool false ∧ ∃ (lost : Int) (q : List Int) (v : Value), Play w B b1 p1 b3 p3 r cp wx f lost q v ∧ v.ownBlock ≠ some g7 ∧ Free wx g7 (l + 1))
          case first =>
            have S7 : w7.drew.cell? ⟨wo.heap.size, 0, none⟩ = some (.bool false) ∧ w7.drew.cell? ⟨wo.heap.size, 1, none⟩ = some (.slice ao l c) ∧ w7.drew.cell? ⟨g7, l, none⟩ = some (.int .i64 77) := ⟨b0, b1', b77⟩
            have t7 := int.put_as b1 p1 cp f lost q L g7 0 l c7 _ hP7.i d _ _ HL.out (by omega) hc7m (by omega) (by omega) HL7.out HS.out rfl rfl
            have k8 : ∀ w8, Touch w7.drew w8 b1 p1 → (w8.cell? ⟨wo.heap.size, 0, none⟩ = some (.bool false) ∧ w8.cell? ⟨wo.heap.size, 1, none⟩ = some (.slice ao l c) ∧ w8.cell? ⟨g7, l, none⟩ = some (.int .i64 77)) ∧ Below w.heap.size w w8 ∧ w7.heap.size ≤ w8.heap.size ∧ Calls Try.prog 22 #[.pointer (some ⟨r, 0, none⟩), .slice ao l c] w8 (fun e w' => PuttenR B r cp lost (q ++ L.take (cp - q.length)) v (rowOf v r) w8 d e w') := by
              intro w8 ht8
              have hm8 := hP7.m.touch ht8 hbl.m.1 hbl.m.2.1 h1' h2'
              have u8 := Touch.under hP7.below ht8 l1 l2
              have z8 : w7.heap.size ≤ w8.heap.size := ht8.size
              exact ⟨⟨ht8.cell S7.1 (by simp; omega) (by simp; omega), ht8.cell S7.2.1 (by simp; omega) (by simp; omega), ht8.cell S7.2.2 (by simp; omega) (by simp; omega)⟩, u8, z8,
                putR_nums B r cp lost q L v ao l c (rowOf v r) _ hm8 (by omega) (rowOf_is v r) (hN.below u8) w.heap.size HO.out l5 hrowlo d HS.out _ rfl⟩
            have k9 : ∀ w8 w9, Touch w7.drew w8 b1 p1 → Touch w8 w9 r (rowOf v r) → (w9.cell? ⟨wo.heap.size, 0, none⟩ = some (.bool false) ∧ w9.cell? ⟨wo.heap.size, 1, none⟩ = some (.slice ao l c) ∧ w9.cell? ⟨g7, l, none⟩ = some (.int .i64 77)) ∧ Calls Try.prog 23 #[.slice (some ⟨g7, 0, none⟩) l c7, .slice ao l c] w9 (fun e w' => e = .returned (.bool true) ∧ Below w9.heap.size w9 w') := by
              intro w8 w9 ht8 ht9
              obtain ⟨S8, u8, -, -⟩ := k8 w8 ht8
              have u9 := Touch.under u8 ht9 l5 hrowlo
              exact ⟨⟨ht9.cell S8.1 (by simp; omega) (by simp; omega), ht9.cell S8.2.1 (by simp; omega) (by simp; omega), ht9.cell S8.2.2 (by simp; omega) (by simp; omega)⟩,
                int.same_true L (some ⟨g7, 0, none⟩) ao l l c7 c _ HL.out HL.out (by omega) (.inr ⟨g7, 0, rfl, fun i x hx => ht9.cell (ht8.cell (HL7.out i x hx) (by simp; omega) (by simp; omega)) (by simp; omega) (by simp; omega)⟩) (hN.below u9).holds⟩
            have k10 : ∀ w9 w10, (w9.cell? ⟨wo.heap.size, 0, none⟩ = some (.bool false) ∧ w9.cell? ⟨wo.heap.size, 1, none⟩ = some (.slice ao l c) ∧ w9.cell? ⟨g7, l, none⟩ = some (.int .i64 77)) → Below w9.heap.size w9 w10 → w10.cell? ⟨wo.heap.size, 0, none⟩ = some (.bool false) ∧ w10.cell? ⟨wo.heap.size, 1, none⟩ = some (.slice ao l c) ∧ w10.cell? ⟨g7, l, none⟩ = some (.int .i64 77) := fun w9 w10 S9 hb10 =>
              ⟨(hb10.cell (p := ⟨wo.heap.size, 0, none⟩) (World.block_lt_of_cell? _ _ S9.1)).trans S9.1, (hb10.cell (p := ⟨wo.heap.size, 1, none⟩) (World.block_lt_of_cell? _ _ S9.2.1)).trans S9.2.1, (hb10.cell (p := ⟨g7, l, none⟩) (World.block_lt_of_cell? _ _ S9.2.2)).trans S9.2.2⟩
            have K8 := Lib.hid k8
            have K9 := Lib.hid k9
            have K10 := Lib.hid k10
            have T7 := Lib.hid t7
            clear k8 k9 k10 t7
            go_region_held3 (fun w' => w'.cell? ⟨wo.heap.size, 0, none⟩ = some (.bool false) ∧ w'.cell? ⟨wo.heap.size, 1, none⟩ = some (.slice ao l c) ∧ w'.cell? ⟨g7, l, none⟩ = some (.int .i64 77)) (first | exact S10 | exact S9 | exact S8 | exact S7) (first
              | (go_at_call 18; go_must (refine T7.out.mono ?_; rintro e w8 ⟨rfl, hi8, ht8⟩; obtain ⟨S8, u8, z8, t8⟩ := K8.out _ ht8; have T8 := Lib.hid t8; clear t8))
              | (go_at_call 22; go_must (refine T8.out.mono ?_; rintro e w9 ⟨rfl, ⟨v9, hm9, hv9⟩, ht9⟩; obtain ⟨S9, t9⟩ := K9.out _ _ ht8 ht9; have T9 := Lib.hid t9; clear t9))
              | (go_at_call 23; go_must (refine T9.out.mono ?_; rintro e w10 ⟨rfl, hb10⟩; have S10 := K10.out _ _ S9 hb10)))
            go_wp2
            go_meet
            case rel =>
              refine ⟨by simp, _, _, v9, (hP7.took hi8 ht8 hm9 ht9 hrow1).later hb10, fun e9 => ?_, ((HF.out.drew.touch ht8 (by omega) (by omega)).touch ht9 (by omega) (by omega)).below hb10⟩
              rcases hv9 with h9 | h9
              · rw [h9] at e9
                have := HVB.out _ e9
                omega
              · have := h9 _ e9
                omega
          case rest =>
            obtain ⟨rfl, lost', q', v', hP', hne', hF'⟩ := hcut
            clear hP7 hrow1 hrow2 hrowlo b0 b1' b77 hN HS HC7 HVB HF HL7 HO HL
            obtain ⟨n7, hn7⟩ : ∃ n7, l + 1 = n7 := ⟨_, rfl⟩
            have hn63 : n7 ≤ 9223372036854775807 := by omega
            rw [hn7] at hF' ⊢
            clear hn7 i1 i2 i3
            go_wp2
            go_loopg [92, 15] n7 (fun m i _ wr => ∃ j : Nat, j + m = n7 ∧ i = .int .i64 j ∧ Play w B b1 p1 b3 p3 r cp wr f lost' q' v' ∧ Free wr g7 n7)
            case atStart => exact ⟨0, by omega, rfl, hP', hF'⟩
            case round =>
              clear hP' hF'
              obtain ⟨j, hjm, rfl, hP', hF'⟩ := hrel
              by_cases hj : j < n7
              · have hjd : decide ((j : Int) < (n7 : Int)) = true := by simpa using hj
                have hjl : (j : Int) < n7 := by omega
                obtain ⟨u, hu⟩ := hF'.cell j hj
                have hfz := hF'.fr j
                go_wp2
                go_roundg (n7 - j - 1)
                case measure => omega
                case rel => exact ⟨j + 1, by omega, by go_num, hP'.aside ((Touch.refl _ _ _).set (.inl rfl) _ _) (by omega) hne', hF'.set _ _⟩
              · have hjd : decide ((j : Int) < (n7 : Int)) = false := by simpa using hj
                go_wp2
                go_meet
                case rel => exact ⟨f, lost', q', v', hP'⟩
      case rest =>
        obtain ⟨f, lost, q, v, hP⟩ := hcut
        clear hP1 hN hN1 e0 e1 hz1 hBW hrow hR hbx hBw
        obtain ⟨W2, rfl⟩ : ∃ W2 : World, W2 = wc := ⟨_, rfl⟩
        obtain ⟨am, cm, rfl, hHm⟩ := own_ints hP.m.own rfl
        have hqc := hP.i.fits
        obtain ⟨nq, hnq⟩ : ∃ nq, q.length = nq := ⟨_, rfl⟩
        have HQ := Lib.hid hnq
        rw [hnq] at hqc
        have hq64 : nq ≤ 64 := by omega
        have hBW := hP.big
        clear hnq
        go_upto_region 21 with (first
          | (go_at_call 24; (refine (all_any b1 p1 cp f lost q _ hP5.i).mono ?_; rintro e w6 ⟨vb, rfl, hob, hb6⟩; have hoa6 := own_below hoa hb6; rw [HQ.out] at hob hoa6; obtain ⟨aa, ca, hva, -⟩ := own_ints hoa6 HQ.out; obtain ⟨ab, cb, hvb, hHb⟩ := own_ints hob HQ.out))
          | (go_at_call 24; (refine (all_any b1 p1 cp f lost q _ hP.i).mono ?_; rintro e w5 ⟨va, rfl, hoa, hb5⟩; have hP5 := hP.later hb5)))
        subst hva hvb
        have h6 := below_step hb5 hb6
        have hal := hoa.lt
        have hz5 := hb5.size
        have hz6 := hb6.size
        clear hP5 hoa hb5 hb6
        have HAL := Lib.hid hal
        clear hal
        go_wp2
        go_loopg [105, 18] nq (fun m i _ wr => ∃ (j : Nat) (xs : List Value), j + m = nq ∧ i = .int .i64 j ∧ wr.ownsRow W2.heap.size 3 1 (.slice aa nq ca) nq xs ∧ wr.ownsRow w5.heap.size 3 1 (.slice ab nq cb) nq (q.map (Value.int .i64)) ∧ Below W2.heap.size W2 wr ∧ w6.heap.size ≤ wr.heap.size)
        case atStart => exact ⟨0, _, by omega, rfl, hoa6, hob, h6, Nat.le_refl _⟩
        case round =>
          clear hoa6 hob h6
          obtain ⟨j, xs, hjm, rfl, hoa, hob, hbl, hzr⟩ := hrel
          obtain ⟨W7, rfl⟩ : ∃ W7 : World, W7 = wr := ⟨_, rfl⟩
          by_cases hj : j < nq
          · have hjd : decide ((j : Int) < (nq : Int)) = true := by simpa using hj
            have hjl : (j : Int) < nq := by omega
            obtain ⟨ga, c', hva, hga, hga'⟩ := own_some hoa (by omega)
            simp only [Value.slice.injEq] at hva
            obtain ⟨rfl, -, rfl⟩ := hva
            have hgl := (HAL.out ga rfl).2
            have hlen := hoa.1
            obtain ⟨u, hu⟩ : ∃ u, W7.cell? ⟨ga, j, none⟩ = some u := ⟨_, (hoa.cellAt j (by omega)).trans (List.getElem?_eq_getElem (by omega))⟩
            have hfz := hoa.frozenAt j
            clear hlen
            go_wp2
            go_roundg (nq - j - 1)
            case measure => omega
            case rel =>
              refine ⟨j + 1, _, by omega, by go_num, (hoa.stored j _).1, ownsRow_setCell_other hob (fun e1 => ?_) _, hbl.setCell hga _, by simpa [World.setCell] using hzr⟩
              have := (hob.lt _ e1).1
              simp at this
              omega
          · have hjd : decide ((j : Int) < (nq : Int)) = false := by simpa using hj
            obtain ⟨i0, hi, hz0, hz1', hz2⟩ := info_parts info_int
            go_upto_region 27 with (at_builtin; go_must (refine append_any rfl _ _ 38 rfl W2.heap.size 3 i0 (.int .i64 0) 1 8 Try.underlying38 hi hz0 hz1' hz2 rfl (by decide) _ nq _ rfl (hoa.alloc _) (some ⟨W7.heap.size, 0, none⟩) 1 _ [.int .i64 (-3)] rfl (fun e1 => by cases e1) rfl (fun ad had => by injection had with had; subst had; exact cell_one_new _ _ _) (ints_one [-3]) (by unfold maxLen; omega) (by omega) (by simp; omega) ?_; intro v8 w8 k1 k2 k3; have hap : Apart (.slice aa nq ca) (.slice ab nq cb) := (fun g1 e1 e2 => by have h1 := (HAL.out g1 e1).2; have h2 := (hob.lt g1 e2).1; omega); have hob8 := (own_beside (own_below hob (below_new (Below.refl _ _) _)) hap k2 k3 k1).1; have hb8 := below_row (below_new hbl _) (hoa.alloc _) (Nat.le_refl _) k2; obtain ⟨g8, c8, rfl, -, -⟩ := own_some k1 (by omega)))
            have hP8 := hP.later hb8
            have m0 := hP8.m.c0
            have m1 := hP8.m.c1
            have m2 := hP8.m.c2
            have r0 := hP8.i.c0
            have r1 := hP8.i.c1
            have r2 := hP8.i.c2
            have hr8 := hP8.m.lt_r
            rw [HQ.out] at m0 r0
            have hHm8 := hHm.below hb8
            obtain ⟨ab', cb', hvb, hHb8⟩ := own_ints hob8 HQ.out
            simp only [Value.slice.injEq, true_and] at hvb
            obtain ⟨rfl, rfl⟩ := hvb
            have HP := Lib.hid hP8
            clear hP8 hP hoa hob hbl k1 k2 k3 hob8 hb8 hap hHm hzr
            refine wp_region_later (by kernel_rfl) (by kernel_rfl) ?_
            repeat (go_big_quiet_step (first
              | (go_at_call 23; exact later_of (int.same_true q ab am nq nq cb cm _ HQ.out HQ.out (by omega) (Later.holds _ hHb8) (Later.holds _ hHm8)))
              | (go_at_call 11; exact later_of (len_any b1 _ _ (Later.cellIs _ r0)))
              | (go_at_call 25; exact later_of (cap_any b1 _ _ (Later.cellIs _ r1)))
              | (go_at_call 12; exact later_of (lost_any b1 _ _ (Later.cellIs _ r2)))))
            refine wpQuiet_nil ?_
            intro w9 hb9
            go_wp2
            go_roundg (ln - k - 1)
            case measure => omega
            case rel => exact ⟨k + 1, f, lost, q, _, by omega, by go_num, HP.out.later hb9⟩
    · have hkd : decide ((k : Int) < (ln : Int)) = false := by simpa using hk
      have c0 := hP.o.c0
      have c2 := hP.o.c2
      have hb := hP.o.lt_b
      have hbl := hP.below
      simp only [List.length_nil] at c0
      clear hops hP
      go_wp2_with (first
        | (go_at_call 11; go_must (refine (len_any b3 _ _ c0).mono ?_; rintro e w5 ⟨rfl, hb5⟩; have d2 := (hb5.cell (p := ⟨b3, 2, none⟩) hb).trans c2))
        | (go_at_call 12; go_must (refine (lost_any b3 _ _ d2).mono ?_; rintro e w6 ⟨rfl, hb6⟩)))
      go_ret
      exact ⟨by simp, below_step (below_step hbl hb5) hb6⟩
end Go.Proofs.Ytaamachonbkjoaa.ring
