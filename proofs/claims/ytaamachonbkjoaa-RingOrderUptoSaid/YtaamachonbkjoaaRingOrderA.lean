/-
  The walk through RingOrder: whatever batches are put, the law answers true.
-/
import Derived.Test.YtaamachonbkjoaaRingRows
namespace Go.Proofs.Ytaamachonbkjoaa.ring
open Go.RowKit

/-- What holds at the head of every batch and behind every take. -/
structure St (w0 : World) (B b p cap : Nat) (wr : World) (v8 v9 : Value) (lost : Int) (got q : List ByteArray) : Prop where
  ring : ∃ first, RingAt text.enc wr b p cap first lost q
  put : wr.ownsRow B 9 1 v8 (got ++ q).length ((got ++ q).map Value.string)
  got : wr.ownsRow B 9 1 v9 got.length (got.map Value.string)
  apart : Apart v8 v9
  below : Below w0.heap.size w0 wr
  size : B ≤ wr.heap.size

/-- Behind a Take that took x; then append to the got ones. -/
theorem St.taken {w0 wr w1 : World} {B b p cap first' : Nat} {v8 v9 : Value} {lost : Int} {got q : List ByteArray} {x : ByteArray} (h : St w0 B b p cap wr v8 v9 lost got (x :: q)) (hb : b < B) (hp : p < B) (hwb : w0.heap.size ≤ b) (hwp : w0.heap.size ≤ p)
    (hr : RingAt text.enc w1 b p cap first' lost q) (ht : Touch wr w1 b p) :
    let w2 := w1.alloc (.cells #[.string x] 9)
    w2.ownsRow B 9 1 v9 got.length (got.map Value.string) ∧ B ≤ w2.heap.size ∧
    ∀ v' w', w'.ownsRow B 9 1 v' (got.length + 1) (got.map Value.string ++ [.string x]) → w2.grownBy w' v9.ownBlock → (v'.ownBlock = v9.ownBlock ∨ v'.ownBlock = some w2.heap.size) → St w0 B b p cap w' v8 v' lost (got ++ [x]) q := by
  intro w2
  have hbl : Below w1.heap.size w1 w2 := below_new (Below.refl _ _) _
  have g2 := own_below (own_touch h.got ht hb hp) hbl
  have p2 := own_below (own_touch h.put ht hb hp) hbl
  have hs : B ≤ w2.heap.size := Nat.le_trans h.size (Nat.le_trans ht.size hbl.size)
  have hb0 : Below w0.heap.size w0 w1 := Touch.under h.below ht hwb hwp
  refine ⟨g2, hs, fun v' w' k1 k2 k3 => ?_⟩
  obtain ⟨e1, e2⟩ := own_beside p2 h.apart.symm k2 k3 k1
  refine ⟨⟨first', ring_grown (hr.below hbl) g2 hb hp k2⟩, by simpa using e1, by simpa using k1, e2.symm, below_row (below_step hb0 hbl) g2 (by omega) k2, Nat.le_trans hs k2.size⟩

/-- Behind a Put; then append to the put ones. -/
theorem St.puts {w0 wr w1 : World} {B b p cap first' : Nat} {v8 v9 : Value} {lost lost' : Int} {got q L : List ByteArray} (h : St w0 B b p cap wr v8 v9 lost got q) (hb : b < B) (hp : p < B) (hwb : w0.heap.size ≤ b) (hwp : w0.heap.size ≤ p)
    (hr : RingAt text.enc w1 b p cap first' lost' (q ++ L)) (ht : Touch wr w1 b p) :
    w1.ownsRow B 9 1 v8 (got ++ q).length ((got ++ q).map Value.string) ∧ B ≤ w1.heap.size ∧
    ∀ v' w', w'.ownsRow B 9 1 v' ((got ++ q).length + L.length) ((got ++ q).map Value.string ++ L.map Value.string) → w1.grownBy w' v8.ownBlock → (v'.ownBlock = v8.ownBlock ∨ v'.ownBlock = some w1.heap.size) → St w0 B b p cap w' v' v9 lost' got (q ++ L) := by
  have g2 := own_touch h.got ht hb hp
  have p2 := own_touch h.put ht hb hp
  have hs : B ≤ w1.heap.size := Nat.le_trans h.size ht.size
  have hb0 : Below w0.heap.size w0 w1 := Touch.under h.below ht hwb hwp
  refine ⟨p2, hs, fun v' w' k1 k2 k3 => ?_⟩
  obtain ⟨e1, e2⟩ := own_beside g2 h.apart k2 k3 k1
  refine ⟨⟨first', ring_grown hr p2 hb hp k2⟩, by simpa [Nat.add_assoc] using k1, e1, e2, below_row hb0 p2 (by omega) k2, Nat.le_trans hs k2.size⟩

/-- A Take of an empty queue. -/
theorem St.later {w0 wr w1 : World} {B b p cap : Nat} {v8 v9 : Value} {lost : Int} {got q : List ByteArray} (h : St w0 B b p cap wr v8 v9 lost got q) (hb : Below wr.heap.size wr w1) : St w0 B b p cap w1 v8 v9 lost got q :=
  ⟨h.ring.elim fun f hr => ⟨f, hr.below hb⟩, own_below h.put hb, own_below h.got hb, h.apart, below_step h.below hb, Nat.le_trans h.size hb.size⟩

theorem _root_.Go.Proofs.Ytaamachonbkjoaa.ring.text.Holds.below {w w' : World} {ao : Option Addr} {L : List ByteArray} (h : text.Holds w ao L) (hb : Below w.heap.size w w') : text.Holds w' ao L := by
  rcases h with h | ⟨g, o, e, hc⟩
  · exact .inl h
  · exact .inr ⟨g, o, e, fun i x hx => (hb.cell (p := ⟨g, o + i, none⟩) (World.block_lt_of_cell? _ _ (hc i x hx))).trans (hc i x hx)⟩

theorem tot_succ (Bs : List (List ByteArray)) (k : Nat) (hk : k < Bs.length) : ((Bs.take (k + 1)).map List.length).sum = ((Bs.take k).map List.length).sum + (Bs[k]'hk).length := by
  rw [List.take_add_one, List.getElem?_eq_getElem hk]
  simp only [List.map_append, List.sum_append, Option.toList_some, List.map_cons, List.map_nil, List.sum_cons, List.sum_nil, Nat.add_zero]
theorem tot_le (Bs : List (List ByteArray)) (k : Nat) : ((Bs.take k).map List.length).sum ≤ (Bs.map List.length).sum := by
  conv => rhs; rw [← List.take_append_drop k Bs]
  rw [List.map_append, List.sum_append]
  exact Nat.le_add_right _ _

theorem Batch.news {w0 w : World} {ao : Option Addr} {ln lc : Nat} {L : List ByteArray} (hB : Batch w0 ao ln lc L) (r : Nat) (h : Below w0.heap.size w0 w) : ∀ ad, ao = some ad → ∀ j u, ((L.take r).map Value.string)[j]? = some u → w.cell? (ad.add j) = some u := by
  intro ad had j u hu
  rw [List.getElem?_map, Option.map_eq_some_iff] at hu
  obtain ⟨x, hx, rfl⟩ := hu
  have hx' : L[j]? = some x := by
    rw [List.getElem?_take] at hx
    split at hx
    · exact hx
    · cases hx
  rcases hB.at' with h0 | ⟨g, o, rfl, hg, hc⟩
  · have := hB.len
    have : L = [] := List.eq_nil_of_length_eq_zero (by omega)
    subst this
    simp at hx'
  · injection had with had
    subst had
    rw [plain_add]
    exact (h.cell (p := ⟨g, o + j, none⟩) hg).trans (hc j x hx')

set_option maxRecDepth 100000 in
set_option maxHeartbeats 2000000 in
theorem order_any (n takes : Int) (b0 off : Nat) (len cap0 : Nat) (Bs : List (List ByteArray)) (w : World) (hlen : Bs.length = len) (hl63 : len ≤ 9223372036854775807) (hsum : (Bs.map List.length).sum ≤ 1048576) (hbw : b0 < w.heap.size)
    (hbs : ∀ k (hk : k < Bs.length), ∃ ao ln lc, w.cell? ⟨b0, off + k, none⟩ = some (.slice ao ln lc) ∧ Batch w ao ln lc (Bs[k]'hk)) :
    Calls Try.prog 3 #[.int .i64 n, .slice (some ⟨b0, off, none⟩) len cap0, .int .i64 takes] w fun e w' => e = .returned (.bool true) ∧ Below w.heap.size w w' := by
  obtain ⟨c, hc, hc3⟩ := mod4_in takes
  go_enter Try.func3, Try.ntmps3
  go_upto_region 3 with (go_at_call 7; refine (lives_any _).mono ?_; rintro e w1 ⟨rfl, hb1⟩)
  go_upto_region 4 with (go_at_call 8; refine (text.new_any n _).mono ?_; rintro e w2 ⟨b, p, rfl, hwb, hwp, hr2, hb2⟩)
  have hwb' : w.heap.size ≤ b := Nat.le_trans hb1.size hwb
  have hwp' : w.heap.size ≤ p := Nat.le_trans hb1.size hwp
  have hbB := hr2.lt_b
  have hpB := hr2.lt_p
  have hcp := hr2.cap64
  have hst : St w w2.heap.size b p (capOf n) w2 (.slice none 0 0) (.slice none 0 0) 0 [] [] := ⟨⟨0, hr2⟩, World.ownsRow_nil _ _ _ _, World.ownsRow_nil _ _ _ _, apart_nil _, below_step hb1 hb2, Nat.le_refl _⟩
  have hwB : w.heap.size ≤ w2.heap.size := by omega
  generalize capOf n = cp at *
  generalize w2.heap.size = B at *
  clear hr2 hb2 hb1 hwb hwp
  go_wp2
  go_loopg [29, 8, 9, 10] len (fun m i v8 v9 l wr => ∃ (k : Nat) (got q : List ByteArray) (lost : Int), k + m = len ∧ i = .int .i64 k ∧ l = .int .i64 lost ∧ St w B b p cp wr v8 v9 lost got q ∧ (got ++ q).length ≤ ((Bs.take k).map List.length).sum)
  case atStart => exact ⟨0, [], [], 0, by omega, rfl, rfl, hst, by simp⟩
  case round =>
    clear hst
    obtain ⟨k, got, q, lost, hkm, rfl, rfl, hst, hle⟩ := hrel
    by_cases hk : k < len
    · obtain ⟨ao, ln, lc, hcell0, hbat⟩ := hbs k (by omega)
      have htot := tot_succ Bs k (by omega)
      have htotle := tot_le Bs (k + 1)
      generalize Bs[k]'(by omega) = L at *
      have hcell := (hst.below.cell (p := ⟨b0, off + k, none⟩) hbw).trans hcell0
      have hkd : decide ((k : Int) < (len : Int)) = true := by simpa using hk
      have hkl : (k : Int) < len := by omega
      obtain ⟨first, hring⟩ := hst.ring
      obtain ⟨d, hd⟩ : ∃ d, ln - min ln (cp - q.length) = d := ⟨_, rfl⟩
      have hln := hbat.len
      have hllc := hbat.le
      have hlcm := hbat.max
      have hnil := hbat.nil
      obtain ⟨m, hm⟩ : ∃ m : Nat, ln - d = m := ⟨_, rfl⟩
      have hm0 : (ln : Int) - d = (m : Int) := by omega
      have hm1 : (L.take (cp - q.length)).length = m := by rw [List.length_take]; omega
      have hd0 : decide ((d : Int) < 0) = false := by simp
      have hd1 : decide ((ln : Int) < (d : Int)) = false := by simp; omega
      have hd2 : ¬ ((ln : Int) < (d : Int)) := by omega
      have HL := Lib.hid hm1
      have HN := Lib.hid hln
      clear hcell0 hm1
      go_upto_region 10 with (go_at_call 9; go_must (refine (put_batch hbat hst.below hwb' hwp' hring d hd).mono ?_; rintro e w3 ⟨rfl, hr3, ht3⟩))
      have hnews := hbat.news (cp - q.length) (Touch.under hst.below ht3 hwb' hwp')
      generalize hLe : L.take (cp - q.length) = L' at *
      obtain ⟨p3, hs3, hnext⟩ := hst.puts hbB hpB hwb' hwp' hr3 ht3
      have hlost : wrap64 (lost + d) = text.lostBy lost d := rfl
      generalize text.lostBy lost d = lost' at *
      have HH := Lib.hid hnext
      have HT := Lib.hid (And.intro htot htotle)
      have HS := Lib.hid hbat
      clear hnext hst hr3 ht3 hring hd htot htotle hbat hcell
      obtain ⟨i0, hi, hz0, hz1, hz2⟩ := info_parts info_string
      go_upto_region 14 with (at_builtin; go_must (refine append_any rfl _ _ 26 rfl B 9 i0 (.string ⟨#[]⟩) 1 16 Try.underlying26 hi hz0 hz1 hz2 rfl (by decide) _ _ _ rfl p3 ao m _ (L'.map Value.string) rfl (fun e1 => ⟨by have := hnil e1; omega, by simpa using hnil e1⟩) (by rw [List.length_map, HL.out]; omega) hnews (texts_oneCell _) (by unfold maxLen; have := HT.out; have := HN.out; omega) (by have := HT.out; have := HN.out; omega) hs3 ?_; intro v' w4 k1 k2 k3))
      have hst4 := HH.out v' w4 (by rw [HL.out]; exact k1) k2 k3
      have hle4 : (got ++ (q ++ L')).length ≤ ((Bs.take (k + 1)).map List.length).sum := by
        have := HT.out
        have := HN.out
        have := HL.out
        simp only [List.length_append] at hle ⊢
        omega
      have htle : ((Bs.take (k + 1)).map List.length).sum ≤ 1048576 := by have := HT.out; omega
      clear HH HT HN HL HS k1 k2 k3 hnews p3 hs3 hle hnil hm0 hm hd0 hd1 hd2 hlost hi hz0 hz1 hz2 hLe
      generalize q ++ L' = q4 at *
      go_wp2
      go_loopg [14, 9] c (fun m i v9 wr => ∃ (j : Nat) (got q : List ByteArray), j + m = c ∧ i = .int .i64 j ∧ St w B b p cp wr v' v9 lost' got q ∧ (got ++ q).length ≤ ((Bs.take (k + 1)).map List.length).sum)
      case atStart => exact ⟨0, got, q4, by omega, rfl, hst4, hle4⟩
      case round =>
        clear hst4 hle4
        obtain ⟨j, got, q, hjm, rfl, hst, hle⟩ := hrel
        by_cases hj : j < c
        · have hjd : decide ((j : Int) < (c : Int)) = true := by simpa using hj
          obtain ⟨first, hring⟩ := hst.ring
          cases q with
          | nil =>
            go_wp2_with (go_at_call 10; go_must (refine (text.take_any b p cp first lost' [] _ hring).mono ?_; rintro e w5 ⟨rfl, hb5⟩))
            go_roundg (c - j - 1)
            case measure => omega
            case rel => exact ⟨j + 1, got, [], by omega, by go_num, hst.later hb5, hle⟩
          | cons x q =>
            have hgl : got.length + 1 ≤ 1048576 := by have h := hle; simp only [List.length_append, List.length_cons] at h; omega
            have HS := Lib.hid hst
            clear hst
            go_upto_region 18 with (go_at_call 10; go_must (refine (text.take_any b p cp first lost' (x :: q) _ hring).mono ?_; rintro e w5 ⟨rfl, hr5, ht5⟩))
            obtain ⟨g5, hs5, hnext⟩ := HS.out.taken hbB hpB hwb' hwp' hr5 ht5
            have HH := Lib.hid hnext
            clear hnext hr5 ht5 hring
            obtain ⟨i0, hi, hz0, hz1, hz2⟩ := info_parts info_string
            go_wp2_with (at_builtin; go_must (refine append_any rfl _ _ 26 rfl B 9 i0 (.string ⟨#[]⟩) 1 16 Try.underlying26 hi hz0 hz1 hz2 rfl (by decide) _ _ _ rfl g5 (some ⟨w5.heap.size, 0, none⟩) 1 _ [.string x] rfl (fun e1 => by cases e1) rfl (fun ad had => by injection had with had; subst had; exact cell_one_new _ _ _) (texts_oneCell [x]) (by unfold maxLen; omega) (by omega) hs5 ?_; intro v5 w6 k1 k2 k3))
            go_roundg (c - j - 1)
            case measure => omega
            case rel => exact ⟨j + 1, got ++ [x], q, by omega, by go_num, HH.out v5 w6 k1 k2 k3, by simp only [List.length_append, List.length_cons, List.length_nil] at hle ⊢; omega⟩
        · have hjd : decide ((j : Int) < (c : Int)) = false := by simpa using hj
          go_wp2
          go_roundg (len - k - 1)
          case measure => omega
          case rel => exact ⟨k + 1, got, q, lost', by omega, by go_num, rfl, hst, hle⟩
    · obtain rfl : k = len := by omega
      have hkd : decide ((k : Int) < (k : Int)) = false := by simp
      obtain ⟨first, hring⟩ := hst.ring
      have c0 := hring.c0
      go_upto_region 22 with (go_at_call 11; go_must (refine (len_any b _ _ c0).mono ?_; rintro e w3 ⟨rfl, hb3⟩))
      have hst3 := hst.later hb3
      have htle : (got ++ q).length ≤ 1048576 := by have := tot_le Bs k; omega
      obtain ⟨m, hm⟩ : ∃ m, q.length = m := ⟨_, rfl⟩
      have hm64 : m ≤ 64 := by have := hring.fits; omega
      rw [hm]
      clear hst hb3 hring c0 hle
      go_wp2
      go_loopg [18, 9] m (fun r i v9 wr => ∃ (j : Nat) (got q : List ByteArray), q.length = r ∧ j + r = m ∧ i = .int .i64 j ∧ St w B b p cp wr u8 v9 lost got q ∧ (got ++ q).length ≤ 1048576)
      case atStart => exact ⟨0, got, q, hm, by omega, rfl, hst3, htle⟩
      case round =>
        clear hst3 htle hm
        obtain ⟨j, got, q, hqr, hjm, rfl, hst, hle⟩ := hrel
        obtain ⟨first, hring⟩ := hst.ring
        cases q with
        | nil =>
          obtain rfl : j = m := by simp at hqr; omega
          have hjd : decide ((j : Int) < (j : Int)) = false := by simp
          have hg8 := hst.put
          rw [List.append_nil] at hg8 hle
          obtain ⟨a8, c8, rfl, hh8⟩ := own_texts hg8 rfl
          obtain ⟨a9, c9, rfl, hh9⟩ := own_texts hst.got rfl
          obtain ⟨l9, hl9⟩ : ∃ l, got.length = l := ⟨_, rfl⟩
          rw [hl9]
          have c2 := hring.c2
          have hbs' := hring.lt_b
          have hbelow := hst.below
          have hl9b : l9 ≤ 1048576 := by omega
          have HL := Lib.hid hl9
          clear hg8 hst hl9 hbs hle hqr
          go_wp2_with (first
            | (go_at_call 10; go_must (refine (text.take_any b p cp first lost [] _ hring).mono ?_; rintro e w5 ⟨rfl, hb5⟩; obtain ⟨r5, f5⟩ := below_reads hb5; have hh8' := hh8.below hb5; have hh9' := hh9.below hb5))
            | (go_at_call 12; go_must (refine (lost_any b _ _ ((r5 b 2 hbs').trans c2)).mono ?_; rintro e w6 ⟨rfl, hb6⟩; have hh8'' := hh8'.below hb6; have hh9'' := hh9'.below hb6))
            | (go_at_call 13; go_must (refine (text.same_true got _ _ _ _ _ _ _ HL.out HL.out (by omega) hh9'' hh8'').mono ?_; rintro e w7 ⟨rfl, hb7⟩)))
          go_ret
          exact ⟨rfl, by repeat (first | assumption | refine below_step ?_ (by assumption))⟩
        | cons x q =>
          have hgl : got.length + 1 ≤ 1048576 := by have h := hle; simp only [List.length_append, List.length_cons] at h; omega
          simp only [List.length_cons] at hqr
          have hjd : decide ((j : Int) < (m : Int)) = true := by simp; omega
          have HS := Lib.hid hst
          clear hst
          go_upto_region 26 with (go_at_call 10; go_must (refine (text.take_any b p cp first lost (x :: q) _ hring).mono ?_; rintro e w5 ⟨rfl, hr5, ht5⟩))
          obtain ⟨g5, hs5, hnext⟩ := HS.out.taken hbB hpB hwb' hwp' hr5 ht5
          have HH := Lib.hid hnext
          clear hnext hr5 ht5 hring
          obtain ⟨i0, hi, hz0, hz1, hz2⟩ := info_parts info_string
          go_wp2_with (at_builtin; go_must (refine append_any rfl _ _ 26 rfl B 9 i0 (.string ⟨#[]⟩) 1 16 Try.underlying26 hi hz0 hz1 hz2 rfl (by decide) _ _ _ rfl g5 (some ⟨w5.heap.size, 0, none⟩) 1 _ [.string x] rfl (fun e1 => by cases e1) rfl (fun ad had => by injection had with had; subst had; exact cell_one_new _ _ _) (texts_oneCell [x]) (by unfold maxLen; omega) (by omega) hs5 ?_; intro v5 w6 k1 k2 k3))
          go_roundg q.length
          case measure => omega
          case rel => exact ⟨j + 1, got ++ [x], q, rfl, by omega, by go_num, HH.out v5 w6 k1 k2 k3, by simp only [List.length_append, List.length_cons, List.length_nil] at hle ⊢; omega⟩
end Go.Proofs.Ytaamachonbkjoaa.ring
