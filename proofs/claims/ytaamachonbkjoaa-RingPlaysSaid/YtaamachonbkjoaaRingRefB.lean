/-
  Put of the reference's queue.
-/
import Derived.Test.YtaamachonbkjoaaRingRef
namespace Go.Proofs.Ytaamachonbkjoaa.ring
open Go.RowKit

/-- What Put leaves. -/
def PuttenR (B r cap : Nat) (lost : Int) (q : List Int) (v : Value) (g0 : Nat) (w : World) (d : Nat) (e : Ending) (w' : World) : Prop :=
  e = .returned (.int .i64 d) ∧ (∃ u, RefAt w' B r cap (wrap64 (lost + d)) q u ∧ (u.ownBlock = v.ownBlock ∨ ∀ g, u.ownBlock = some g → w.heap.size ≤ g)) ∧ Touch w w' r g0

theorem RefAt.lose {w : World} {B r cap : Nat} {lost : Int} {q : List Int} {v : Value} (h : RefAt w B r cap lost q v) (l : Int) (hl : -9223372036854775808 ≤ l ∧ l ≤ 9223372036854775807) : RefAt (w.setCell ⟨r, 2, none⟩ (.int .i64 l)) B r cap l q v :=
  ⟨(cell_far _ _ _ _ _ _ (by omega)).trans h.c0, (cell_far _ _ _ _ _ _ (by omega)).trans h.c1, cell_set _ _ _ _ h.c2, fun o => (World.frozen?_setCell _ _ _ _).trans (h.fr o),
    ownsRow_setCell_other h.own (fun hv => by have := (h.own.lt _ hv).1; have := h.lt; simp at *; omega) _, h.lt, h.cap1, h.cap64, h.fits, hl⟩

set_option maxHeartbeats 1000000 in
theorem putR_any (B r cap : Nat) (lost : Int) (q L : List Int) (v : Value) (g o ln lc g0 : Nat) (w : World) (h : RefAt w B r cap lost q v) (hB : B ≤ w.heap.size) (hg0 : v.ownBlock = none ∨ v.ownBlock = some g0) (hL : L.length = ln) (hl63 : ln ≤ 9223372036854775807) (hgr : g ≠ r) (hgg : g ≠ g0)
    (hc : ∀ i x, L[i]? = some x → w.cell? ⟨g, o + i, none⟩ = some (.int .i64 x)) (d : Nat) (hd : ln - min ln (cap - q.length) = d) (q' : List Int) (hq' : q ++ L.take (cap - q.length) = q') :
    Calls Try.prog 22 #[.pointer (some ⟨r, 0, none⟩), .slice (some ⟨g, o, none⟩) ln lc] w fun e w' => PuttenR B r cap lost q' v g0 w d e w' := by
  obtain ⟨room, hroom⟩ : ∃ room, cap - q.length = room := ⟨_, rfl⟩
  rw [hroom] at hd hq'
  have hfit := h.fits
  have hc64 := h.cap64
  have hrB := h.lt
  go_enter Try.func22, Try.ntmps22
  go_wp2
  go_loopg [10, 5] ln (fun m i s5 wr => ∃ (k : Nat) (u : Value), k + m = ln ∧ i = .int .i64 k ∧ s5 = .int .i64 (k - min k room : Nat) ∧ RefAt wr B r cap lost (q ++ L.take (min k room)) u ∧ Touch w wr r g0 ∧ (u.ownBlock = v.ownBlock ∨ ∀ g, u.ownBlock = some g → w.heap.size ≤ g))
  case atStart => exact ⟨0, v, by omega, rfl, by simp, by simpa using h, Touch.refl _ _ _, .inl rfl⟩
  case round =>
    clear h
    obtain ⟨k, u, hkm, rfl, rfl, h, hT, hu⟩ := hrel
    obtain ⟨wo, rfl⟩ : ∃ wo : World, wo = wr := ⟨_, rfl⟩
    by_cases hk : k < ln
    · have hkd : decide ((k : Int) < (ln : Int)) = true := by simpa using hk
      have hkl : (k : Int) < ln := by omega
      obtain ⟨x, hx⟩ : ∃ x, L[k]? = some x := ⟨_, List.getElem?_eq_getElem (by omega)⟩
      have hcell := hT.cell (hc k x hx) hgr hgg
      have hlen : (q ++ L.take (min k room)).length = q.length + min k room := by simp; omega
      obtain ⟨a, c, rfl, -⟩ := own_ints h.own rfl
      have c0 := h.c0
      have c1 := h.c1
      have hr := h.lt_r
      have hxB : g < wo.heap.size := World.block_lt_of_cell? _ _ hcell
      go_upto_region 5 with (fail)
      go_cut [23] (fun s23 wx => s23 = .bool (decide (k < room)) ∧ Below wo.heap.size wo wx)
      case first =>
        rw [hlen] at c0
        have hiff : q.length + min k room < cap ↔ k < room := by omega
        generalize q.length + min k room = z at *
        refine wp_region_later (by kernel_rfl) (by kernel_rfl) ?_
        repeat (go_big_quiet_step (fail))
        refine wpQuiet_nil ?_
        intro w1 hb1
        go_wp2
        go_meet
        case rel => exact ⟨by simp [hiff], hb1⟩
      case rest =>
        obtain ⟨rfl, hb1⟩ := hcut
        have h1 := h.below hb1
        have hT1 := hT.below hb1
        obtain ⟨W1, rfl⟩ : ∃ W1 : World, W1 = wc := ⟨_, rfl⟩
        clear c0 c1 hcell hb1 h hT hc
        by_cases hkr : k < room
        · have hkb : decide (k < room) = true := by simpa using hkr
          rw [hkb]
          have e1 : min k room = k := by omega
          have e2 : min (k + 1) room = k + 1 := by omega
          rw [e1] at h1 hlen ⊢
          have et : L.take (k + 1) = L.take k ++ [x] := by rw [List.take_add_one, hx]; rfl
          have c0 := h1.c0
          have f0 := h1.fr 0
          have hown := h1.own
          have hr1 := h1.lt_r
          have hBW : B ≤ W1.heap.size := by have := hT1.size; omega
          rw [hlen] at c0 hown
          have hk0 : k - k = 0 := by omega
          rw [hk0]
          have HX := Lib.hid et
          have H1 := Lib.hid h1
          have HT := Lib.hid hT1
          have hn64 : q.length + k ≤ 64 := by omega
          obtain ⟨n, hn⟩ : ∃ n, q.length + k = n := ⟨_, rfl⟩
          rw [hn] at c0 hown hn64 hlen
          have HN := Lib.hid hn
          have HU := Lib.hid hu
          clear hx et h1 hT1 hkd hn hu
          obtain ⟨i0, hi, hz0, hz1, hz2⟩ := info_parts info_int
          have hne : some r ≠ (Value.slice a n c).ownBlock := fun e1 => by have := (hown.lt r e1.symm).1; omega
          go_wp2_with (at_builtin; go_must (refine append_any rfl _ _ 38 rfl B 3 i0 (.int .i64 0) 1 8 Try.underlying38 hi hz0 hz1 hz2 rfl (by decide) _ _ _ rfl (hown.alloc _) (some ⟨W1.heap.size, 0, none⟩) 1 _ [.int .i64 x] rfl (fun e1 => by cases e1) rfl (fun ad had => by injection had with had; subst had; exact cell_one_new _ _ _) (ints_one [x]) (by unfold maxLen; omega) (by omega) (by simp; omega) ?_; intro v' w2 j1 j2 j3; have hj1 := j1; rw [show List.map (Value.int .i64) (q ++ L.take k) ++ [Value.int .i64 x] = (q ++ L.take (k + 1)).map (Value.int .i64) by rw [HX.out]; simp] at hj1; obtain ⟨a', c', rfl, -⟩ := own_ints hj1 (by rw [HX.out]; simp only [List.length_append, List.length_cons, List.length_nil] at hlen ⊢; omega); have er := (j2.block r (by simp; omega) hne).trans (Below.heap_alloc _ _ _ hr1); have f2 := (World.frozen?_of_block (a := ⟨r, 0, none⟩) er).trans f0; have g2 := (World.cell?_of_block (a := ⟨r, 0, none⟩) er).trans c0))
          go_roundg (ln - k - 1)
          case measure => omega
          case rel =>
            have h2 := H1.out
            have hTs := HT.out.size
            have hn := HN.out
            have hl1 : (q ++ L.take (k + 1)).length = n + 1 := by rw [HX.out]; simp only [List.length_append, List.length_cons, List.length_nil] at hlen ⊢; omega
            have e (o : Nat) : w2.cell? ⟨r, o, none⟩ = W1.cell? ⟨r, o, none⟩ := World.cell?_of_block er
            have hu : (Value.slice a n c).ownBlock = v.ownBlock ∨ ∀ g, (Value.slice a n c).ownBlock = some g → w.heap.size ≤ g := by
              have := HU.out
              cases a <;> exact this
            have hT2 : Touch w w2 r g0 := by
              have h3 := HT.out
              refine ⟨j2.os.trans h3.os, j2.tape.trans h3.tape, j2.output.trans h3.output, Nat.le_trans hTs (Nat.le_trans (by simp) j2.size), fun i hi h1 h2 => ?_⟩
              refine (j2.block i (by simp; omega) (fun e0 => ?_)).trans ((Below.heap_alloc _ _ _ (by omega)).trans (h3.block i hi h1 h2))
              have e1 : some i = (Value.slice a n c).ownBlock := e0
              rcases hu with hu | hu
              · rw [hu] at e1
                rcases hg0 with h4 | h4
                · rw [h4] at e1; cases e1
                · rw [h4] at e1; injection e1; contradiction
              · have := hu i e1.symm
                omega
            refine ⟨k + 1, .slice a' (n + 1) c', by omega, by go_num, ?_, ?_, hT2.set (.inl rfl) _ _, ?_⟩
            · rw [e2, Nat.sub_self]; rfl
            · rw [e2]
              refine ⟨cell_set _ _ _ _ g2, (cell_far _ _ _ _ _ _ (by omega)).trans ((e 1).trans h2.c1), (cell_far _ _ _ _ _ _ (by omega)).trans ((e 2).trans h2.c2), fun o => (World.frozen?_setCell _ _ _ _).trans ((World.frozen?_of_block (a := ⟨r, o, none⟩) er).trans (h2.fr o)), ?_, hrB, h2.cap1, hc64, by omega, h2.lostb⟩
              rw [hl1]
              refine ownsRow_setCell_other hj1 (fun hv => ?_) _
              have := (hj1.lt _ hv).1
              simp at this
              omega
            · rcases j3 with j3 | j3
              · have j4 : (Value.slice a' (n + 1) c').ownBlock = (Value.slice a n c).ownBlock := j3
                rw [j4]; exact hu
              · right
                intro g' hg'
                rw [j3] at hg'
                injection hg' with hg'
                simp at hg'
                omega
        · have hkb : decide (k < room) = false := by simpa using hkr
          rw [hkb]
          have e1 : min k room = room := by omega
          have e2 : min (k + 1) room = room := by omega
          rw [e1] at h1 hu ⊢
          obtain ⟨t, ht⟩ : ∃ t, k - room = t := ⟨_, rfl⟩
          rw [ht]
          go_wp2
          go_roundg (ln - k - 1)
          case measure => omega
          case rel =>
            refine ⟨k + 1, _, by omega, by go_num, ?_, by rw [e2]; exact h1, hT1, hu⟩
            rw [e2, show k + 1 - room = t + 1 by omega]
            go_num
    · have hkd : decide ((k : Int) < (ln : Int)) = false := by simpa using hk
      obtain rfl : k = ln := by omega
      have c2 := h.c2
      have f2 := h.fr 2
      rw [hd]
      have e1 : L.take (min k room) = L.take room := by
        by_cases hc : k ≤ room
        · rw [show min k room = k by omega, List.take_of_length_le (by omega), List.take_of_length_le (by omega)]
        · rw [show min k room = room by omega]
      rw [e1, hq'] at h
      go_wp2
      go_ret
      exact ⟨rfl, ⟨_, h.lose _ (wrap64_bounds _), hu⟩, hT.set (.inl rfl) _ _⟩

theorem putR_none (B r cap : Nat) (lost : Int) (q : List Int) (v : Value) (ao : Option Addr) (lc g0 : Nat) (w : World) (h : RefAt w B r cap lost q v) :
    Calls Try.prog 22 #[.pointer (some ⟨r, 0, none⟩), .slice ao 0 lc] w fun e w' => PuttenR B r cap lost q v g0 w 0 e w' := by
  have c2 := h.c2
  have f2 := h.fr 2
  have hr := h.lt_r
  go_enter Try.func22, Try.ntmps22
  go_wp2
  refine wp_loop_rounds 1 ?_
  rw [rounds_succ]
  go_wp2
  go_ret
  exact ⟨rfl, ⟨v, by simpa using h.lose _ (wrap64_bounds _), .inl rfl⟩, (Touch.refl w r g0).set (.inl rfl) _ _⟩
end Go.Proofs.Ytaamachonbkjoaa.ring
