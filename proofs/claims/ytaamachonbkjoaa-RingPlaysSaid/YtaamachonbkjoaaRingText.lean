/-
  What New, at, Take and Put of a queue of texts do.
-/
import Derived.Test.YtaamachonbkjoaaRingA
import Derived.Deep.OwnRows
import Derived.Deep.DeepCutAuto
import Derived.Deep.CutBlock
import Derived.Deep.DeepMust
namespace Go.Proofs.Ytaamachonbkjoaa.ring.text
open Go.RowKit

abbrev enc : ByteArray → Value := Value.string
abbrev zero : ByteArray := ⟨#[]⟩

theorem info_elem : (Try.prog.info? 9).map (fun i => (i.zero, i.size, i.bytes)) = some (some (enc zero), 1, 16) := by kernel_rfl

/-- How many a queue that was asked for n holds. -/
abbrev capOf := ring.capOf

theorem new_any (n : Int) (w : World) : Calls Try.prog 8 #[.int .i64 n] w fun e w' => Made enc n w e w' := by
  have hc := capOf_in n
  go_enter Try.func8, Try.ntmps8
  go_upto_region 2 with (fail)
  rw [capOf_eq n]
  have HH := Lib.hid (RingAt.new (V := ByteArray) (enc := enc) (w := w) (T := 35) (E := 9) (z := enc zero) hc.1 hc.2)
  generalize hcn : ring.capOf n = c at *
  have HC := Lib.hid hcn
  clear hcn
  have hmk := fun W => run_make_row' (P := Try.prog) 26 9 (enc zero) 16 Try.underlying26 info_elem rfl .i64 .i64 c (by omega) (by omega) W
  go_wp2
  all_goals
    go_ret
    exact ⟨w.heap.size + 1, w.heap.size, rfl, Nat.le_succ _, Nat.le_refl _, HC.out ▸ HH.out, below_new (below_new (Below.refl _ _) _) _⟩

theorem at_any (b p cap first : Nat) (lost : Int) (q : List ByteArray) (i : Nat) (w : World) (h : RingAt enc w b p cap first lost q) (hi : i ≤ 64) :
    Calls Try.prog 26 #[.pointer (some ⟨b, 0, none⟩), .int .i64 i] w fun e w' => e = .returned (.pointer (some ⟨p, (first + i) % cap, none⟩)) ∧ Below w.heap.size w w' := by
  have hb := h.lt_b
  have c1 := h.c1
  have c3 := h.c3
  have c4 := h.c4
  have k1 := h.cap1
  have k2 := h.cap64
  have k3 := h.first_lt
  have m0 : (0 : Int) ≤ ((first : Int) + i) % cap := Int.emod_nonneg _ (by omega)
  have m1 : ((first : Int) + i) % cap < cap := Int.emod_lt_of_pos _ (by omega)
  clear h
  go_enter Try.func26, Try.ntmps26
  go_wp2
  refine wp_region_later (by kernel_rfl) (by kernel_rfl) ?_
  repeat (go_big_quiet_step (fail))
  refine wpQuiet_nil ?_
  intro w1 hb1
  go_wp2
  go_ret
  exact ⟨rfl, hb1⟩

/-- What Take leaves. -/
def Taken (b p cap first : Nat) (lost : Int) (w : World) : List ByteArray → Ending → World → Prop
  | [], e, w' => e = .returned (.tuple #[enc zero, .bool false]) ∧ Below w.heap.size w w'
  | x :: q, e, w' => e = .returned (.tuple #[enc x, .bool true]) ∧ RingAt enc w' b p cap ((first + 1) % cap) lost q ∧ Touch w w' b p

theorem take_any (b p cap first : Nat) (lost : Int) (q : List ByteArray) (w : World) (h : RingAt enc w b p cap first lost q) :
    Calls Try.prog 10 #[.pointer (some ⟨b, 0, none⟩)] w fun e w' => Taken b p cap first lost w q e w' := by
  have hb := h.lt_b
  have c0 := h.c0
  cases q with
  | nil =>
    simp only [List.length_nil] at c0
    clear h
    go_enter Try.func10, Try.ntmps10
    go_wp2
    go_ret2
    exact ⟨rfl, Below.refl _ _⟩
  | cons x q =>
    have hp := h.lt_p
    have c1 := h.c1
    have c4 := h.c4
    have k0 := h.ne
    have k1 := h.cap1
    have k2 := h.cap64
    have k3 := h.first_lt
    have k4 := h.fits
    have c5 := h.holds 0 x rfl
    simp only [List.length_cons] at c0 k4
    rw [Nat.add_zero] at c5
    have fb := h.fb
    have fp := h.fp
    have m0 : (0 : Int) ≤ ((first : Int) + 1) % cap := Int.emod_nonneg _ (by omega)
    have m1 : ((first : Int) + 1) % cap < cap := Int.emod_lt_of_pos _ (by omega)
    have hn0 : (((q.length + 1 : Nat) : Int) == 0) = false := by rw [beq_eq_false_iff_ne]; omega
    go_enter Try.func10, Try.ntmps10
    go_upto_region 5 with (go_at_call 26; refine (at_any b p cap first lost _ 0 _ h (by omega)).mono ?_; rintro e w1 ⟨rfl, hb1⟩; obtain ⟨r1, f1⟩ := below_reads hb1)
    have h1 := h.below hb1
    clear r1 f1 c0 c1 c4 c5 fb fp h
    have hT1 := Touch.of_below b p hb1
    clear hb1
    go_upto_region 6 with (go_at_call 26; refine (at_any b p cap first lost _ 0 _ h1 (by omega)).mono ?_; rintro e w2 ⟨rfl, hb2⟩; have h2 := h1.below hb2; have c5 := h2.holds 0 x rfl; have fp := h2.fp; rw [Nat.add_zero] at c5)
    have hT2 := (hT1.below hb2).set (g := p) (.inr rfl) (first % cap) (enc zero)
    have ht := h2.take (enc zero)
    have c0 : (w2.setCell ⟨p, first % cap, none⟩ (enc zero)).cell? ⟨b, 0, none⟩ = some (.int .i64 ((q.length : Int) + 1)) := (cell_far _ _ _ _ _ _ (by omega)).trans h2.c0
    have c1 : (w2.setCell ⟨p, first % cap, none⟩ (enc zero)).cell? ⟨b, 1, none⟩ = some (.int .i64 cap) := (cell_far _ _ _ _ _ _ (by omega)).trans h2.c1
    have c4 : (w2.setCell ⟨p, first % cap, none⟩ (enc zero)).cell? ⟨b, 4, none⟩ = some (.int .i64 first) := (cell_far _ _ _ _ _ _ (by omega)).trans h2.c4
    have fb : ∀ o, (w2.setCell ⟨p, first % cap, none⟩ (enc zero)).frozen? ⟨b, o, none⟩ = false := fun o => (World.frozen?_setCell _ _ _ _).trans (h2.fb o)
    clear c5 fp h1 h2 hb2 hT1
    generalize w2.setCell ⟨p, first % cap, none⟩ (enc zero) = W3 at *
    have f0 := fb 0
    have f4 := fb 4
    have HT := Lib.hid ht
    clear fb ht
    go_region
    all_goals
      go_wp2
      go_ret2
      rw [show ((first : Int) + 1) % cap = (((first + 1) % cap : Nat) : Int) from by simp]
      exact ⟨rfl, HT.out.kept rfl rfl, ((hT2.set (.inl rfl) _ _).set (.inl rfl) _ _).drew⟩

/-- The first k places of a slice of texts hold L. -/
def Holds (w : World) (ao : Option Addr) (L : List ByteArray) : Prop := L = [] ∨ ∃ g o, ao = some ⟨g, o, none⟩ ∧ ∀ i x, L[i]? = some x → w.cell? ⟨g, o + i, none⟩ = some (enc x)

def lostBy (lost : Int) (n : Nat) : Int := wrap64 (lost + n)

set_option maxHeartbeats 1000000 in
theorem put_any (b p cap first : Nat) (lost : Int) (q L : List ByteArray) (g o lc : Nat) (w : World) (h : RingAt enc w b p cap first lost q) (hL : L.length ≤ lc) (hlc : lc ≤ 9223372036854775807) (hgb : g ≠ b) (hgp : g ≠ p)
    (hc : ∀ i x, L[i]? = some x → w.cell? ⟨g, o + i, none⟩ = some (enc x)) :
    Calls Try.prog 9 #[.pointer (some ⟨b, 0, none⟩), .slice (some ⟨g, o, none⟩) L.length lc] w fun e w' =>
      e = .returned (.int .i64 (L.length - min L.length (cap - q.length) : Nat)) ∧ RingAt enc w' b p cap first (lostBy lost (L.length - min L.length (cap - q.length))) (q ++ L.take (cap - q.length)) ∧ Touch w w' b p := by
  obtain ⟨fit, hfit⟩ : ∃ fit, min L.length (cap - q.length) = fit := ⟨_, rfl⟩
  have hf1 : fit ≤ L.length := by omega
  have hf2 : fit ≤ cap - q.length := by omega
  have hq := h.fits
  have c0 := h.c0
  have c1 := h.c1
  have hb := h.lt_b
  have k2 := h.cap64
  rw [hfit]
  have HF := Lib.hid hfit
  go_enter Try.func9, Try.ntmps9
  go_upto_region 1 with (fail)
  go_cut [5] (fun s5 wx => s5 = .int .i64 fit ∧ Below w.heap.size w wx)
  case first =>
    have HH := Lib.hid h
    clear h hc
    by_cases hle : L.length ≤ cap - q.length
    · obtain rfl : L.length = fit := by omega
      have hlt : ¬ ((cap : Int) - q.length < L.length) := by omega
      clear hfit hf1 hf2
      refine wp_region_later (by kernel_rfl) (by kernel_rfl) ?_
      repeat (go_big_quiet_step (fail))
      refine wpQuiet_nil ?_
      intro w1 hb1
      go_wp2
      go_meet
      case rel => exact ⟨rfl, hb1⟩
    · obtain rfl : cap - q.length = fit := by omega
      have hlt : (cap : Int) - q.length < L.length := by omega
      clear hfit hf1 hf2
      refine wp_region_later (by kernel_rfl) (by kernel_rfl) ?_
      repeat (go_big_quiet_step (fail))
      refine wpQuiet_nil ?_
      intro w1 hb1
      go_wp2
      go_meet
      case rel => exact ⟨by go_num, hb1⟩
  case rest =>
    obtain ⟨rfl, hb1⟩ := hcut
    have h1 := h.below hb1
    have hT1 := Touch.of_below b p hb1
    clear c0 c1 hb1 hfit
    have hfl : (fit : Int) ≤ lc := by omega
    go_wp2
    go_loopw [26] (fun v wr => ∃ k : Nat, k ≤ fit ∧ v = .int .i64 k ∧ RingAt enc wr b p cap first lost (q ++ L.take k) ∧ Touch w wr b p) (fun v _ => fit - (intOf v).toNat)
    case atStart => exact ⟨0, by omega, rfl, by simpa using h1, hT1⟩
    case round =>
      clear h1 hT1
      obtain ⟨k, hk, rfl, h2, hT2⟩ := hrel
      by_cases hkf : k < fit
      · have hkd : decide ((k : Int) < (fit : Int)) = true := by simpa using hkf
        have hkL : k < L.length := by omega
        have hx : L[k]? = some (L[k]'hkL) := List.getElem?_eq_getElem hkL
        have hcell := hT2.cell (hc k _ hx) hgb hgp
        have hlen : (q ++ L.take k).length = q.length + k := by simp; omega
        have c0 := h2.c0
        rw [hlen] at c0
        obtain ⟨m, hm⟩ : ∃ m, q.length + k = m := ⟨_, rfl⟩
        have hm64 : m ≤ 64 := by omega
        rw [hm] at c0 hlen
        have HL := Lib.hid hlen
        have HM := Lib.hid hm
        generalize hxe : L[k]'hkL = x at *
        have HX := Lib.hid hx
        clear hlen hm hx hxe
        go_wp2_with (go_at_call 26; refine (at_any b p cap first lost _ m _ h2 hm64).mono ?_; rintro e w3 ⟨rfl, hb3⟩; have h3 := h2.below hb3; obtain ⟨u3, t3⟩ := h3.there _ (mod_lt' (first + m) h3.cap1); have f3 := h3.fp; have c3 := (h3.c0); rw [HL.out] at c3; have c3' := (cell_far w3 p ((first + m) % cap) b 0 (enc x) (.inl (Ne.symm h3.ne))).trans c3; have fb3 := h3.fb)
        go_roundw
        case rel =>
          have h4 := (h2.below hb3).put (by rw [HL.out]; have := HM.out; omega) x
          rw [HL.out] at h4
          have e : L.take (k + 1) = L.take k ++ [x] := by rw [List.take_add_one, HX.out]; rfl
          refine ⟨k + 1, by omega, by go_num, ?_, ((hT2.below hb3).set (.inr rfl) _ _).set (.inl rfl) _ _⟩
          rw [e, ← List.append_assoc]
          exact h4
        case measure => simp [intOf]; omega
      · have hkd : decide ((k : Int) < (fit : Int)) = false := by simpa using hkf
        obtain rfl : k = fit := by omega
        have c2 := h2.c2
        have f2 := h2.fb 2
        go_wp2
        go_ret
        have e1 : ((L.length : Int) - (k : Int)) = ((L.length - k : Nat) : Int) := by omega
        have e2 : L.take (cap - q.length) = L.take k := by
          have := HF.out
          by_cases hc : L.length ≤ cap - q.length
          · rw [List.take_of_length_le hc, List.take_of_length_le (by omega)]
          · rw [show cap - q.length = k by omega]
        rw [e1, e2]
        exact ⟨rfl, h2.lose _ (wrap64_bounds _), hT2.set (.inl rfl) _ _⟩

theorem put_as (b p cap first : Nat) (lost : Int) (q L : List ByteArray) (g o n lc : Nat) (w : World) (h : RingAt enc w b p cap first lost q) (d : Nat) (q' : List ByteArray) (l' : Int) (hn : L.length = n) (hL : n ≤ lc) (hlc : lc ≤ 9223372036854775807) (hgb : g ≠ b) (hgp : g ≠ p)
    (hc : ∀ i x, L[i]? = some x → w.cell? ⟨g, o + i, none⟩ = some (enc x)) (hd : n - min n (cap - q.length) = d) (hq : q ++ L.take (cap - q.length) = q') (hl : lostBy lost d = l') :
    Calls Try.prog 9 #[.pointer (some ⟨b, 0, none⟩), .slice (some ⟨g, o, none⟩) n lc] w fun e w' => e = .returned (.int .i64 (d : Nat)) ∧ RingAt enc w' b p cap first l' q' ∧ Touch w w' b p := by
  subst hn; subst hd; subst hq; subst hl
  exact put_any b p cap first lost q L g o lc w h hL hlc hgb hgp hc

/-- Nothing is put. -/
theorem put_none (b p cap first : Nat) (lost : Int) (q : List ByteArray) (ao : Option Addr) (lc : Nat) (w : World) (h : RingAt enc w b p cap first lost q) (hlc : lc ≤ 9223372036854775807) (ha : ao = none → lc = 0) :
    Calls Try.prog 9 #[.pointer (some ⟨b, 0, none⟩), .slice ao 0 lc] w fun e w' => e = .returned (.int .i64 0) ∧ RingAt enc w' b p cap first lost q ∧ Touch w w' b p := by
  have hq := h.fits
  have c0 := h.c0
  have c1 := h.c1
  have hb := h.lt_b
  have k2 := h.cap64
  have hl64 := h.lostb
  have HH := Lib.hid h
  clear h
  have key : ∀ n : Nat, n ≤ 0 → Calls Try.prog 9 #[.pointer (some ⟨b, 0, none⟩), .slice ao n lc] w fun e w' => e = .returned (.int .i64 0) ∧ RingAt enc w' b p cap first lost q ∧ Touch w w' b p := by
    intro n hn
    have hlt : ¬ ((cap : Int) - q.length < n) := by omega
    have hnl : (n : Int) ≤ lc := by omega
    have hnn : (0 : Int) ≤ n := by omega
    have hz : decide ((0 : Int) < (n : Int)) = false := by simpa using hn
    have hz' : ¬ ((0 : Int) < (n : Int)) := by omega
    go_enter Try.func9, Try.ntmps9
    go_upto_region 1 with (fail)
    go_cut [5] (fun s5 wx => s5 = .int .i64 n ∧ Below w.heap.size w wx)
    case first =>
      refine wp_region_later (by kernel_rfl) (by kernel_rfl) ?_
      repeat (go_big_quiet_step (fail))
      refine wpQuiet_nil ?_
      intro w1 hb1
      go_wp2
      go_meet
      case rel => exact ⟨rfl, hb1⟩
    case rest =>
      obtain ⟨rfl, hb1⟩ := hcut
      have h1 := HH.out.below hb1
      have hT1 := Touch.of_below b p hb1
      have c2 := h1.c2
      have f2 := h1.fb 2
      clear c0 c1 hb1
      cases ao with
      | none =>
        obtain rfl := ha rfl
        go_wp2
        refine wp_loop_rounds 1 ?_
        rw [rounds_succ]
        go_wp2
        go_ret
        obtain rfl : n = 0 := by omega
        have hw : wrap64 lost = lost := IntWalk.wrap64_in _ hl64
        exact ⟨by simp, by simpa [hw] using h1.lose lost hl64, by simpa [hw] using hT1.set (.inl rfl) 2 (.int .i64 lost)⟩
      | some a =>
        go_wp2
        refine wp_loop_rounds 1 ?_
        rw [rounds_succ]
        go_wp2
        go_ret
        obtain rfl : n = 0 := by omega
        have hw : wrap64 lost = lost := IntWalk.wrap64_in _ hl64
        exact ⟨by simp, by simpa [hw] using h1.lose lost hl64, by simpa [hw] using hT1.set (.inl rfl) 2 (.int .i64 lost)⟩
  exact key 0 (Nat.le_refl 0)

/-- Two slices that hold the same are the same. -/
theorem same_true (L : List ByteArray) (a1 a2 : Option Addr) (n1 n2 c1 c2 : Nat) (w : World) (h1 : L.length = n1) (h2 : L.length = n2) (hl : n1 ≤ 9223372036854775807) (k1 : Holds w a1 L) (k2 : Holds w a2 L) :
    Calls Try.prog 13 #[.slice a1 n1 c1, .slice a2 n2 c2] w fun e w' => e = .returned (.bool true) ∧ Below w.heap.size w w' := by
  obtain rfl : n1 = n2 := by omega
  by_cases h0 : n1 = 0
  · subst h0
    clear k1 k2 h1 h2
    go_enter Try.func13, Try.ntmps13
    go_wp2
    refine wp_loop_rounds 1 ?_
    rw [rounds_succ]
    go_wp2
    go_ret
    exact ⟨rfl, Below.refl _ _⟩
  · have hne : L ≠ [] := fun e => by subst e; simp at h1; omega
    obtain ⟨g1, o1, rfl, r1⟩ := k1.resolve_left hne
    obtain ⟨g2, o2, rfl, r2⟩ := k2.resolve_left hne
    go_enter Try.func13, Try.ntmps13
    go_wp2
    go_loopw [13] (fun v wr => ∃ k : Nat, k ≤ n1 ∧ v = .int .i64 k ∧ Below w.heap.size w wr) (fun v _ => n1 - (intOf v).toNat)
    case atStart => exact ⟨0, by omega, rfl, Below.refl _ _⟩
    case round =>
      obtain ⟨k, hk, rfl, hb⟩ := hrel
      by_cases hlt : k < n1
      · have hx : L[k]? = some (L[k]'(by omega)) := List.getElem?_eq_getElem (by omega)
        have y1 := (hb.cell (p := ⟨g1, o1 + k, none⟩) (World.block_lt_of_cell? _ _ (r1 k _ hx))).trans (r1 k _ hx)
        have y2 := (hb.cell (p := ⟨g2, o2 + k, none⟩) (World.block_lt_of_cell? _ _ (r2 k _ hx))).trans (r2 k _ hx)
        generalize L[k]'(by omega) = x at *
        have q1 : g1 < wr.heap.size := World.block_lt_of_cell? _ _ y1
        have q2 : g2 < wr.heap.size := World.block_lt_of_cell? _ _ y2
        have hkd : decide ((k : Int) < (n1 : Int)) = true := by simpa using hlt
        have z0 : (0 : Int) ≤ k := by omega
        have z1 : (k : Int) < n1 := by omega
        clear hx r1 r2 h1 h2 k1 k2
        go_wp2
        refine wp_region_later (by kernel_rfl) (by kernel_rfl) ?_
        repeat (go_big_quiet_step (fail))
        refine wpQuiet_nil ?_
        intro w1 hb1
        go_wp2
        go_roundw
        case rel => exact ⟨k + 1, by omega, by go_num, below_step hb hb1⟩
        case measure => simp [intOf]; omega
      · have hkd : decide ((k : Int) < (n1 : Int)) = false := by simpa using hlt
        go_wp2
        go_ret
        exact ⟨rfl, hb⟩
end Go.Proofs.Ytaamachonbkjoaa.ring.text
