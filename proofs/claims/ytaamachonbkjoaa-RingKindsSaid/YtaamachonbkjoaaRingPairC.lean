/-
  Put of a queue of pairs, of zero pairs.
-/
import Derived.Test.YtaamachonbkjoaaRingPairB
import Derived.Test.YtaamachonbkjoaaRingLives
namespace Go.Proofs.Ytaamachonbkjoaa.ring
open Go.RowKit

set_option maxHeartbeats 1000000 in
theorem putP_any (b p cap first k g n : Nat) (lost : Int) (w : World) (h : PairAt w b p cap first lost k) (hn : n ≤ 64) (hgb : g ≠ b) (hgp : g ≠ p) (hg : g < w.heap.size)
    (hz : ∀ i, i < n * 2 → w.cell? ⟨g, i, none⟩ = some (.int .i64 0)) (d : Nat) (hd : n - min n (cap - k) = d) (k' : Nat) (hk' : k + min n (cap - k) = k') :
    Calls Try.prog 19 #[.pointer (some ⟨b, 0, none⟩), .slice (some ⟨g, 0, none⟩) n n] w fun e w' => e = .returned (.int .i64 d) ∧ PairAt w' b p cap first (wrap64 (lost + d)) k' ∧ Touch w w' b p := by
  obtain ⟨fit, hfit⟩ : ∃ fit, min n (cap - k) = fit := ⟨_, rfl⟩
  have hf1 : fit ≤ n := by omega
  have hf2 : fit ≤ cap - k := by omega
  have hq := h.fits
  have c0 := h.c0
  have c1 := h.c1
  have hb := h.lt_b
  have k2 := h.cap64
  rw [hfit] at hd hk'
  go_enter Try.func19, Try.ntmps19
  go_upto_region 1 with (fail)
  go_cut [5] (fun s5 wx => s5 = .int .i64 fit ∧ Below w.heap.size w wx)
  case first =>
    have HH := Lib.hid h
    clear h hz
    by_cases hle : n ≤ cap - k
    · obtain rfl : n = fit := by omega
      have hlt : ¬ ((cap : Int) - k < n) := by omega
      clear hfit hf1 hf2
      refine wp_region_later (by kernel_rfl) (by kernel_rfl) ?_
      repeat (go_big_quiet_step (fail))
      refine wpQuiet_nil ?_
      intro w1 hb1
      go_wp2
      go_meet
      case rel => exact ⟨rfl, hb1⟩
    · obtain rfl : cap - k = fit := by omega
      have hlt : (cap : Int) - k < n := by omega
      clear hfit hf1 hf2
      refine wp_region_later (by kernel_rfl) (by kernel_rfl) ?_
      repeat (go_big_quiet_step (fail))
      refine wpQuiet_nil ?_
      intro w1 hb1
      go_wp2
      go_meet
      case rel => exact ⟨by go_num, hb1⟩
  case rest =>
    obtain ⟨rfl, hb1⟩ := hcut
    have h1 := h.below hb1
    have hT1 := Touch.of_below b p hb1
    clear c0 c1 hb1 hfit
    have hfl : (fit : Int) ≤ n := by omega
    go_wp2
    go_loopg [26] fit (fun m i wr => ∃ j : Nat, j + m = fit ∧ i = .int .i64 j ∧ PairAt wr b p cap first lost (k + j) ∧ Touch w wr b p)
    case atStart => exact ⟨0, by omega, rfl, by simpa using h1, hT1⟩
    case round =>
      clear h1 hT1
      obtain ⟨j, hjm, rfl, h2, hT2⟩ := hrel
      obtain ⟨wo, rfl⟩ : ∃ wo : World, wo = wr := ⟨_, rfl⟩
      by_cases hkf : j < fit
      · have hkd : decide ((j : Int) < (fit : Int)) = true := by simpa using hkf
        have z0 := hT2.cell (hz (j * 2) (by omega)) hgb hgp
        have z1 := hT2.cell (hz (j * 2 + 1) (by omega)) hgb hgp
        have hjf : (j : Int) < fit := by omega
        obtain ⟨m, hm⟩ : ∃ m, k + j = m := ⟨_, rfl⟩
        have hm64 : m ≤ 64 := by omega
        have hmc : m < cap := by omega
        rw [hm] at h2
        have HM := Lib.hid hm
        have HF := Lib.hid h2
        clear hm h2
        go_upto_region 5 with (fail)
        obtain ⟨W1, hW1⟩ : ∃ W1, wo.alloc (Obj.cells #[Value.int IntKind.i64 0, Value.int IntKind.i64 0] 43) = W1 := ⟨_, rfl⟩
        have y : W1.cell? ⟨wo.heap.size, 0, none⟩ = some (.int .i64 0) ∧ W1.cell? ⟨wo.heap.size, 1, none⟩ = some (.int .i64 0) ∧ wo.heap.size < W1.heap.size := by rw [← hW1]; simp
        have hbl1 : Below wo.heap.size wo W1 := by rw [← hW1]; exact below_new (Below.refl _ _) _
        rw [hW1]
        obtain ⟨y0, y1, hY⟩ := y
        have h3 := HF.out.below hbl1
        have hT3 := hT2.below hbl1
        clear hbl1 HF hT2 z0 z1 hW1
        generalize wo.heap.size = Y at *
        have k3 := h3.cap1
        go_cut [] (fun wx => PairAt wx b p cap first lost m ∧ Touch W1 wx b p)
        case first =>
          have m1 := Nat.mod_lt (first + m) (show 0 < cap by omega)
          have i0 : (first + m) % cap * 2 < cap * 2 := by omega
          have i1 : (first + m) % cap * 2 + 1 < cap * 2 := by omega
          have e0 := h3.c0
          have hb3 := h3.lt_b
          clear hz hT3
          go_region_with (go_at_call 28; go_must (refine (atP_any b p cap first lost m m W1.drew (h3.kept rfl rfl) hm64).mono ?_; rintro e w2 ⟨rfl, hb2⟩; have h4 := (h3.kept (w' := W1.drew) rfl rfl).below hb2; have z0 := h4.zero ((first + m) % cap * 2) i0; have z1 := h4.zero ((first + m) % cap * 2 + 1) i1; have fp := h4.fp; obtain ⟨r2, g2⟩ := below_reads hb2; have p3' := (r2 Y 0 hY).trans y0; have p4' := (r2 Y 1 hY).trans y1))
          all_goals
            go_wp2
            go_meet
            case rel => exact ⟨(h4.zeroed _ i0).zeroed _ i1, ((((Touch.refl W1 b p).drew.below hb2).set (.inr rfl) _ _).set (.inr rfl) _ _)⟩
        case rest =>
          obtain ⟨h4, hT4⟩ := hcut
          have c0 := h4.c0
          have f0 := h4.fb 0
          have hT5 := hT3.trans hT4
          have HF := Lib.hid (h4.count (m + 1) (by omega))
          clear hT3 hT4 h3 h4 hz y0 y1
          go_wp2
          go_roundg (fit - j - 1)
          case measure => omega
          case rel =>
            refine ⟨j + 1, by omega, by go_num, ?_, hT5.set (.inl rfl) _ _⟩
            have := HM.out
            rw [show k + (j + 1) = m + 1 by omega]
            exact HF.out
      · have hkd : decide ((j : Int) < (fit : Int)) = false := by simpa using hkf
        obtain rfl : j = fit := by omega
        have c2 := h2.c2
        have f2 := h2.fb 2
        have hd1 : (n : Int) - (j : Int) = (d : Int) := by omega
        subst hk'
        go_wp2
        go_ret
        exact ⟨rfl, h2.lose _ (wrap64_bounds _), hT2.set (.inl rfl) _ _⟩
end Go.Proofs.Ytaamachonbkjoaa.ring
