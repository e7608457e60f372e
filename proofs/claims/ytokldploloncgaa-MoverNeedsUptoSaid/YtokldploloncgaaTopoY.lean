/-
  The reference's Check answers as okT says.
-/
import Derived.Test.YtokldploloncgaaTopoX
import Derived.BigQuiet
import Derived.Outline
namespace Go.Proofs.Ytokldploloncgaa.topo
open Go.RowKit

theorem first5 (a b c d e : Bool) : (a = true) ∨ (a = false ∧ b = true) ∨ (a = false ∧ b = false ∧ c = true) ∨ (a = false ∧ b = false ∧ c = false ∧ d = true) ∨ (a = false ∧ b = false ∧ c = false ∧ d = false ∧ e = true) ∨ (a = false ∧ b = false ∧ c = false ∧ d = false ∧ e = false) := by
  cases a <;> cases b <;> cases c <;> cases d <;> cases e <;> simp
theorem first6 (a b c d e f : Bool) : (a = true) ∨ (a = false ∧ b = true) ∨ (a = false ∧ b = false ∧ c = true) ∨ (a = false ∧ b = false ∧ c = false ∧ d = true) ∨ (a = false ∧ b = false ∧ c = false ∧ d = false ∧ e = true) ∨ (a = false ∧ b = false ∧ c = false ∧ d = false ∧ e = false ∧ f = true) ∨ (a = false ∧ b = false ∧ c = false ∧ d = false ∧ e = false ∧ f = false) := by
  cases a <;> cases b <;> cases c <;> cases d <;> cases e <;> cases f <;> simp

set_option maxRecDepth 100000 in
set_option maxHeartbeats 4000000 in
theorem checkR_any (S : List (Int × Int × Int)) (J : List (Int × Int × Int × Int)) (sa ja : Option Addr) (sl sc jl jc : Nat) (w : World)
    (hS : RowsAt 3 enc3 w sa sl sc S) (hJ : RowsAt 4 enc4 w ja jl jc J) (hr : jl ≤ 140737488351232) :
    Calls Try.prog 29 #[.slice sa sl sc, .slice ja jl jc] w fun e w' => e = .returned (.int .i64 (errT (okT S J))) ∧ Below w.heap.size w w' := by
  have hiff := okT_iff S J
  obtain ⟨R, hR⟩ : ∃ R, okT S J = R := ⟨_, rfl⟩
  rw [hR] at hiff ⊢
  have hbad : ¬ RefP S J → errT R = 6 := fun h => by
    cases R with
    | false => rfl
    | true => exact absurd (hiff.1 rfl) h
  have hgood : RefP S J → errT R = 0 := fun h => by rw [hiff.2 h]; rfl
  have HBAD := Lib.hid hbad
  have HGOOD := Lib.hid hgood
  clear hR hiff hbad hgood
  have hSl := hS.len
  have hJl := hJ.len
  have hsm := hS.max
  have hsle := hS.le
  have hjm := hJ.max
  have hjle := hJ.le
  by_cases hs1 : 1 ≤ sl ∧ sl ≤ 16 ∧ jl ≤ 24
  · have d1 : decide ((sl : Int) < 1) = false := by simp; omega
    have d1' : decide (sl = 0) = false := by simp; omega
    have d2 : decide ((16 : Int) < (sl : Int)) = false := by simp; omega
    have d3 : decide ((24 : Int) < (jl : Int)) = false := by simp; omega
    have d2' : decide (16 < sl) = false := by simp; omega
    have d3' : decide (24 < jl) = false := by simp; omega
    go_enter Try.func29, Try.ntmps29
    go_wp2
    go_loopg [25] sl (fun m c wr => ∃ i : Nat, i + m = sl ∧ c = .int .i64 i ∧ Below w.heap.size w wr ∧ Hid (∀ q y, q < i → S[q]? = some y → SecP S J q y))
    case atStart => exact ⟨0, by omega, rfl, Below.refl _ _, Lib.hid fun q y hq => absurd hq (Nat.not_lt_zero _)⟩
    case round =>
      clear d1 d1' d2 d3 d2' d3'
      obtain ⟨i, him, rfl, hbl, HSEC⟩ := hrel
      obtain ⟨W, rfl⟩ : ∃ W : World, W = wr := ⟨_, rfl⟩
      by_cases hi : i < sl
      · have hid : decide ((i : Int) < (sl : Int)) = true := by simpa using hi
        have hil : (i : Int) < sl := by omega
        obtain ⟨g, o, x, rfl, hg, hx, -, hc⟩ := (hS.below hbl).row hi
        obtain ⟨k, oc, l⟩ := x
        have k0 := hc 0 _ rfl
        have k1 := hc 1 _ rfl
        have k2 := hc 2 _ rfl
        rw [Nat.add_zero] at k0
        have hnext : SecP S J i (k, oc, l) → Hid (∀ q y, q < i + 1 → S[q]? = some y → SecP S J q y) := fun h => Lib.hid fun q y hq hy => by
          by_cases hqi : q < i
          · exact HSEC.out q y hqi hy
          · obtain rfl : q = i := by omega
            rw [hx] at hy
            injection hy with hy
            subst hy
            exact h
        have hb6 : ¬ SecP S J i (k, oc, l) → errT R = 6 := fun h => HBAD.out fun hp => h (hp.secs i _ hx)
        have HN := Lib.hid hnext
        have HB6 := Lib.hid hb6
        clear hnext hb6 hc hx
        go_upto_region 6 with (fail)
        obtain ⟨W2, hW2⟩ : ∃ W2, W.alloc (.cells #[.int .i64 k, .int .i64 oc, .int .i64 l] 62) = W2 := ⟨_, rfl⟩
        rw [hW2]
        have hb2 : Below W.heap.size W W2 := hW2 ▸ below_new (Below.refl _ _) _
        have q0 : W2.cell? ⟨W.heap.size, 0, none⟩ = some (.int .i64 k) := by rw [← hW2]; simp
        have q1 : W2.cell? ⟨W.heap.size, 1, none⟩ = some (.int .i64 oc) := by rw [← hW2]; simp
        have q2 : W2.cell? ⟨W.heap.size, 2, none⟩ = some (.int .i64 l) := by rw [← hW2]; simp
        have hz2 : W.heap.size < W2.heap.size := World.block_lt_of_cell? _ _ q0
        have hbl2 := below_step hbl hb2
        clear k0 k1 k2 hW2 hb2
        obtain ⟨E, hE⟩ : ∃ E, endsT k = E := ⟨_, rfl⟩
        have KE := endsR_any k W2
        rw [hE] at KE
        have HKE := Lib.hid KE
        have HE := Lib.hid hE
        clear KE hE
        have hfail : ((E == 0) = true ∨ decide (oc < 0) = true ∨ decide ((4 : Int) ≤ oc) = true ∨ decide (l < 0) = true ∨ decide ((3 : Int) < l) = true) → errT R = 6 := fun h => HB6.out fun hp => by
          obtain ⟨p1, p2, p3, -⟩ := hp
          simp only [HE.out] at p1 p2 p3
          rcases h with h | h | h | h | h
          · exact p1 (by simpa using h)
          · simp at h; omega
          · simp at h; omega
          · simp at h; omega
          · simp at h; omega
        have HFL := Lib.hid hfail
        clear hfail
        rcases first5 (E == 0) (decide (oc < 0)) (decide ((4 : Int) ≤ oc)) (decide (l < 0)) (decide ((3 : Int) < l)) with f1 | ⟨f1, f2⟩ | ⟨f1, f2, f3⟩ | ⟨f1, f2, f3, f4⟩ | ⟨f1, f2, f3, f4, f5⟩ | ⟨f1, f2, f3, f4, f5⟩
        · have HF := Lib.hid (HFL.out (.inl f1))
          go_wp2_with (go_at_call 40; go_must (refine HKE.out.mono ?_; rintro e' w3 ⟨rfl, hb3⟩))
          go_ret
          exact ⟨by rw [HF.out]; rfl, below_step hbl2 hb3⟩
        · have HF := Lib.hid (HFL.out (.inr (.inl f2)))
          go_wp2_with (go_at_call 40; go_must (refine HKE.out.mono ?_; rintro e' w3 ⟨rfl, hb3⟩; have r1 := (hb3.cell (p := ⟨W.heap.size, 1, none⟩) hz2).trans q1; have r2 := (hb3.cell (p := ⟨W.heap.size, 2, none⟩) hz2).trans q2))
          go_ret
          exact ⟨by rw [HF.out]; rfl, below_step hbl2 hb3⟩
        · have HF := Lib.hid (HFL.out (.inr (.inr (.inl f3))))
          go_wp2_with (go_at_call 40; go_must (refine HKE.out.mono ?_; rintro e' w3 ⟨rfl, hb3⟩; have r1 := (hb3.cell (p := ⟨W.heap.size, 1, none⟩) hz2).trans q1; have r2 := (hb3.cell (p := ⟨W.heap.size, 2, none⟩) hz2).trans q2))
          go_ret
          exact ⟨by rw [HF.out]; rfl, below_step hbl2 hb3⟩
        · have HF := Lib.hid (HFL.out (.inr (.inr (.inr (.inl f4)))))
          go_wp2_with (go_at_call 40; go_must (refine HKE.out.mono ?_; rintro e' w3 ⟨rfl, hb3⟩; have r1 := (hb3.cell (p := ⟨W.heap.size, 1, none⟩) hz2).trans q1; have r2 := (hb3.cell (p := ⟨W.heap.size, 2, none⟩) hz2).trans q2))
          go_ret
          exact ⟨by rw [HF.out]; rfl, below_step hbl2 hb3⟩
        · have HF := Lib.hid (HFL.out (.inr (.inr (.inr (.inr f5)))))
          go_wp2_with (go_at_call 40; go_must (refine HKE.out.mono ?_; rintro e' w3 ⟨rfl, hb3⟩; have r1 := (hb3.cell (p := ⟨W.heap.size, 1, none⟩) hz2).trans q1; have r2 := (hb3.cell (p := ⟨W.heap.size, 2, none⟩) hz2).trans q2))
          go_ret
          exact ⟨by rw [HF.out]; rfl, below_step hbl2 hb3⟩
        · clear HFL
          have hfront : endsT k ≠ 0 ∧ (0 ≤ oc ∧ oc ≤ 3) ∧ (0 ≤ l ∧ l ≤ 3) := by
            simp at f1 f2 f3 f4 f5
            refine ⟨by rw [HE.out]; exact f1, ?_, ?_⟩ <;> omega
          have HFR := Lib.hid hfront
          clear hfront
          go_upto_region 8 with (go_at_call 40; go_must (refine HKE.out.mono ?_; rintro e' w3 ⟨rfl, hb3⟩; have r0 := (hb3.cell (p := ⟨W.heap.size, 0, none⟩) hz2).trans q0; have r1 := (hb3.cell (p := ⟨W.heap.size, 1, none⟩) hz2).trans q1; have r2 := (hb3.cell (p := ⟨W.heap.size, 2, none⟩) hz2).trans q2))
          have hbl3 := below_step hbl2 hb3
          obtain ⟨W3, rfl⟩ : ∃ W : World, W = w3 := ⟨_, rfl⟩
          have hz3 : W.heap.size < W3.heap.size := World.block_lt_of_cell? _ _ r0
          clear f1 f2 f3 f4 f5 r1 hb3 q0 q1 q2 hz2 hbl2 HKE HE
          by_cases hl : l = 0
          · have z0 : (l == 0) = true := by simpa using hl
            have HX := HN.out ⟨HFR.out.1, HFR.out.2.1, HFR.out.2.2, .inl hl⟩
            go_wp2
            go_roundg (sl - i - 1)
            case measure => omega
            case rel => exact ⟨i + 1, by omega, by go_num, hbl3, HX⟩
          · have z0 : (l == 0) = false := by simpa using hl
            by_cases hk : k = 0
            · have z1 : (k != 0) = false := by simpa using hk
              obtain ⟨C, hC⟩ : ∃ C, (spots J).count ((i : Int), 1) = C := ⟨_, rfl⟩
              have KC := countR_any ja jl jc J (i : Int) 1 W3 (hJ.below hbl3) hr
              rw [hC] at KC
              have HKC := Lib.hid KC
              have HC := Lib.hid hC
              clear KC hC
              by_cases hc0 : C = 0
              · have z2 : decide ((0 : Int) < (C : Int)) = false := by simp; omega
                have z3 : decide (0 < C) = false := by simp; omega
                go_wp2_with (go_at_call 47; go_must (refine HKC.out.mono ?_; rintro e' w4 ⟨rfl, hb4⟩))
                have u2 := (hb4.cell (p := ⟨W.heap.size, 2, none⟩) hz3).trans r2
                have hbl4 := below_step hbl3 hb4
                obtain ⟨W4, rfl⟩ : ∃ W : World, W = w4 := ⟨_, rfl⟩
                clear r0 r2 z1 z2 z3 HKC
                go_loopg [7] i (fun m c wr => ∃ q : Nat, q + m = i ∧ c = .int .i64 q ∧ Below W4.heap.size W4 wr ∧ Hid (∀ n y, n < q → S[n]? = some y → y.2.2 ≠ l))
                case atStart => exact ⟨0, by omega, rfl, Below.refl _ _, Lib.hid fun n y hn => absurd hn (Nat.not_lt_zero _)⟩
                case round =>
                  obtain ⟨q, hqm, rfl, hb5, HQ⟩ := hrel
                  obtain ⟨W5, rfl⟩ : ∃ W : World, W = wr := ⟨_, rfl⟩
                  have v2 := (hb5.cell (p := ⟨W.heap.size, 2, none⟩) (World.block_lt_of_cell? _ _ u2)).trans u2
                  have hz5 : W.heap.size < W5.heap.size := World.block_lt_of_cell? _ _ v2
                  by_cases hq : q < i
                  · have hqd : decide ((q : Int) < (i : Int)) = true := by simpa using hq
                    have hqd' : decide (q < i) = true := by simpa using hq
                    have hq0 : (0 : Int) ≤ (q : Int) := by omega
                    have hq1 : (q : Int) < (sl : Int) := by omega
                    obtain ⟨g', o', y, hgo, hg', hy, -, hcy⟩ := (hS.below (below_step hbl4 hb5)).row (show q < sl by omega)
                    injection hgo with hgo
                    injection hgo with hgo1 hgo2
                    subst hgo1 hgo2
                    obtain ⟨yk, yo, yl⟩ := y
                    have p2 := hcy 2 _ rfl
                    have hstep : yl ≠ l → Hid (∀ n y, n < q + 1 → S[n]? = some y → y.2.2 ≠ l) := fun hne => Lib.hid fun n y hn hy' => by
                      by_cases hnq : n < q
                      · exact HQ.out n y hnq hy'
                      · obtain rfl : n = q := by omega
                        rw [hy] at hy'
                        injection hy' with hy'
                        subst hy'
                        exact hne
                    have hbd : yl = l → errT R = 6 := fun he => HB6.out fun hp => by
                      rcases hp.2.2.2 with h | h
                      · exact hl h
                      · exact h.2.2 q _ hq hy he
                    have HST := Lib.hid hstep
                    have HBD := Lib.hid hbd
                    clear hstep hbd hy hcy
                    by_cases he : yl = l
                    · have z4 : (yl == l) = true := by simpa using he
                      have HF := Lib.hid (HBD.out he)
                      go_wp2
                      refine wp_region_later (by kernel_rfl) (by kernel_rfl) ?_
                      repeat (go_big_quiet_step (fail))
                      refine wpQuiet_nil ?_
                      intro w6 hb6
                      go_wp2
                      go_ret
                      exact ⟨by rw [HF.out]; rfl, below_step (below_step hbl4 hb5) hb6⟩
                    · have z4 : (yl == l) = false := by simpa using he
                      have HST2 := HST.out he
                      go_wp2
                      refine wp_region_later (by kernel_rfl) (by kernel_rfl) ?_
                      repeat (go_big_quiet_step (fail))
                      refine wpQuiet_nil ?_
                      intro w6 hb6
                      go_wp2
                      go_roundg (i - q - 1)
                      case measure => omega
                      case rel => exact ⟨q + 1, by omega, by go_num, below_step hb5 hb6, HST2⟩
                  · have hqd : decide ((q : Int) < (i : Int)) = false := by simpa using hq
                    have hqd' : decide (q < i) = false := by simpa using hq
                    have hqi : q = i := by omega
                    have HX := HN.out ⟨HFR.out.1, HFR.out.2.1, HFR.out.2.2, .inr ⟨hk, by rw [HC.out]; exact hc0, by rw [← hqi]; exact HQ.out⟩⟩
                    go_wp2
                    go_roundg (sl - i - 1)
                    case measure => omega
                    case rel => exact ⟨i + 1, by omega, by go_num, below_step hbl4 hb5, HX⟩
              · have z2 : decide ((0 : Int) < (C : Int)) = true := by simp; omega
                have z3 : decide (0 < C) = true := by simp; omega
                have HF := Lib.hid (HB6.out fun hp => by
                  rcases hp.2.2.2 with h | h
                  · exact hl h
                  · exact hc0 (HC.out ▸ h.2.1))
                go_wp2_with (go_at_call 47; go_must (refine HKC.out.mono ?_; rintro e' w4 ⟨rfl, hb4⟩))
                go_ret
                exact ⟨by rw [HF.out]; rfl, below_step hbl3 hb4⟩
            · have z1 : (k != 0) = true := by simpa using hk
              have HF := Lib.hid (HB6.out fun hp => by
                rcases hp.2.2.2 with h | h
                · exact hl h
                · exact hk h.1)
              go_wp2
              go_ret
              exact ⟨by rw [HF.out]; rfl, hbl3⟩
      · have hid : decide ((i : Int) < (sl : Int)) = false := by simpa using hi
        have hii : i = sl := by omega
        have HALL : Hid (∀ q y, S[q]? = some y → SecP S J q y) := Lib.hid fun q y hy => HSEC.out q y (by have := (List.getElem?_eq_some_iff.1 hy).1; omega) hy
        clear HSEC
        go_wp2
        clear hi hid him hii
        go_loopg [82] jl (fun m c wr => ∃ j : Nat, j + m = jl ∧ c = .int .i64 j ∧ Below W.heap.size W wr ∧ Hid (∀ q y, q < j → J[q]? = some y → JntP S J y))
        case atStart => exact ⟨0, by omega, rfl, Below.refl _ _, Lib.hid fun q y hq => absurd hq (Nat.not_lt_zero _)⟩
        case round =>
          obtain ⟨j, hjm2, rfl, hb2, HJN⟩ := hrel
          obtain ⟨W2, rfl⟩ : ∃ W : World, W = wr := ⟨_, rfl⟩
          have hbl2 := below_step hbl hb2
          by_cases hj : j < jl
          · have hjd : decide ((j : Int) < (jl : Int)) = true := by simpa using hj
            have hjl : (j : Int) < jl := by omega
            obtain ⟨g, o, x, rfl, hg, hx, -, hc⟩ := (hJ.below hbl2).row hj
            obtain ⟨a, ae, b, be⟩ := x
            have k0 := hc 0 _ rfl
            have k1 := hc 1 _ rfl
            have k2 := hc 2 _ rfl
            have k3 := hc 3 _ rfl
            rw [Nat.add_zero] at k0
            have hnext : JntP S J (a, ae, b, be) → Hid (∀ q y, q < j + 1 → J[q]? = some y → JntP S J y) := fun h => Lib.hid fun q y hq hy => by
              by_cases hqi : q < j
              · exact HJN.out q y hqi hy
              · obtain rfl : q = j := by omega
                rw [hx] at hy
                injection hy with hy
                subst hy
                exact h
            have hb6 : ¬ JntP S J (a, ae, b, be) → errT R = 6 := fun h => HBAD.out fun hp => h (hp.jnts _ (List.mem_of_getElem? hx))
            have HN := Lib.hid hnext
            have HB6 := Lib.hid hb6
            clear hnext hb6 hc hx
            go_upto_region 20 with (fail)
            obtain ⟨W3, hW3⟩ : ∃ W3, W2.alloc (.cells #[.int .i64 a, .int .i64 ae, .int .i64 b, .int .i64 be] 64) = W3 := ⟨_, rfl⟩
            rw [hW3]
            have hb3 : Below W2.heap.size W2 W3 := hW3 ▸ below_new (Below.refl _ _) _
            have q0 : W3.cell? ⟨W2.heap.size, 0, none⟩ = some (.int .i64 a) := by rw [← hW3]; simp
            have q1 : W3.cell? ⟨W2.heap.size, 1, none⟩ = some (.int .i64 ae) := by rw [← hW3]; simp
            have q2 : W3.cell? ⟨W2.heap.size, 2, none⟩ = some (.int .i64 b) := by rw [← hW3]; simp
            have q3 : W3.cell? ⟨W2.heap.size, 3, none⟩ = some (.int .i64 be) := by rw [← hW3]; simp
            have hz3 : W2.heap.size < W3.heap.size := World.block_lt_of_cell? _ _ q0
            have hbl3 := below_step hbl2 hb3
            clear k0 k1 k2 k3 hW3
            have hfail : (decide (a < 0) = true ∨ decide ((sl : Int) ≤ a) = true ∨ decide (b < 0) = true ∨ decide ((sl : Int) ≤ b) = true ∨ (a == b) = true) → errT R = 6 := fun h => HB6.out fun hp => by
              obtain ⟨p1, p2, p3, -⟩ := hp
              simp only [hSl] at p1 p2 p3
              rcases h with h | h | h | h | h
              · simp at h; omega
              · simp at h; omega
              · simp at h; omega
              · simp at h; omega
              · exact p3 (by simpa using h)
            have HFL := Lib.hid hfail
            clear hfail
            rcases first5 (decide (a < 0)) (decide ((sl : Int) ≤ a)) (decide (b < 0)) (decide ((sl : Int) ≤ b)) (a == b) with f1 | ⟨f1, f2⟩ | ⟨f1, f2, f3⟩ | ⟨f1, f2, f3, f4⟩ | ⟨f1, f2, f3, f4, f5⟩ | ⟨f1, f2, f3, f4, f5⟩
            · have HF := Lib.hid (HFL.out (.inl f1))
              go_wp2
              go_ret
              exact ⟨by rw [HF.out]; rfl, hbl3⟩
            · have HF := Lib.hid (HFL.out (.inr (.inl f2)))
              go_wp2
              go_ret
              exact ⟨by rw [HF.out]; rfl, hbl3⟩
            · have HF := Lib.hid (HFL.out (.inr (.inr (.inl f3))))
              go_wp2
              go_ret
              exact ⟨by rw [HF.out]; rfl, hbl3⟩
            · have HF := Lib.hid (HFL.out (.inr (.inr (.inr (.inl f4)))))
              go_wp2
              go_ret
              exact ⟨by rw [HF.out]; rfl, hbl3⟩
            · have HF := Lib.hid (HFL.out (.inr (.inr (.inr (.inr f5)))))
              go_wp2
              go_ret
              exact ⟨by rw [HF.out]; rfl, hbl3⟩
            · clear HFL
              go_upto_region 22 with (fail)
              have hab : a ≠ b := by simpa using f5
              have ha : 0 ≤ a ∧ a < sl := by simp at f1 f2; omega
              have hb : 0 ≤ b ∧ b < sl := by simp at f3 f4; omega
              clear f1 f2 f3 f4 f5
              obtain ⟨na, rfl⟩ := Int.eq_ofNat_of_zero_le ha.1
              obtain ⟨nb, rfl⟩ := Int.eq_ofNat_of_zero_le hb.1
              obtain ⟨ga, oa, xa, rfl, hga, hxa, -, hca⟩ := (hS.below hbl3).row (show na < sl by omega)
              obtain ⟨gb, ob, xb, hgo, hgb, hxb, -, hcb⟩ := (hS.below hbl3).row (show nb < sl by omega)
              injection hgo with hgo
              injection hgo with hgo1 hgo2
              subst hgo1 hgo2
              obtain ⟨ka, xa2⟩ := xa
              obtain ⟨kb, xb2⟩ := xb
              have hka := kindAt_of hxa
              have hkb := kindAt_of hxb
              have pa := hca 0 _ rfl
              have pb := hcb 0 _ rfl
              simp only [Nat.add_zero] at pa pb hka hkb
              obtain ⟨en, hen⟩ : ∃ en : Int → Int, ∀ k, endsT k = en k := ⟨_, fun _ => rfl⟩
              obtain ⟨cnt, hcnt⟩ : ∃ cnt : Int → Int → Nat, ∀ s e, (spots J).count (s, e) = cnt s e := ⟨fun s e => (spots J).count (s, e), fun _ _ => rfl⟩
              have KE : ∀ (k : Int) (x : Later W3), Calls Try.prog 40 #[.int .i64 k] x.now fun e w' => e = .returned (.int .i64 (en k)) ∧ Below x.now.heap.size x.now w' := fun k x => by rw [← hen]; exact endsR_any k x.now
              have KC : ∀ (s e : Int) (x : Later W3), Calls Try.prog 47 #[.slice (some ⟨g, o, none⟩) jl jc, .int .i64 s, .int .i64 e] x.now fun e' w' => e' = .returned (.int .i64 (cnt s e : Nat)) ∧ Below x.now.heap.size x.now w' := fun s e x => by rw [← hcnt]; exact countR_any (some ⟨g, o, none⟩) jl jc J s e x.now ((hJ.below hbl3).below x.is) hr
              have HKE := Lib.hid KE
              have HKC := Lib.hid KC
              have hEa := hen ka
              have hEb := hen kb
              have hCa := hcnt (na : Int) ae
              have hCb := hcnt (nb : Int) be
              have i1 : (0 : Int) ≤ (na : Int) := by omega
              have i2 : (na : Int) < (sl : Int) := by omega
              have i3 : (0 : Int) ≤ (nb : Int) := by omega
              have i4 : (nb : Int) < (sl : Int) := by omega
              have hfail : (decide (ae < 0) = true ∨ decide (en ka ≤ ae) = true ∨ decide (be < 0) = true ∨ decide (en kb ≤ be) = true ∨ decide ((1 : Int) < (cnt (na : Int) ae : Int)) = true ∨ decide ((1 : Int) < (cnt (nb : Int) be : Int)) = true) → errT R = 6 := fun h => HB6.out fun hp => by
                obtain ⟨-, -, -, p4, p5, p6, p7⟩ := hp
                simp only [hka, hkb, hEa, hEb, hCa, hCb] at p4 p5 p6 p7
                rcases h with h | h | h | h | h | h
                · simp at h; omega
                · simp at h; omega
                · simp at h; omega
                · simp at h; omega
                · simp at h; omega
                · simp at h; omega
              have hok : decide (ae < 0) = false → decide (en ka ≤ ae) = false → decide (be < 0) = false → decide (en kb ≤ be) = false → decide ((1 : Int) < (cnt (na : Int) ae : Int)) = false → decide ((1 : Int) < (cnt (nb : Int) be : Int)) = false → Hid (∀ q y, q < j + 1 → J[q]? = some y → JntP S J y) := fun h1 h2 h3 h4 h5 h6 => HN.out (by
                simp at h1 h2 h3 h4 h5 h6
                simp only [JntP, hSl, hka, hkb, hEa, hEb, hCa, hCb]
                refine ⟨ha, hb, hab, by omega, by omega, by omega, by omega⟩)
              have HFL := Lib.hid hfail
              have HOK := Lib.hid hok
              have hz3g : ga < W3.heap.size := hga
              clear hfail hok hca hcb hxa hxb hka hkb hEa hEb hCa hCb KE KC hen hcnt
              rcases first6 (decide (ae < 0)) (decide (en ka ≤ ae)) (decide (be < 0)) (decide (en kb ≤ be)) (decide ((1 : Int) < (cnt (na : Int) ae : Int))) (decide ((1 : Int) < (cnt (nb : Int) be : Int))) with f1 | ⟨f1, f2⟩ | ⟨f1, f2, f3⟩ | ⟨f1, f2, f3, f4⟩ | ⟨f1, f2, f3, f4, f5⟩ | ⟨f1, f2, f3, f4, f5, f6⟩ | ⟨f1, f2, f3, f4, f5, f6⟩
              · have HF := Lib.hid (HFL.out (.inl f1))
                refine wp_region_later (by kernel_rfl) (by kernel_rfl) ?_
                repeat (go_big_quiet_step (fail))
                refine wpQuiet_nil ?_
                intro w6 hb6
                go_wp2
                go_ret
                exact ⟨by rw [HF.out]; rfl, below_step hbl3 hb6⟩
              · have HF := Lib.hid (HFL.out (.inr (.inl f2)))
                refine wp_region_later (by kernel_rfl) (by kernel_rfl) ?_
                repeat (go_big_quiet_step (first
                  | (go_at_call 40; exact later_of (HKE.out _ _))
                  | (go_at_call 47; exact later_of (HKC.out _ _ _))))
                refine wpQuiet_nil ?_
                intro w6 hb6
                go_wp2
                go_ret
                exact ⟨by rw [HF.out]; rfl, below_step hbl3 hb6⟩
              · have HF := Lib.hid (HFL.out (.inr (.inr (.inl f3))))
                refine wp_region_later (by kernel_rfl) (by kernel_rfl) ?_
                repeat (go_big_quiet_step (first
                  | (go_at_call 40; exact later_of (HKE.out _ _))
                  | (go_at_call 47; exact later_of (HKC.out _ _ _))))
                refine wpQuiet_nil ?_
                intro w6 hb6
                go_wp2
                go_ret
                exact ⟨by rw [HF.out]; rfl, below_step hbl3 hb6⟩
              · have HF := Lib.hid (HFL.out (.inr (.inr (.inr (.inl f4)))))
                refine wp_region_later (by kernel_rfl) (by kernel_rfl) ?_
                repeat (go_big_quiet_step (first
                  | (go_at_call 40; exact later_of (HKE.out _ _))
                  | (go_at_call 47; exact later_of (HKC.out _ _ _))))
                refine wpQuiet_nil ?_
                intro w6 hb6
                go_wp2
                go_ret
                exact ⟨by rw [HF.out]; rfl, below_step hbl3 hb6⟩
              · have HF := Lib.hid (HFL.out (.inr (.inr (.inr (.inr (.inl f5))))))
                have f5n : decide (1 < cnt (na : Int) ae) = true := by simp at f5 ⊢; omega
                refine wp_region_later (by kernel_rfl) (by kernel_rfl) ?_
                repeat (go_big_quiet_step (first
                  | (go_at_call 40; exact later_of (HKE.out _ _))
                  | (go_at_call 47; exact later_of (HKC.out _ _ _))))
                refine wpQuiet_nil ?_
                intro w6 hb6
                go_wp2
                go_ret
                exact ⟨by rw [HF.out]; rfl, below_step hbl3 hb6⟩
              · have HF := Lib.hid (HFL.out (.inr (.inr (.inr (.inr (.inr f6))))))
                have f5n : decide (1 < cnt (na : Int) ae) = false := by simp at f5 ⊢; omega
                have f6n : decide (1 < cnt (nb : Int) be) = true := by simp at f6 ⊢; omega
                refine wp_region_later (by kernel_rfl) (by kernel_rfl) ?_
                repeat (go_big_quiet_step (first
                  | (go_at_call 40; exact later_of (HKE.out _ _))
                  | (go_at_call 47; exact later_of (HKC.out _ _ _))))
                refine wpQuiet_nil ?_
                intro w6 hb6
                go_wp2
                go_ret
                exact ⟨by rw [HF.out]; rfl, below_step hbl3 hb6⟩
              · have HX := HOK.out f1 f2 f3 f4 f5 f6
                have f5n : decide (1 < cnt (na : Int) ae) = false := by simp at f5 ⊢; omega
                have f6n : decide (1 < cnt (nb : Int) be) = false := by simp at f6 ⊢; omega
                refine wp_region_later (by kernel_rfl) (by kernel_rfl) ?_
                repeat (go_big_quiet_step (first
                  | (go_at_call 40; exact later_of (HKE.out _ _))
                  | (go_at_call 47; exact later_of (HKC.out _ _ _))))
                refine wpQuiet_nil ?_
                intro w6 hb6
                go_wp2
                go_roundg (jl - j - 1)
                case measure => omega
                case rel => exact ⟨j + 1, by omega, by go_num, below_step (below_step hb2 hb3) hb6, HX⟩
          · have hjd : decide ((j : Int) < (jl : Int)) = false := by simpa using hj
            have HF : Hid (errT R = 0) := Lib.hid (HGOOD.out ⟨by rw [hSl]; exact ⟨hs1.1, hs1.2.1⟩, by rw [hJl]; exact hs1.2.2, HALL.out, fun x hx => by
              obtain ⟨q, hq⟩ := List.getElem?_of_mem hx
              exact HJN.out q x (by have := (List.getElem?_eq_some_iff.1 hq).1; omega) hq⟩)
            go_wp2
            go_ret
            exact ⟨by rw [HF.out]; rfl, hbl2⟩
  · have HF := Lib.hid (HBAD.out fun hp => hs1 (by have h1 := hp.size; have h2 := hp.joints; omega))
    by_cases h1 : sl < 1
    · have d1 : decide ((sl : Int) < 1) = true := by simp; omega
      have d1' : decide (sl = 0) = true := by simp; omega
      go_enter Try.func29, Try.ntmps29
      go_wp2
      go_ret
      exact ⟨by rw [HF.out]; rfl, Below.refl _ _⟩
    · have d1 : decide ((sl : Int) < 1) = false := by simp; omega
      have d1' : decide (sl = 0) = false := by simp; omega
      by_cases h2 : 16 < sl
      · have d2 : decide ((16 : Int) < (sl : Int)) = true := by simp; omega
        have d2' : decide (16 < sl) = true := by simp; omega
        go_enter Try.func29, Try.ntmps29
        go_wp2
        go_ret
        exact ⟨by rw [HF.out]; rfl, Below.refl _ _⟩
      · have d2 : decide ((16 : Int) < (sl : Int)) = false := by simp; omega
        have d2' : decide (16 < sl) = false := by simp; omega
        have d3 : decide ((24 : Int) < (jl : Int)) = true := by simp; omega
        have d3' : decide (24 < jl) = true := by simp; omega
        go_enter Try.func29, Try.ntmps29
        go_wp2
        go_ret
        exact ⟨by rw [HF.out]; rfl, Below.refl _ _⟩
end Go.Proofs.Ytokldploloncgaa.topo
