/-
  Check of the program: the walk.
-/
import Derived.Test.YtokldploloncgaaTopoJ
import Derived.Deep.CutBlock
import Derived.BigQuiet
import Derived.RegionTactic
import Derived.Outline
namespace Go.Proofs.Ytokldploloncgaa.topo
open Go.RowKit

theorem runI_cons {S : List (Int × Int × Int)} {T : List (Int × Int)} {x : Int × Int} {r : List (Int × Int)} (h1 : spotOk S x = true) (h2 : T.contains x = false) : runI S T (x :: r) = runI S (T ++ [x]) r := by rw [runI, h1, h2]; rfl
theorem runI_bad {S : List (Int × Int × Int)} {T : List (Int × Int)} {x : Int × Int} {r : List (Int × Int)} (h1 : spotOk S x = false) : runI S T (x :: r) = false := by rw [runI, h1]; rfl
theorem runI_taken {S : List (Int × Int × Int)} {T : List (Int × Int)} {x : Int × Int} {r : List (Int × Int)} (h1 : T.contains x = true) : runI S T (x :: r) = false := by rw [runI, h1]; simp
theorem snoc_take {α : Type} {L : List α} {t : Nat} {x : α} (h : L[t]? = some x) (T : List α) : T ++ L.take (t + 1) = T ++ L.take t ++ [x] := by
  rw [List.take_add_one, h]
  simp

theorem int_bounds {l : Int} (h : -9223372036854775808 ≤ l ∧ l ≤ 9223372036854775807) : -9223372036854775808 ≤ l ∧ l ≤ 9223372036854775807 := h

set_option maxRecDepth 100000 in
set_option maxHeartbeats 4000000 in
theorem check_any (S : List (Int × Int × Int)) (J : List (Int × Int × Int × Int)) (sa ja : Option Addr) (sl sc jl jc : Nat) (w : World)
    (hS : RowsAt 3 enc3 w sa sl sc S) (hJ : RowsAt 4 enc4 w ja jl jc J) (hs64 : ∀ x ∈ S, -9223372036854775808 ≤ x.2.2 ∧ x.2.2 ≤ 9223372036854775807) (h64 : ∀ x ∈ J, ((-9223372036854775808 ≤ x.1 ∧ x.1 ≤ 9223372036854775807) ∧ (-9223372036854775808 ≤ x.2.1 ∧ x.2.1 ≤ 9223372036854775807)) ∧ (-9223372036854775808 ≤ x.2.2.1 ∧ x.2.2.1 ≤ 9223372036854775807) ∧ (-9223372036854775808 ≤ x.2.2.2 ∧ x.2.2.2 ≤ 9223372036854775807)) :
    Calls Try.prog 28 #[.slice sa sl sc, .slice ja jl jc] w fun e w' => e = .returned (.int .i64 (errT (okT S J))) ∧ Below w.heap.size w w' := by
  obtain ⟨R, hR⟩ : ∃ R, okT S J = R := ⟨_, rfl⟩
  have HR := Lib.hid hR
  clear hR
  have hSl := hS.len
  have hJl := hJ.len
  have hsm := hS.max
  have hsle := hS.le
  by_cases hs1 : 1 ≤ sl ∧ sl ≤ 16
  · have hb1 : btw (sl : Int) 1 16 = true := btw_true (by omega)
    by_cases hj1 : jl ≤ 24
    · have d1 : decide ((24 : Int) < (jl : Int)) = false := by simp; omega
      obtain ⟨B, hB⟩ : ∃ B, w.heap.size = B := ⟨_, rfl⟩
      have hT0 : Taken B [] (w.alloc (.map #[] 0)) := by subst hB; exact taken_made w
      have HB := Lib.hid hB
      clear hB
      have hRr : (runJ S [] J && runS (spots J) 0 [] S) = R := by
        rw [← HR.out, okT, hSl, hJl]
        simp [hs1, hj1]
      have HRR := Lib.hid hRr
      clear hRr
      have hmm := @run_makeMap Try.prog
      go_enter Try.func28, Try.ntmps28
      go_wp2_with (go_at_call 46; (refine (between_any _ _ _ _).mono ?_; rintro e w1 ⟨rfl, rfl⟩; rw [hb1]))
      rw [HB.out]
      have hO0 : Only B w (w.alloc (.map #[] 0)) := Only.of_below B (below_new (Below.refl _ _) _)
      clear hmm
      go_loopg [25] jl (fun m c wr => ∃ (j : Nat) (T : List (Int × Int)), j + m = jl ∧ c = .int .i64 j ∧ Taken B T wr ∧ T.length = 2 * j ∧ Only B w wr ∧ T = spots (J.take j) ∧ (runJ S T (J.drop j) && runS (spots J) 0 [] S) = R)
      case atStart => exact ⟨0, [], by omega, rfl, hT0, rfl, hO0, rfl, HRR.out⟩
      case round =>
        clear hT0 hO0
        obtain ⟨j, T, hjm, rfl, hT, hTl, hO, hTJ, hRj⟩ := hrel
        obtain ⟨W, rfl⟩ : ∃ W : World, W = wr := ⟨_, rfl⟩
        have hwB := HB.out
        have hbl : Below w.heap.size w W := by rw [hwB]; exact hO.below (Nat.le_refl _) (by omega)
        have HRJ := Lib.hid hRj
        have HTJ := Lib.hid hTJ
        clear hRj hTJ
        by_cases hj : j < jl
        · have hjd : decide ((j : Int) < (jl : Int)) = true := by simpa using hj
          have hjl : (j : Int) < jl := by omega
          obtain ⟨g, o, x, rfl, hg, hx, hd, hc⟩ := (hJ.below hbl).row hj
          obtain ⟨a, ae, b, be⟩ := x
          have hx64 := h64 _ (List.mem_of_getElem? hx)
          have HX := Lib.hid hx
          have HD := Lib.hid hd
          have k0 := hc 0 _ rfl
          have k1 := hc 1 _ rfl
          have k2 := hc 2 _ rfl
          have k3 := hc 3 _ rfl
          rw [Nat.add_zero] at k0
          simp only at hx64
          obtain ⟨⟨xa, xae⟩, xb, xbe⟩ := hx64
          clear hc hd hx
          go_wp2
          obtain ⟨W3, hW3⟩ : ∃ W3, (W.alloc (.cells #[.int .i64 a, .int .i64 ae, .int .i64 b, .int .i64 be] 64)).alloc (.cells #[.int .i64 a, .int .i64 ae, .int .i64 b, .int .i64 be] 95) = W3 := ⟨_, rfl⟩
          rw [hW3]
          have hWB : B < W.heap.size := CountMap.lt hT
          have hb3 : Below W.heap.size W W3 := by rw [← hW3]; exact below_new (below_new (Below.refl _ _) _) _
          have e0 : W3.cell? ⟨W.heap.size, 0, none⟩ = some (.int .i64 a) := by rw [← hW3]; simp
          have e2 : W3.cell? ⟨W.heap.size, 2, none⟩ = some (.int .i64 b) := by rw [← hW3]; simp
          have hz3 : W3.heap.size = W.heap.size + 2 := by rw [← hW3]; simp
          have hsp : RowsAt 2 enc2 W3 (some ⟨W.heap.size + 1, 0, none⟩) 2 2 [(a, ae), (b, be)] := by
            refine ⟨rfl, by omega, by omega, fun e => (by cases e), .inr ⟨W.heap.size + 1, 0, rfl, by omega, fun i x hx q u hu => ?_⟩⟩
            rw [← hW3, cell_of_row _ _ _ _ _ _ (by have := heap_alloc_new (W.alloc (.cells #[.int .i64 a, .int .i64 ae, .int .i64 b, .int .i64 be] 64)) (.cells #[.int .i64 a, .int .i64 ae, .int .i64 b, .int .i64 be] 95); simpa using this)]
            match i, hx with
            | 0, hx =>
              simp only [List.getElem?_cons_zero, Option.some.injEq] at hx
              subst hx
              match q, hu with
              | 0, hu => simpa [enc2] using hu
              | 1, hu => simpa [enc2] using hu
            | 1, hx =>
              simp only [List.getElem?_cons_succ, List.getElem?_cons_zero, Option.some.injEq] at hx
              subst hx
              match q, hu with
              | 0, hu => simpa [enc2] using hu
              | 1, hu => simpa [enc2] using hu
          have hT3 : Taken B T W3 := CountMap.below hT hb3
          have hS3 : RowsAt 3 enc3 W3 sa sl sc S := hS.below (by rw [hwB]; exact (hO.later hb3).below (Nat.le_refl _) (by omega))
          have hO3 := hO.later hb3
          obtain ⟨Q, hQ⟩ : ∃ Q, runI S T [(a, ae), (b, be)] = Q := ⟨_, rfl⟩
          have h64s : ∀ x ∈ [(a, ae), (b, be)], (Lit.int .i64 x.1).wf = true ∧ (Lit.int .i64 x.2).wf = true := by
            intro x hx
            simp only [List.mem_cons, List.not_mem_nil, or_false] at hx
            rcases hx with rfl | rfl
            · exact ⟨int_wf xa, int_wf xae⟩
            · exact ⟨int_wf xb, int_wf xbe⟩
          have HQ := Lib.hid hQ
          have H64 := Lib.hid h64s
          clear hQ h64s hW3 k0 k1 k2 k3 hT xa xae xb xbe hO hb3
          obtain ⟨sps, hsps⟩ : ∃ sps, [(a, ae), (b, be)] = sps := ⟨_, rfl⟩
          have H64' : Hid (∀ x ∈ sps, (Lit.int .i64 x.1).wf = true ∧ (Lit.int .i64 x.2).wf = true) := Lib.hid (hsps ▸ H64.out)
          have HQ' : Hid (runI S T sps = Q) := Lib.hid (hsps ▸ HQ.out)
          rw [hsps] at hsp
          have hspl : sps.length = 2 := hsp.len
          have HSP := Lib.hid hsps
          clear hsps H64 HQ
          go_loopg [41] 2 (fun m c wr => ∃ t : Nat, t + m = 2 ∧ c = .int .i64 t ∧ Taken B (T ++ sps.take t) wr ∧ Only B W3 wr ∧ runI S (T ++ sps.take t) (sps.drop t) = Q)
          case atStart => exact ⟨0, rfl, rfl, by simpa using hT3, Only.refl _ _, by simpa using HQ'.out⟩
          case round =>
            clear hT3
            obtain ⟨t, htm, rfl, hT, hO, hQ⟩ := hrel
            obtain ⟨W5, rfl⟩ : ∃ W5 : World, W5 = wr := ⟨_, rfl⟩
            have HQ2 := Lib.hid hQ
            clear hQ
            by_cases ht2 : t < 2
            · have htd : decide ((t : Int) < 2) = true := by simp; omega
              have htl : (t : Int) < 2 := by omega
              obtain ⟨g2, o2, y, hgo, hg2, hy, hdr, hcy⟩ := hsp.row ht2
              injection hgo with hgo
              injection hgo with hgo1 hgo2
              subst hgo1 hgo2
              obtain ⟨s, e⟩ := y
              have ks : W5.cell? ⟨W.heap.size + 1, t * 2, none⟩ = some (.int .i64 s) := by
                have := hO.cell (hcy 0 _ rfl) (by omega)
                simpa using this
              have ke : W5.cell? ⟨W.heap.size + 1, t * 2 + 1, none⟩ = some (.int .i64 e) := by
                have := hO.cell (hcy 1 _ rfl) (by omega)
                simpa using this
              have h64y := H64'.out _ (List.mem_of_getElem? hy)
              have HY := Lib.hid hy
              have HDR := Lib.hid hdr
              have HWF := Lib.hid h64y
              have hz5 := hO.size
              have hbw : Below w.heap.size w W5 := by rw [hwB]; exact (hO3.trans hO).below (Nat.le_refl _) (by omega)
              clear hcy hy hdr h64y
              have hEk := endsT_in (kindAt S s)
              by_cases hsr : 0 ≤ s ∧ s < S.length
              · obtain ⟨n, rfl⟩ := Int.eq_ofNat_of_zero_le hsr.1
                have hnl : n < sl := by omega
                obtain ⟨gs, os, z, rfl, hgs, hz, -, hcz⟩ := (hS.below hbw).row hnl
                have hkd := kindAt_of hz
                obtain ⟨kd, hkd'⟩ : ∃ kd, kindAt S (n : Int) = kd := ⟨_, rfl⟩
                have kk := hcz 0 _ rfl
                rw [Nat.add_zero, ← hkd, hkd'] at kk
                rw [hkd'] at hEk
                have hb1' : btw (n : Int) 0 ((sl : Int) - 1) = true := btw_true (by omega)
                have i1 : (0 : Int) ≤ (n : Int) := by omega
                have i2 : (n : Int) < (sl : Int) := by omega
                have HKD := Lib.hid hkd'
                clear hcz hkd hz hkd'
                by_cases her : 0 ≤ e ∧ e < endsT kd
                · have hb2 : btw e 0 (endsT kd - 1) = true := btw_true (by omega)
                  have hok : spotOk S ((n : Int), e) = true := by simp only [spotOk, HKD.out]; simp; omega
                  cases hct : (T ++ sps.take t).contains ((n : Int), e) with
                  | true =>
                    have hF : R = false := by
                      have h1 := HRJ.out
                      rw [HD.out, runJ, HSP.out, HQ'.out] at h1
                      rw [← h1, ← HQ2.out, HDR.out, runI_taken hct]
                      simp
                    have HF := Lib.hid hF
                    have hlk : ∀ x : Later (W5.alloc (.cells #[.int .i64 (n : Int), .int .i64 e] 95)), (Instr.lookup 93 (.map (some B)) (.agg #[.int .i64 (n : Int), .int .i64 e]) false).run Try.prog x.now = .ok (.int .i64 1) x.now := fun x => Taken.look1 (CountMap.below (CountMap.below hT (below_new (Below.refl _ _) _)) x.is) HWF.out.1 HWF.out.2 hct
                    clear hF hwB hspl hct hok hsr her hT hO hO3 hsp hS3
                    go_wp2
                    refine wp_region_later (by kernel_rfl) (by kernel_rfl) ?_
                    repeat (go_big_quiet_step (first
                      | (go_at_call 46; exact later_same (between_any _ _ _ _))
                      | (go_at_call 35; exact later_of (ends_any kd _))))
                    refine wpQuiet_nil ?_
                    intro w9 hb9
                    go_wp2
                    go_ret
                    exact ⟨by rw [HR.out, HF.out]; rfl, below_step (below_new hbw _) hb9⟩
                  | false =>
                    have hlk : ∀ x : Later (W5.alloc (.cells #[.int .i64 (n : Int), .int .i64 e] 95)), (Instr.lookup 93 (.map (some B)) (.agg #[.int .i64 (n : Int), .int .i64 e]) false).run Try.prog x.now = .ok (.int .i64 0) x.now := fun x => Taken.look0 (CountMap.below (CountMap.below hT (below_new (Below.refl _ _) _)) x.is) HWF.out.1 HWF.out.2 hct
                    have HWB := Lib.hid hwB
                    have HSPL := Lib.hid hspl
                    have HCT := Lib.hid hct
                    have HOK := Lib.hid hok
                    clear hwB hspl hct hok hsr her
                    go_wp2
                    refine wp_region_later (by kernel_rfl) (by kernel_rfl) ?_
                    repeat (go_big_quiet_step (first
                      | (go_at_call 46; exact later_same (between_any _ _ _ _))
                      | (go_at_call 35; exact later_of (ends_any kd _))))
                    refine wpQuiet_nil ?_
                    intro w9 hb9
                    have hT9 : Taken B (T ++ sps.take t) w9.drew := CountMap.below (CountMap.below (CountMap.below hT (below_new (Below.refl _ _) _)) hb9) ((Below.refl _ _).drew)
                    have hTlen : (T ++ sps.take t).length < maxLen := by unfold maxLen; rw [List.length_append, List.length_take, HSPL.out]; omega
                    obtain ⟨v0, st, u1, u2, r1, r2, r3, hT', hO'⟩ := Taken.take hT9 HWF.out.1 HWF.out.2 HCT.out hTlen
                    have r3a : (Instr.entryStore 93 (.map (some B)) (.int .i64 (st : Int)) (.int .i64 (IntKind.i64.wrap 1))).run Try.prog u1 = .ok () u2 := by rw [show IntKind.i64.wrap 1 = 1 from by decide]; exact r3
                    have r3b : (Instr.entryStore 93 (.map (some B)) (.int .i64 (st : Int)) (.int .i64 1)).run Try.prog u1 = .ok () u2 := r3
                    clear r3
                    have r0 := Taken.look0 hT9 HWF.out.1 HWF.out.2 HCT.out
                    have y0 : w9.cell? ⟨W5.heap.size, 0, none⟩ = some (.int .i64 (n : Int)) := (hb9.cell (p := ⟨W5.heap.size, 0, none⟩) (by simp)).trans (by simp)
                    have y1 : w9.cell? ⟨W5.heap.size, 1, none⟩ = some (.int .i64 e) := (hb9.cell (p := ⟨W5.heap.size, 1, none⟩) (by simp)).trans (by simp)
                    clear hlk hT hT9
                    go_wp2
                    go_region
                    all_goals
                      go_wp2
                      go_roundg (2 - t - 1)
                      case measure => omega
                      case rel =>
                        refine ⟨t + 1, by omega, by go_num, by rw [snoc_take HY.out]; exact hT', (((hO.later (below_new (Below.refl _ _) _)).later hb9).later ((Below.refl _ _).drew)).trans hO', ?_⟩
                        rw [snoc_take HY.out, ← runI_cons HOK.out HCT.out, ← HDR.out]
                        exact HQ2.out
                · have hb2 : btw e 0 (endsT kd - 1) = false := btw_false (by omega)
                  have hok : spotOk S ((n : Int), e) = false := by simp only [spotOk, HKD.out]; simp; omega
                  have hF : R = false := by
                    have h1 := HRJ.out
                    rw [HD.out, runJ, HSP.out, HQ'.out] at h1
                    rw [← h1, ← HQ2.out, HDR.out, runI_bad hok]
                    simp
                  have HF := Lib.hid hF
                  clear hF hwB hspl hok hsr her hT hO hO3 hsp hS3
                  go_wp2
                  refine wp_region_later (by kernel_rfl) (by kernel_rfl) ?_
                  repeat (go_big_quiet_step (first
                    | (go_at_call 46; exact later_same (between_any _ _ _ _))
                    | (go_at_call 35; exact later_of (ends_any kd _))))
                  refine wpQuiet_nil ?_
                  intro w9 hb9
                  go_wp2
                  go_ret
                  exact ⟨by rw [HR.out, HF.out]; rfl, below_step (below_new hbw _) hb9⟩
              · have hb1' : btw s 0 ((sl : Int) - 1) = false := btw_false (by omega)
                have hok : spotOk S (s, e) = false := by simp only [spotOk]; simp; omega
                have hF : R = false := by
                  have h1 := HRJ.out
                  rw [HD.out, runJ, HSP.out, HQ'.out] at h1
                  rw [← h1, ← HQ2.out, HDR.out, runI_bad hok]
                  simp
                have HF := Lib.hid hF
                clear hF hwB hspl hok hsr hEk hT hO hO3 hsp hS3
                go_wp2
                refine wp_region_later (by kernel_rfl) (by kernel_rfl) ?_
                repeat (go_big_quiet_step ((go_at_call 46; exact later_same (between_any _ _ _ _))))
                refine wpQuiet_nil ?_
                intro w9 hb9
                go_wp2
                go_ret
                exact ⟨by rw [HR.out, HF.out]; rfl, below_step (below_new hbw _) hb9⟩
            · have htd : decide ((t : Int) < 2) = false := by simp; omega
              have hQT : Q = true := by
                rw [← HQ2.out, List.drop_of_length_le (by omega)]
                rfl
              have e0' := hO.cell e0 (by omega)
              have e2' := hO.cell e2 (by omega)
              have hbw : Below w.heap.size w W5 := by rw [hwB]; exact (hO3.trans hO).below (Nat.le_refl _) (by omega)
              have hT5 : Taken B (T ++ sps) W5 := by
                have e1 : sps.take t = sps := List.take_of_length_le (by omega)
                rw [e1] at hT
                exact hT
              have HJ2 : Hid ((decide (a ≠ b) && runJ S (T ++ sps) (J.drop (j + 1)) && runS (spots J) 0 [] S) = R) := Lib.hid (by
                have h1 := HRJ.out
                rw [HD.out, runJ, HSP.out, HQ'.out, hQT, Bool.true_and] at h1
                exact h1)
              have HSPL := Lib.hid hspl
              clear hQT hspl hT hsp e0 e2
              by_cases hab : a = b
              · have b0 : (a == b) = true := by simpa using hab
                have HF : Hid (R = false) := Lib.hid (by rw [← HJ2.out]; simp [hab])
                clear hab hwB
                go_wp2
                go_ret
                exact ⟨by rw [HR.out, HF.out]; rfl, hbw⟩
              · have b0 : (a == b) = false := by simpa using hab
                have HN : Hid ((runJ S (T ++ sps) (J.drop (j + 1)) && runS (spots J) 0 [] S) = R) := Lib.hid (by rw [← HJ2.out]; simp [hab])
                have hO5 := hO3.trans hO
                clear hab hwB
                go_wp2
                go_roundg (jl - j - 1)
                case measure => omega
                case rel =>
                  refine ⟨j + 1, _, by omega, by go_num, hT5, by rw [List.length_append, HSPL.out]; omega, hO5, ?_, HN.out⟩
                  rw [List.take_add_one, HX.out, HTJ.out]
                  simp [spots, ← HSP.out]
        · have hjd : decide ((j : Int) < (jl : Int)) = false := by simpa using hj
          have hJd : J.drop j = [] := List.drop_of_length_le (by omega)
          have hJt : J.take j = J := List.take_of_length_le (by omega)
          have hRs : runS (spots J) 0 [] S = R := by
            have h1 := HRJ.out
            rw [hJd, runJ, Bool.true_and] at h1
            exact h1
          have hTW : Taken B (spots J) W := by
            have h1 := HTJ.out
            rw [hJt] at h1
            rw [← h1]
            exact hT
          have hBW : B < W.heap.size := CountMap.lt hT
          have hL0 := lines_made W
          have HRS := Lib.hid hRs
          have HTW := Lib.hid hTW
          have hmm := @run_makeMap Try.prog
          clear hRs hTW hJd hJt hT hO hwB hTl
          go_wp2
          go_loopg [88] sl (fun m c wr => ∃ (i : Nat) (Ls : List Int), i + m = sl ∧ c = .int .i64 i ∧ Lines W.heap.size Ls wr ∧ Ls.length = i ∧ Below W.heap.size W wr ∧ runS (spots J) i Ls (S.drop i) = R)
          case atStart => exact ⟨0, [], by omega, rfl, hL0, rfl, below_new (Below.refl _ _) _, HRS.out⟩
          case round =>
            clear hL0 hmm
            obtain ⟨i, Ls, him, rfl, hL, hLl, hbW, hRi⟩ := hrel
            obtain ⟨W5, rfl⟩ : ∃ W5 : World, W5 = wr := ⟨_, rfl⟩
            have HRI := Lib.hid hRi
            clear hRi
            by_cases hi : i < sl
            · have hid : decide ((i : Int) < (sl : Int)) = true := by simpa using hi
              have hil : (i : Int) < sl := by omega
              obtain ⟨g, o, x, rfl, hg, hx, hd, hc⟩ := (hS.below (below_step hbl hbW)).row hi
              obtain ⟨k, oc, l⟩ := x
              have k0 := hc 0 _ rfl
              have k1 := hc 1 _ rfl
              have k2 := hc 2 _ rfl
              rw [Nat.add_zero] at k0
              have HD := Lib.hid hd
              have xl := hs64 _ (List.mem_of_getElem? hx)
              simp only at xl
              clear hc hd hx
              have hEk := endsT_in k
              obtain ⟨nl, hnl⟩ : ∃ n, Ls.count l = n := ⟨_, rfl⟩
              have hnl16 : nl ≤ 16 := by have := List.count_le_length (l := Ls) (a := l); omega
              have HC := Lib.hid hnl
              clear hnl
              have hWsz := hbW.size
              have bad : secOk (spots J) i Ls (k, oc, l) = false → R = false := fun h => by
                rw [← HRI.out, HD.out, runS, h, Bool.false_and]
              have HBAD := Lib.hid bad
              clear bad
              by_cases he : endsT k = 0
              · have b0 : (endsT k == 0) = true := by simpa using he
                have HF : Hid (R = false) := Lib.hid (HBAD.out (by simp [secOk, he]))
                clear he
                go_wp2_with (first
                | (go_at_call 46; (refine (between_any _ _ _ _).mono ?_; rintro e6 w6 ⟨rfl, rfl⟩; first | rw [q1] | rw [q2]))
                | (go_at_call 35; go_must (refine (ends_any k _).mono ?_; rintro e5 w5 ⟨rfl, hb5⟩; obtain ⟨c5, f5⟩ := below_reads hb5; have hb6 := below_step (below_new hbW _) hb5)))
                go_ret
                exact ⟨by rw [HR.out, HF.out]; rfl, below_step hbl hb6⟩
              have b0 : (endsT k == 0) = false := by simpa using he
              by_cases hoc : ¬(0 ≤ oc ∧ oc ≤ 3)
              · have q1 : btw oc 0 3 = false := btw_false hoc
                have q2 : btw oc 0 3 = false := q1
                have HF : Hid (R = false) := Lib.hid (HBAD.out (by simp [secOk]; intro _ _; omega))
                clear he hoc
                go_wp2_with (first
                | (go_at_call 46; (refine (between_any _ _ _ _).mono ?_; rintro e6 w6 ⟨rfl, rfl⟩; first | rw [q1] | rw [q2]))
                | (go_at_call 35; go_must (refine (ends_any k _).mono ?_; rintro e5 w5 ⟨rfl, hb5⟩; obtain ⟨c5, f5⟩ := below_reads hb5; have hb6 := below_step (below_new hbW _) hb5)))
                go_ret
                exact ⟨by rw [HR.out, HF.out]; rfl, below_step hbl hb6⟩
              have hoc := Decidable.not_not.1 hoc
              have q1 : btw oc 0 3 = true := btw_true hoc
              by_cases hl3 : ¬(0 ≤ l ∧ l ≤ 3)
              · have q2 : btw l 0 3 = false := btw_false hl3
                have HF : Hid (R = false) := Lib.hid (HBAD.out (by simp [secOk]; intro _ _ _; omega))
                clear he hoc hl3
                go_wp2_with (first
                | (go_at_call 46; (refine (between_any _ _ _ _).mono ?_; rintro e6 w6 ⟨rfl, rfl⟩; first | rw [q1] | rw [q2]))
                | (go_at_call 35; go_must (refine (ends_any k _).mono ?_; rintro e5 w5 ⟨rfl, hb5⟩; obtain ⟨c5, f5⟩ := below_reads hb5; have hb6 := below_step (below_new hbW _) hb5)))
                go_ret
                exact ⟨by rw [HR.out, HF.out]; rfl, below_step hbl hb6⟩
              have hl3 := Decidable.not_not.1 hl3
              have q2 : btw l 0 3 = true := btw_true hl3
              have hfst : decide (endsT k ≠ 0 ∧ (0 ≤ oc ∧ oc ≤ 3) ∧ (0 ≤ l ∧ l ≤ 3)) = true := by simp [he, hoc, hl3]
              by_cases hl0 : l = 0
              · have b1 : (l != 0) = false := by simp [hl0]
                have HSOK : Hid (secOk (spots J) i Ls (k, oc, l) = true) := Lib.hid (by simp only [secOk]; rw [hfst]; simp [hl0])
                clear he hoc hl3 hl0 hfst
                go_wp2_with (first
                | (go_at_call 46; (refine (between_any _ _ _ _).mono ?_; rintro e6 w6 ⟨rfl, rfl⟩; first | rw [q1] | rw [q2]))
                | (go_at_call 35; go_must (refine (ends_any k _).mono ?_; rintro e5 w5 ⟨rfl, hb5⟩; obtain ⟨c5, f5⟩ := below_reads hb5; have hb6 := below_step (below_new hbW _) hb5; have hLk := (Lines.look (CountMap.below (CountMap.below hL (below_new (Below.refl _ _) _)) hb5) (int_bounds xl) nl HC.out); obtain ⟨u1, hup, hL', hOu⟩ := Lines.more (CountMap.below (CountMap.below hL (below_new (Below.refl _ _) _)) hb5) (int_bounds xl) (by omega) nl HC.out)))
                go_roundg (sl - i - 1)
                case measure => omega
                case rel =>
                  refine ⟨i + 1, _, by omega, by go_num, hL', by rw [List.length_append]; simp only [List.length_cons, List.length_nil]; omega, hb6.trans (Only.below hOu (Nat.le_refl _) hb6.size), ?_⟩
                  have h1 := HRI.out
                  rw [HD.out, runS, HSOK.out, Bool.true_and] at h1
                  exact h1
              have b1 : (l != 0) = true := by simpa using hl0
              by_cases hk0 : ¬k = 0
              · have b2 : (k != 0) = true := by simpa using hk0
                have HF : Hid (R = false) := Lib.hid (HBAD.out (by simp [secOk, hl0, hk0]))
                clear he hoc hl3 hl0 hk0 hfst
                go_wp2_with (first
                | (go_at_call 46; (refine (between_any _ _ _ _).mono ?_; rintro e6 w6 ⟨rfl, rfl⟩; first | rw [q1] | rw [q2]))
                | (go_at_call 35; go_must (refine (ends_any k _).mono ?_; rintro e5 w5 ⟨rfl, hb5⟩; obtain ⟨c5, f5⟩ := below_reads hb5; have hb6 := below_step (below_new hbW _) hb5)))
                go_ret
                exact ⟨by rw [HR.out, HF.out]; rfl, below_step hbl hb6⟩
              have hk0 := Decidable.not_not.1 hk0
              have b2 : (k != 0) = false := by simp [hk0]
              cases hct : (spots J).contains ((i : Int), 1) with
              | true =>
                have HF : Hid (R = false) := Lib.hid (HBAD.out (by simp only [secOk, hct]; simp [hl0]))
                have HCT := Lib.hid hct
                clear he hoc hl3 hl0 hk0 hfst hct
                go_wp2_with (first
                | (go_at_call 46; (refine (between_any _ _ _ _).mono ?_; rintro e6 w6 ⟨rfl, rfl⟩; first | rw [q1] | rw [q2]))
                | (go_at_call 35; go_must (refine (ends_any k _).mono ?_; rintro e5 w5 ⟨rfl, hb5⟩; obtain ⟨c5, f5⟩ := below_reads hb5; have hb6 := below_step (below_new hbW _) hb5; have hTk := Taken.look1 (CountMap.below HTW.out hb6) (int_wf (by omega)) (by decide) HCT.out)))
                go_ret
                exact ⟨by rw [HR.out, HF.out]; rfl, below_step hbl hb6⟩
              | false =>
                have HCT := Lib.hid hct
                by_cases hn0 : nl = 0
                · have d0 : decide ((0 : Int) < (nl : Int)) = false := by simp; omega
                  have d1 : decide (0 < nl) = false := by simp; omega
                  have HSOK : Hid (secOk (spots J) i Ls (k, oc, l) = true) := Lib.hid (by simp only [secOk]; rw [hfst, hct, HC.out]; simp [hk0, hn0])
                  clear he hoc hl3 hl0 hk0 hfst hct hn0
                  go_wp2_with (first
                | (go_at_call 46; (refine (between_any _ _ _ _).mono ?_; rintro e6 w6 ⟨rfl, rfl⟩; first | rw [q1] | rw [q2]))
                | (go_at_call 35; go_must (refine (ends_any k _).mono ?_; rintro e5 w5 ⟨rfl, hb5⟩; obtain ⟨c5, f5⟩ := below_reads hb5; have hb6 := below_step (below_new hbW _) hb5; have hTk := Taken.look0 (CountMap.below HTW.out hb6) (int_wf (by omega)) (by decide) HCT.out; have hLk := (Lines.look (CountMap.below (CountMap.below hL (below_new (Below.refl _ _) _)) hb5) (int_bounds xl) nl HC.out); obtain ⟨u1, hup, hL', hOu⟩ := Lines.more (CountMap.below (CountMap.below hL (below_new (Below.refl _ _) _)) hb5) (int_bounds xl) (by omega) nl HC.out)))
                  go_roundg (sl - i - 1)
                  case measure => omega
                  case rel =>
                    refine ⟨i + 1, _, by omega, by go_num, hL', by rw [List.length_append]; simp only [List.length_cons, List.length_nil]; omega, hb6.trans (Only.below hOu (Nat.le_refl _) hb6.size), ?_⟩
                    have h1 := HRI.out
                    rw [HD.out, runS, HSOK.out, Bool.true_and] at h1
                    exact h1
                · have d0 : decide ((0 : Int) < (nl : Int)) = true := by simp; omega
                  have d1 : decide (0 < nl) = true := by simp; omega
                  have HF : Hid (R = false) := Lib.hid (HBAD.out (by simp only [secOk]; rw [HC.out]; simp [hl0, hn0]))
                  clear he hoc hl3 hl0 hk0 hfst hct hn0
                  go_wp2_with (first
                | (go_at_call 46; (refine (between_any _ _ _ _).mono ?_; rintro e6 w6 ⟨rfl, rfl⟩; first | rw [q1] | rw [q2]))
                | (go_at_call 35; go_must (refine (ends_any k _).mono ?_; rintro e5 w5 ⟨rfl, hb5⟩; obtain ⟨c5, f5⟩ := below_reads hb5; have hb6 := below_step (below_new hbW _) hb5; have hTk := Taken.look0 (CountMap.below HTW.out hb6) (int_wf (by omega)) (by decide) HCT.out; have hLk := (Lines.look (CountMap.below (CountMap.below hL (below_new (Below.refl _ _) _)) hb5) (int_bounds xl) nl HC.out))))
                  go_ret
                  exact ⟨by rw [HR.out, HF.out]; rfl, below_step hbl hb6⟩
            · have hid : decide ((i : Int) < (sl : Int)) = false := by simpa using hi
              have HF : Hid (R = true) := Lib.hid (by rw [← HRI.out, List.drop_of_length_le (by omega)]; rfl)
              go_wp2
              go_ret
              exact ⟨by rw [HR.out, HF.out]; rfl, below_step hbl hbW⟩
    · have d1 : decide ((24 : Int) < (jl : Int)) = true := by simp; omega
      have HF : Hid (R = false) := Lib.hid (by rw [← HR.out, okT, hJl]; simp [hj1])
      go_enter Try.func28, Try.ntmps28
      go_wp2_with (go_at_call 46; (refine (between_any _ _ _ _).mono ?_; rintro e w1 ⟨rfl, rfl⟩; rw [hb1]))
      go_ret
      exact ⟨by rw [HR.out, HF.out]; rfl, Below.refl _ _⟩
  · have hb1 : btw (sl : Int) 1 16 = false := btw_false (by omega)
    have HF : Hid (R = false) := Lib.hid (by rw [← HR.out, okT, hSl]; simp [hs1])
    clear hs1
    go_enter Try.func28, Try.ntmps28
    go_wp2_with (go_at_call 46; (refine (between_any _ _ _ _).mono ?_; rintro e w1 ⟨rfl, rfl⟩; rw [hb1]))
    go_ret
    exact ⟨by rw [HR.out, HF.out]; rfl, Below.refl _ _⟩
end Go.Proofs.Ytokldploloncgaa.topo
