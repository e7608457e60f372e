/-
  TopoMeets answers true of every plan, and leaves all that was there as it was.
  Conditions: none.
-/
import Derived.Test.YtokldploloncgaaTopoP
namespace Go.Proofs.Ytokldploloncgaa.topo
open Go.RowKit

set_option maxRecDepth 100000 in
set_option maxHeartbeats 2000000 in
theorem meets_any (sa ja : Option Addr) (sl sc jl jc : Nat) (S : List (Int × Int × Int)) (J : List (Int × Int × Int × Int)) (w : World) (hp : PlanAt w sa sl sc ja jl jc S J) :
    Calls Try.prog 9 #[.agg #[.slice sa sl sc, .slice ja jl jc]] w fun e' w' => e' = .returned (.bool true) ∧ Below w.heap.size w w' := by
  have hSl := hp.s.len
  go_enter Try.func9, Try.ntmps9
  go_upto_region 3 with (go_at_call 27; refine (lives_any _).mono ?_; rintro e' w1 ⟨rfl, hb1⟩)
  have hbx := below_new (Below.refl w.heap.size w) (Obj.cells #[Value.slice sa sl sc, Value.slice ja jl jc] 60)
  have x0 : w1.cell? ⟨w.heap.size, 0, none⟩ = some (.slice sa sl sc) := (hb1.cell (p := ⟨w.heap.size, 0, none⟩) (by simp)).trans (by simp)
  have x1 : w1.cell? ⟨w.heap.size, 1, none⟩ = some (.slice ja jl jc) := (hb1.cell (p := ⟨w.heap.size, 1, none⟩) (by simp)).trans (by simp)
  have hbw := below_step hbx hb1
  have hp1 := hp.below hbw
  have hC := hp1.check
  clear hbx hb1
  cases hok : okT S J with
  | false =>
    rw [hok] at hC
    have HC := Lib.hid hC
    clear hC hok
    go_wp2_with (go_at_call 28; go_must (refine HC.out.mono ?_; rintro e' w2 ⟨rfl, hb2⟩))
    go_ret
    exact ⟨rfl, below_step hbw hb2⟩
  | true =>
    have hpl := Plan.of_ok hok
    rw [hok] at hC
    have HC := Lib.hid hC
    clear hC hok
    have hs16 := hpl.small
    have HPL := Lib.hid hpl
    clear hpl
    go_upto_region 5 with (go_at_call 28; go_must (refine HC.out.mono ?_; rintro e' w2 ⟨rfl, hb2⟩))
    have y0 := (hb2.cell (p := ⟨w.heap.size, 0, none⟩) (World.block_lt_of_cell? _ _ x0)).trans x0
    have y1 := (hb2.cell (p := ⟨w.heap.size, 1, none⟩) (World.block_lt_of_cell? _ _ x1)).trans x1
    have hp2 := hp1.below hb2
    have hbw2 := below_step hbw hb2
    have hbz : w.heap.size < w2.heap.size := World.block_lt_of_cell? _ _ y0
    clear x0 x1 hbw hb2 hp1
    go_wp2
    go_loopg [23] sl (fun m c wr => ∃ j : Nat, j + m = sl ∧ c = .int .i64 j ∧ Below w2.heap.size w2 wr)
    case atStart => exact ⟨0, by omega, rfl, Below.refl _ _⟩
    case round =>
      obtain ⟨j, hjm, rfl, hb3⟩ := hrel
      obtain ⟨W3, rfl⟩ : ∃ W : World, W = wr := ⟨_, rfl⟩
      by_cases hj : j < sl
      · have hjd : decide ((j : Int) < (sl : Int)) = true := by simpa using hj
        have hjl : (j : Int) < sl := by omega
        obtain ⟨g, o, x, rfl, hg, hx, -, hc⟩ := (hp2.s.below hb3).row hj
        obtain ⟨k, oc, l⟩ := x
        have k0 := hc 0 _ rfl
        have k1 := hc 1 _ rfl
        have k2 := hc 2 _ rfl
        rw [Nat.add_zero] at k0
        have z1 := (hb3.cell (p := ⟨w.heap.size, 1, none⟩) (World.block_lt_of_cell? _ _ y1)).trans y1
        have z0 := (hb3.cell (p := ⟨w.heap.size, 0, none⟩) (World.block_lt_of_cell? _ _ y0)).trans y0
        have hEk := endsT_in k
        obtain ⟨n, hn⟩ := Int.eq_ofNat_of_zero_le hEk.1
        have hn4 : n ≤ 4 := by omega
        have HN := Lib.hid hn
        clear hc hx hn
        go_wp2
        obtain ⟨W4, hW4⟩ : ∃ W4, W3.alloc (.cells #[.int .i64 k, .int .i64 oc, .int .i64 l] 62) = W4 := ⟨_, rfl⟩
        rw [hW4]
        have hb4 : Below W3.heap.size W3 W4 := by rw [← hW4]; exact below_new (Below.refl _ _) _
        have q0 : W4.cell? ⟨W3.heap.size, 0, none⟩ = some (.int .i64 k) := by rw [← hW4]; simp
        have v1 := (hb4.cell (p := ⟨w.heap.size, 1, none⟩) (World.block_lt_of_cell? _ _ z1)).trans z1
        have v0 := (hb4.cell (p := ⟨w.heap.size, 0, none⟩) (World.block_lt_of_cell? _ _ z0)).trans z0
        have hb34 := below_step hb3 hb4
        clear hW4 k0 k1 k2 z0 z1
        go_loopg [5] n (fun m c wr => ∃ e : Nat, e + m = n ∧ c = .int .i64 e ∧ Below W4.heap.size W4 wr)
        case atStart => exact ⟨0, by omega, rfl, Below.refl _ _⟩
        case round =>
          obtain ⟨e, hem, rfl, hb5⟩ := hrel
          obtain ⟨W5, rfl⟩ : ∃ W : World, W = wr := ⟨_, rfl⟩
          have u1 := (hb5.cell (p := ⟨w.heap.size, 1, none⟩) (World.block_lt_of_cell? _ _ v1)).trans v1
          have u0 := (hb5.cell (p := ⟨w.heap.size, 0, none⟩) (World.block_lt_of_cell? _ _ v0)).trans v0
          have r0 := (hb5.cell (p := ⟨W3.heap.size, 0, none⟩) (World.block_lt_of_cell? _ _ q0)).trans q0
          have hgs5 : w.heap.size < W5.heap.size := World.block_lt_of_cell? _ _ u0
          by_cases he : e < n
          · have hed : decide ((e : Int) < (n : Int)) = true := by simpa using he
            cases hnx : nextT J (j : Int) (e : Int) with
            | none =>
              have HX := Lib.hid hnx
              clear hnx
              go_wp2_with (first
                | (go_at_call 35; go_must (refine (ends_any k _).mono ?_; rintro e' w6 ⟨rfl, hb6⟩; obtain ⟨c6, f6⟩ := below_reads hb6; rw [HN.out]))
                | (go_at_call 30; go_must (refine (next_any ja jl jc J (j : Int) (e : Int) _ (hp2.j.below (below_step (below_step hb34 hb5) hb6))).mono ?_; rintro e' w7 ⟨rfl, hb7⟩; rw [HX.out])))
              go_roundg (n - e - 1)
              case measure => omega
              case rel => exact ⟨e + 1, by omega, by go_num, below_step (below_step hb5 hb6) hb7⟩
            | some q =>
              obtain ⟨t, f⟩ := q
              obtain ⟨hback, hts, ⟨ht0, htl⟩, -⟩ := HPL.out.next hnx
              have b1 : (t == (j : Int)) = false := by simpa using hts
              have b2 : decide (t < 0) = false := by simpa using ht0
              have b3 : decide ((sl : Int) ≤ t) = false := by simp; omega
              have HX := Lib.hid hnx
              have HB := Lib.hid hback
              clear hnx hback hts
              go_wp2_with (go_at_call 35; go_must (refine (ends_any k _).mono ?_; rintro e' w6 ⟨rfl, hb6⟩; obtain ⟨c6, f6⟩ := below_reads hb6; rw [HN.out]))
              refine (next_any ja jl jc J (j : Int) (e : Int) _ (hp2.j.below (below_step (below_step hb34 hb5) hb6))).mono ?_
              rintro e' w7 ⟨rfl, hb7⟩
              rw [HX.out]
              have hb67 := below_step hb6 hb7
              have s1 := (hb67.cell (p := ⟨w.heap.size, 1, none⟩) hgs5).trans u1
              have s0 := (hb67.cell (p := ⟨w.heap.size, 0, none⟩) hgs5).trans u0
              clear c6 f6
              go_wp2_with (fail)
              refine (next_any ja jl jc J t f _ (hp2.j.below (below_step (below_step hb34 hb5) hb67))).mono ?_
              rintro e' w8 ⟨rfl, hb8⟩
              rw [HB.out]
              have t0 := (hb8.cell (p := ⟨w.heap.size, 0, none⟩) (World.block_lt_of_cell? _ _ s0)).trans s0
              clear s1 s0 u0 u1 r0
              go_wp2
              go_roundg (n - e - 1)
              case measure => omega
              case rel => exact ⟨e + 1, by omega, by go_num, below_step (below_step hb5 hb67) hb8⟩
          · have hed : decide ((e : Int) < (n : Int)) = false := by simpa using he
            go_wp2_with (go_at_call 35; go_must (refine (ends_any k _).mono ?_; rintro e' w6 ⟨rfl, hb6⟩; rw [HN.out]))
            go_roundg (sl - j - 1)
            case measure => omega
            case rel => exact ⟨j + 1, by omega, by go_num, below_step (below_step hb34 hb5) hb6⟩
      · have hjd : decide ((j : Int) < (sl : Int)) = false := by simpa using hj
        go_wp2
        go_ret
        exact ⟨rfl, below_step hbw2 hb3⟩
end Go.Proofs.Ytokldploloncgaa.topo

namespace Go.Proofs.Ytokldploloncgaa.topoMeets
open Go.ChangeShapes Go.WideShapes Go.ChangeAt Go.RowKit Go.Joins

set_option maxRecDepth 100000 in
theorem contract (H : Type) (enc : TypeId × Value → H) (W : World) (base : Nat) (args : Array Value) (ds gs : List (DataW H)) (before : List MemPlace)
    (hval0 : ∀ (j : Nat) t v, Try.f9.params[j]? = some t → args[j]? = some v → Value.okWide Try.prog W .any base t v)
    (hW : DataW.Whole enc Try.prog Try.f9.params.toList Rows.topoMeetsSpec.vars false W args.toList ds gs before)
    (hsz0 : (DataW.weightsEach Try.prog (Try.f9.params.toList ++ Rows.topoMeetsSpec.plain.varTypes Try.prog) (ds ++ gs)).all (· ≤ reachBytes) = true) :
    Calls Try.prog 9 args W fun e W' => e = .returned (.bool true) ∧ Below W.heap.size W W' := by
  have hval := hval0
  have hsz := hsz0
  clear hval0 hsz0
  obtain ⟨p, q, hA0, hV, _, _, _⟩ := hW
  have hA : DataW.TrodAll enc Try.prog W 0 (fun _ => true) true Try.f9.params.toList args.toList ds p := hA0
  obtain ⟨rfl, rfl⟩ := trodVars_none hV
  rw [Try.params9] at hA hval hsz
  obtain ⟨v0, vs0, d0, ds0, p0, q0, hargs, rfl, rfl, h0, r0⟩ := trodAll_cons hA
  obtain ⟨rfl, rfl, rfl⟩ := trodAll_nil r0
  have hargs' : args = #[v0] := by apply Array.ext'; rw [hargs]
  subst hargs'
  have ho := hval 0 _ v0 rfl rfl
  simp only [Value.okWide] at ho
  obtain ⟨cs, rfl, -, -⟩ := ho
  have hs : topo.shPlan.holds W 9223372036854775807 cs.toList := Sh.opened (by kernel_rfl) h0 hsz 0 rfl rfl _ (.inl rfl)
  obtain ⟨sa, sl, sc, ja, jl, jc, S, J, hcs, hp⟩ := topo.plan_of hs
  have hcs' : cs = #[.slice sa sl sc, .slice ja jl jc] := by apply Array.ext'; rw [hcs]
  subst hcs'
  exact topo.meets_any sa ja sl sc jl jc S J W hp


set_option maxRecDepth 100000 in
theorem lifted (os : Os) (started : os.Started) (H : Type) (enc : TypeId × Value → H) :
    ReturnsInHanded {} Try.checked os 9 .any (Rows.topoMeetsSpec.pre6 enc Try.prog Try.f9 Rows.topoMeetsRow.domain false) (Rows.topoMeetsSpec.post enc Try.prog Try.f9 false true false false) := by
  refine returnsInHanded_of_change_sized (C := Try.checked) own started (by kernel_rfl) Try.func9
    (ChangeSpec.witness6 (enc := enc) (C := Try.checked) false ⟨#[], #[.agg #[.slice none 0 0, .slice none 0 0]], []⟩ 8 (by kernel_rfl) (by kernel_rfl) (by kernel_rfl) (by kernel_rfl)) ?_
  intro W base args ds gs before hval hW _ hsz _
  have hW0 : DataW.Whole enc Try.prog Try.f9.params.toList Rows.topoMeetsSpec.vars false W args.toList ds gs before := hW
  refine (contract H enc W base args ds gs before hval hW hsz).mono fun e W' ⟨he, hb⟩ => ⟨_, he, post_law laidOut (by kernel_rfl) (by kernel_rfl : Try.prog.underlying 4 = some .bool) (by kernel_rfl) rfl hW0 ?_ hb⟩
  obtain ⟨p, q, hA0, _⟩ := hW0
  have hA : DataW.TrodAll enc Try.prog W 0 (fun _ => true) true Try.f9.params.toList args.toList ds p := hA0
  rw [Try.params9] at hA
  obtain ⟨v0, vs0, d0, ds0, p0, q0, hargs, rfl, rfl, h0, r0⟩ := trodAll_cons hA
  obtain ⟨rfl, rfl, rfl⟩ := trodAll_nil r0
  rfl

theorem holds : Rows.TopoMeetsSaid :=
  OpenClaim.holds_of_wide 9 Try.f9 rfl rfl rfl rfl rfl rfl rfl ⟨rfl, rfl, rfl, rfl, rfl⟩ rfl rfl rfl rfl rfl (by kernel_rfl) Try.func9 (by kernel_rfl)
    (of_decide_eq_true (by kernel_rfl)) (by unfold Func.isWrapper; first | (rw [if_pos (by decide +kernel)]; kernel_rfl) | (rw [if_neg (by decide +kernel)]; exact ⟨rfl, rfl⟩))
    (fun os started H enc _ => lifted os started H enc)
#print axioms holds
end Go.Proofs.Ytokldploloncgaa.topoMeets
