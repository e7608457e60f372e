/-
  RingOrder answers true of every size, row of batches and number of takes that together are of bulk at most 1048576, and leaves all that was there as it was.
-/
import Derived.Test.YtaamachonbkjoaaRingOrderA
import Derived.Deep.Strs
import Derived.Deep.CondSized
namespace Go.Proofs.Ytaamachonbkjoaa.ring
open Go.ChangeShapes Go.WideShapes Go.ChangeAt Go.RowKit Go.Joins Go.Deep

set_option maxRecDepth 100000 in
theorem order_none (n takes : Int) (ao : Option Addr) (cap0 : Nat) (w : World) :
    Calls Try.prog 3 #[.int .i64 n, .slice ao 0 cap0, .int .i64 takes] w fun e w' => e = .returned (.bool true) ∧ Below w.heap.size w w' := by
  go_enter Try.func3, Try.ntmps3
  go_upto_region 3 with (go_at_call 7; refine (lives_any _).mono ?_; rintro e w1 ⟨rfl, hb1⟩)
  go_upto_region 4 with (go_at_call 8; refine (text.new_any n _).mono ?_; rintro e w2 ⟨b, p, rfl, hwb, hwp, hring, hb2⟩)
  go_wp2
  refine wp_loop_rounds 1 ?_
  rw [rounds_succ]
  have c0 := hring.c0
  go_upto_region 22 with (go_at_call 11; go_must (refine (len_any b _ _ c0).mono ?_; rintro e w3 ⟨rfl, hb3⟩))
  have hring3 := hring.below hb3
  clear hring c0
  go_wp2
  refine wp_loop_rounds 1 ?_
  rw [rounds_succ]
  have c2 := hring3.c2
  have hbs' := hring3.lt_b
  go_wp2_with (first
    | (go_at_call 10; go_must (refine (text.take_any b p _ 0 0 [] _ hring3).mono ?_; rintro e w5 ⟨rfl, hb5⟩; obtain ⟨r5, f5⟩ := below_reads hb5))
    | (go_at_call 12; go_must (refine (lost_any b _ _ ((r5 b 2 hbs').trans c2)).mono ?_; rintro e w6 ⟨rfl, hb6⟩))
    | (go_at_call 13; go_must (refine (text.same_true [] _ _ _ _ _ _ _ rfl rfl (by simp) (.inl rfl) (.inl rfl)).mono ?_; rintro e w7 ⟨rfl, hb7⟩)))
  go_ret
  exact ⟨rfl, by repeat (first | assumption | refine below_step ?_ (by assumption))⟩

section
variable {H : Type} {enc : TypeId × Value → H} {P : Program} {w : World} {base : Nat} {spare : Nat → Bool} {held : Bool}

theorem sum_le (f : Nat → List ByteArray) (D : Nat → DataW H) (l : List Nat) (h : ∀ i ∈ l, (f i).length ≤ Rows.uptoBulk (D i)) : ((l.map f).map List.length).sum ≤ Rows.uptoBulkAll (l.map D) := by
  induction l with
  | nil => simp
  | cons a l ih =>
    have h1 := h a (by simp)
    have h2 := ih fun i hi => h i (by simp [hi])
    simp only [List.map_cons, List.sum_cons, Rows.uptoBulkAll]
    omega

theorem lits_le (l : List (DataW H)) : l.length ≤ Rows.uptoBulkAll l := by
  induction l with
  | nil => simp
  | cons x r ih =>
    have h1 : 1 ≤ Rows.uptoBulk x := by
      cases x with
      | lit l => cases l <;> simp [Rows.uptoBulk]
      | nil => simp [Rows.uptoBulk]
      | ptr d => simp [Rows.uptoBulk]
      | slice elems spare => simp [Rows.uptoBulk]
      | agg parts => simp [Rows.uptoBulk]
      | iface t d => simp [Rows.uptoBulk]
      | map entries => simp [Rows.uptoBulk]
      | held h => simp [Rows.uptoBulk]
    simp only [Rows.uptoBulkAll, List.length_cons]
    omega

/-- A slice of slices of texts. -/
theorem open_batches {t e q : TypeId} {fuel : Nat} {v : Value} {x : DataW H × List MemPlace} (ht : P.underlying t = some (.slice e)) (he : P.underlying e = some (.slice q)) (hq : P.underlying q = some .string) (ce : P.cellsOf e = 1) (cq : P.cellsOf q = 1)
    (h : DataW.trod enc P w base spare held fuel t [v] = some x) :
    ∃ (ao : Option Addr) (len cap : Nat), v = .slice ao len cap ∧ len ≤ cap ∧ cap ≤ maxLen ∧
      (len = 0 ∨ ∃ b off, ao = some ⟨b, off, none⟩ ∧ ∃ Bs : List (List ByteArray), Bs.length = len ∧ (Bs.map List.length).sum ≤ Rows.uptoBulk x.1 ∧
        ∀ k (hk : k < Bs.length), ∃ ao ln lc, w.cell? ⟨b, off + k, none⟩ = some (.slice ao ln lc) ∧ Batch w ao ln lc (Bs[k]'hk)) := by
  rcases open_slice1 ht ce h with ⟨h0, h1⟩ | ⟨a, len, cap, m, n, V, D, Pl, hcs, hb, hl, hm, hmm, hx, hi⟩
  · simp only [List.cons.injEq, and_true] at h0
    exact ⟨none, 0, 0, h0, Nat.le_refl _, Nat.zero_le _, .inl rfl⟩
  · simp only [List.cons.injEq, and_true] at hcs
    refine ⟨some a, len, cap, hcs, hl, hm, ?_⟩
    by_cases h0 : len = 0
    · exact .inl h0
    have hlm : len ≤ m := by rw [hmm]; split <;> omega
    obtain ⟨b, off, sp⟩ := a
    have hsp : sp = none := by simpa [Addr.add] using World.cell?_spot (hi 0 (by omega)).1
    subst hsp
    have each : ∀ i, i < len → ∃ L : List ByteArray, (∃ ao ln lc, w.cell? ⟨b, off + i, none⟩ = some (.slice ao ln lc) ∧ Batch w ao ln lc L) ∧ L.length ≤ Rows.uptoBulk (D i) := by
      intro i hil
      obtain ⟨hc, hr⟩ := hi i (by omega)
      rw [plain_add] at hc
      rcases open_strs he hq cq hr with ⟨k0, k1⟩ | ⟨a', l', c', m', Sx, k0, _, k2, k3, k4, k5, k6⟩
      · simp only [List.cons.injEq, and_true] at k0
        exact ⟨[], ⟨none, 0, 0, by rw [hc, k0], ⟨rfl, Nat.le_refl _, by omega, fun _ => rfl, .inl rfl⟩⟩, Nat.zero_le _⟩
      · simp only [List.cons.injEq, and_true] at k0
        have hlm' : l' ≤ m' := by rw [k4]; split <;> omega
        refine ⟨(List.range l').map Sx, ⟨some a', l', c', by rw [hc, k0], ⟨by simp, k2, by unfold maxLen at k3; omega, fun e => (by cases e), ?_⟩⟩, ?_⟩
        · by_cases hl0 : l' = 0
          · exact .inl hl0
          · obtain ⟨b', off', sp⟩ := a'
            have hc0 := (k6 0 (by omega)).1
            have hsp : sp = none := by simpa [Addr.add] using World.cell?_spot hc0
            subst hsp
            rw [plain_add] at hc0
            refine .inr ⟨b', off', rfl, World.block_lt_of_cell? _ _ hc0, fun j x hx => ?_⟩
            have hj : j < l' := by have := (List.getElem?_eq_some_iff.1 hx).1; simpa using this
            rw [List.getElem?_map, List.getElem?_range hj] at hx
            injection hx with hx
            subst hx
            have := (k6 j (by omega)).1
            rw [plain_add] at this
            exact this
        · have : D i = _ := congrArg Prod.fst k5
          rw [this]
          have := lits_le ((List.range l').map fun i => (DataW.lit (H := H) (.string (Sx i).data.toList)))
          simp only [Rows.uptoBulk]
          simp only [List.length_map, List.length_range] at this ⊢
          omega
    obtain ⟨f, hf⟩ := choose_lt each
    refine .inr ⟨b, off, rfl, (List.range len).map f, by simp, ?_, ?_⟩
    · have := sum_le f D (List.range len) fun i hi => (hf i (by simpa using hi)).2
      rw [hx]
      simp only [Rows.uptoBulk]
      omega
    · intro k hk
      have hk' : k < len := by simpa using hk
      have e : ((List.range len).map f)[k]'hk = f k := by simp
      rw [e]
      exact (hf k hk').1
end
end Go.Proofs.Ytaamachonbkjoaa.ring

namespace Go.Proofs.Ytaamachonbkjoaa.ringOrder
open Go.ChangeShapes Go.WideShapes Go.ChangeAt Go.RowKit Go.Joins

set_option maxRecDepth 100000 in
theorem contract (H : Type) (enc : TypeId × Value → H) (W : World) (base : Nat) (args : Array Value) (ds gs : List (DataW H)) (before : List MemPlace)
    (hval0 : ∀ (j : Nat) t v, Try.f3.params[j]? = some t → args[j]? = some v → Value.okWide Try.prog W .any base t v)
    (hW : DataW.Whole enc Try.prog Try.f3.params.toList Rows.ringOrderSpec.vars false W args.toList ds gs before)
    (hk0 : Rows.uptoSmall H (ds ++ gs) = true) :
    Calls Try.prog 3 args W fun e W' => e = .returned (.bool true) ∧ Below W.heap.size W W' := by
  have hval := hval0
  have hk := of_decide_eq_true hk0
  clear hval0 hk0
  obtain ⟨p, q, hA0, hV, _, _, _⟩ := hW
  have hA : DataW.TrodAll enc Try.prog W 0 (fun _ => true) true Try.f3.params.toList args.toList ds p := hA0
  obtain ⟨rfl, rfl⟩ := trodVars_none hV
  rw [Try.params3] at hA hval
  obtain ⟨v0, v1, v2, d0, d1, d2, p0, p1, p2, rfl, rfl, rfl, h0, h1, h2⟩ := trodAll_three hA
  obtain ⟨n, rfl, -, -, -⟩ := open_int Try.underlying3 (hval 0 _ v0 rfl rfl) h0
  obtain ⟨tk, rfl, -, -, -⟩ := open_int Try.underlying3 (hval 2 _ v2 rfl rfl) h2
  obtain ⟨fuel, hf⟩ := h1
  obtain ⟨a, l, c, rfl⟩ := okWide_slice Try.underlying22 (hval 1 _ v1 rfl rfl)
  obtain ⟨ao, len, cap, hv, hl, hm, hrows⟩ := ring.open_batches Try.underlying22 Try.underlying26 Try.underlying9 (by kernel_rfl) (by kernel_rfl) hf
  simp only [Value.slice.injEq] at hv
  obtain ⟨rfl, rfl, rfl⟩ := hv
  rcases hrows with rfl | ⟨b, off, rfl, Bs, hBl, hsum, hbs⟩
  · exact ring.order_none n tk _ _ W
  · by_cases h0 : l = 0
    · subst h0
      exact ring.order_none n tk _ _ W
    have hbulk : Rows.uptoBulk d1 ≤ 1048576 := by
      simp only [List.append_nil, Rows.uptoBulkAll] at hk
      omega
    have hbw : b < W.heap.size := by
      obtain ⟨_, _, _, c0, _⟩ := hbs 0 (by omega)
      exact World.block_lt_of_cell? _ _ c0
    exact ring.order_any n tk b off _ _ Bs W hBl (by unfold maxLen at hm; omega) (by have : (Bs.map List.length).sum ≤ Rows.uptoBulk d1 := hsum; omega) hbw hbs

set_option maxRecDepth 100000 in
theorem lifted (os : Os) (started : os.Started) (H : Type) (enc : TypeId × Value → H) (F : Stop.Interp) :
    ReturnsInHanded {} Try.checked os 3 .any ((Rows.OpenSpec.upto Rows.ringOrderSpec).pre6 enc Try.prog Try.f3 Rows.ringOrderUptoRow.domain false) (((Rows.OpenSpec.upto Rows.ringOrderSpec).at F).post enc Try.prog Try.f3 false true false false) := by
  refine returnsInHanded_of_cond_sized (C := Try.checked) (s := Rows.OpenSpec.upto Rows.ringOrderSpec) (k := Rows.uptoSmall) rfl own started (by kernel_rfl) Try.func3
    (OpenSpec.witness (enc := enc) (C := Try.checked) (s := Rows.OpenSpec.upto Rows.ringOrderSpec) (k := Rows.uptoSmall) rfl false ⟨#[], #[.int .i64 0, .slice none 0 0, .int .i64 0], []⟩ 8 (by kernel_rfl) (by kernel_rfl) (by kernel_rfl)
      (x := ([.lit (.int .i64 0), .nil, .lit (.int .i64 0)], [], [])) (by kernel_rfl) rfl (by kernel_rfl)) ?_
  intro W base args ds gs before hval hW _ hk hsz _
  have hW0 : DataW.Whole enc Try.prog Try.f3.params.toList Rows.ringOrderSpec.vars false W args.toList ds gs before := hW
  refine (contract H enc W base args ds gs before hval hW hk).mono fun e W' ⟨he, hb⟩ => ⟨_, he, post_law laidOut (by kernel_rfl) (by kernel_rfl : Try.prog.underlying 4 = some .bool) (by kernel_rfl) rfl hW0 ?_ hb⟩
  obtain ⟨p, q, hA0, _⟩ := hW0
  have hA : DataW.TrodAll enc Try.prog W 0 (fun _ => true) true Try.f3.params.toList args.toList ds p := hA0
  rw [Try.params3] at hA
  obtain ⟨v0, vs0, d0, ds0, p0, q0, hargs, rfl, rfl, h0, r0⟩ := trodAll_cons hA
  obtain ⟨v1, vs1, d1, ds1, p1, q1, rfl, rfl, rfl, h1, r1⟩ := trodAll_cons r0
  obtain ⟨v2, vs2, d2, ds2, p2, q2, rfl, rfl, rfl, h2, r2⟩ := trodAll_cons r1
  obtain ⟨rfl, rfl, rfl⟩ := trodAll_nil r2
  rfl

theorem holds : Rows.RingOrderUptoSaid :=
  OpenClaim.holds_of_cond 3 Try.f3 rfl rfl rfl rfl rfl rfl rfl ⟨rfl, rfl, rfl, rfl, rfl⟩ rfl rfl rfl rfl rfl (by kernel_rfl) Try.func3 (by kernel_rfl)
    (of_decide_eq_true (by kernel_rfl)) (by unfold Func.isWrapper; first | (rw [if_pos (by decide +kernel)]; kernel_rfl) | (rw [if_neg (by decide +kernel)]; exact ⟨rfl, rfl⟩))
    (fun os started H enc _ F => lifted os started H enc F)
#print axioms holds
end Go.Proofs.Ytaamachonbkjoaa.ringOrder
