/-
  What an argument is, cell by cell, whatever its type is made of (numbers, truth values, texts, slices, structs): by one theorem over the shapes.
-/
import Derived.Test.YtokldploloncgaaOpen
namespace Go.Proofs.Ytokldploloncgaa
open Go.ChangeShapes Go.WideShapes Go.ChangeAt Go.RowKit Go.Joins Go.Deep

/-- The shape of a type. -/
inductive Sh where
  | int
  | bool
  | str
  | slice (bytes : Nat) (e : Sh)
  | struct (fs : List Sh)

mutual
def Sh.size : Sh → Nat
  | .int => 1
  | .bool => 1
  | .str => 1
  | .slice _ _ => 1
  | .struct fs => Sh.sizes fs
def Sh.sizes : List Sh → Nat
  | [] => 0
  | s :: r => s.size + Sh.sizes r
end

mutual
/-- Is the type of this shape? -/
def Sh.fits (P : Program) : Sh → TypeId → Bool
  | .int, t => (match P.underlying t with | some (.int .i64) => true | _ => false) && P.cellsOf t == 1
  | .bool, t => (match P.underlying t with | some .bool => true | _ => false) && P.cellsOf t == 1
  | .str, t => (match P.underlying t with | some .string => true | _ => false) && P.cellsOf t == 1
  | .slice bytes e, t => (match P.underlying t with | some (.slice q) => e.fits P q && P.bytesOf q == bytes && P.cellsOf q == e.size && Nat.blt 0 e.size | _ => false) && P.cellsOf t == 1
  | .struct fs, t => (match P.underlying t with | some (.struct fields) => Sh.fitsAll P fs fields.toList 0 | _ => false) && P.cellsOf t == Sh.sizes fs
def Sh.fitsAll (P : Program) : List Sh → List Field → Nat → Bool
  | [], [], _ => true
  | s :: r, f :: fields, o => s.fits P f.type && P.cellsOf f.type == s.size && f.offset == o && Sh.fitsAll P r fields (o + s.size)
  | _, _, _ => false
end

mutual
/-- Cells of this shape: slices lie in memory, no longer than N elements. -/
def Sh.holds (w : World) (N : Nat) : Sh → List Value → Prop
  | .int, cs => ∃ n, cs = [.int .i64 n] ∧ (-9223372036854775808 ≤ n ∧ n ≤ 9223372036854775807)
  | .bool, cs => ∃ b, cs = [.bool b]
  | .str, cs => ∃ s : ByteArray, cs = [.string s] ∧ s.size ≤ 140737488351232
  | .slice bytes e, cs => ∃ (ao : Option Addr) (len cap : Nat), cs = [.slice ao len cap] ∧ len ≤ cap ∧ cap ≤ 9223372036854775807 ∧ (ao = none → cap = 0) ∧ cap * bytes ≤ 140737488351232 ∧ len ≤ N ∧
      (len = 0 ∨ ∃ b off, ao = some ⟨b, off, none⟩ ∧ ∀ i, i < len → ∃ cs', (∀ j u, cs'[j]? = some u → w.cell? ⟨b, off + i * e.size + j, none⟩ = some u) ∧ e.holds w N cs')
  | .struct fs, cs => Sh.holdsAll w N fs cs
def Sh.holdsAll (w : World) (N : Nat) : List Sh → List Value → Prop
  | [], cs => cs = []
  | s :: r, cs => ∃ a b, cs = a ++ b ∧ s.holds w N a ∧ Sh.holdsAll w N r b
end

theorem spare_bulk {H : Type} (l : List (DataW H)) (i : Nat) (d : DataW H) (h : l[i]? = some d) : Rows.uptoBulk d ≤ Rows.uptoBulkAll l := by
  induction l generalizing i with
  | nil => simp at h
  | cons x r ih =>
    simp only [Rows.uptoBulkAll]
    cases i with
    | zero => simp at h; subst h; omega
    | succ i => have := ih i (by simpa using h); omega
theorem bulk_pos {H : Type} (d : DataW H) : 1 ≤ Rows.uptoBulk d := by
  cases d with
  | lit l => cases l <;> simp [Rows.uptoBulk]
  | nil => simp [Rows.uptoBulk]
  | ptr d => simp [Rows.uptoBulk]
  | slice elems spare => simp [Rows.uptoBulk]
  | agg parts => simp [Rows.uptoBulk]
  | iface t d => simp [Rows.uptoBulk]
  | map entries => simp [Rows.uptoBulk]
  | held h => simp [Rows.uptoBulk]
theorem length_bulk {H : Type} (l : List (DataW H)) : l.length ≤ Rows.uptoBulkAll l := by
  induction l with
  | nil => simp
  | cons x r ih => have := bulk_pos x; simp only [Rows.uptoBulkAll, List.length_cons]; omega

section
variable {H : Type} {enc : TypeId × Value → H} {P : Program} {w : World} {base : Nat} {held : Bool} {N : Nat}

theorem weights_all {e : TypeId} : ∀ (l : List (DataW H)) (i : Nat) (d : DataW H), l[i]? = some d → ∀ n ∈ d.weights P e, n ∈ DataW.weightsAll P e l
  | [], _, _, h, _, _ => by simp at h
  | x :: r, 0, d, h, n, hn => by
    simp only [List.getElem?_cons_zero, Option.some.injEq] at h
    subst h
    simp only [DataW.weightsAll, List.mem_append]
    exact .inl hn
  | x :: r, i + 1, d, h, n, hn => by
    simp only [DataW.weightsAll, List.mem_append]
    exact .inr (weights_all r i d (by simpa using h) n hn)

theorem fits_off : ∀ (r : List Sh) (fields : List Field) (o : Nat), Sh.fitsAll P r fields o = true → ∀ (i : Nat) (f : Field), fields[i]? = some f → o ≤ f.offset
  | [], [], _, _, i, f, h => by simp at h
  | s :: r, g :: fields, o, hf, 0, f, h => by
    simp only [Sh.fitsAll, Bool.and_eq_true, beq_iff_eq] at hf
    simp only [List.getElem?_cons_zero, Option.some.injEq] at h
    subst h
    omega
  | s :: r, g :: fields, o, hf, i + 1, f, h => by
    simp only [Sh.fitsAll, Bool.and_eq_true, beq_iff_eq] at hf
    have := fits_off r fields (o + s.size) hf.2 i f (by simpa using h)
    omega
  | [], _ :: _, _, hf, _, _, _ => by simp [Sh.fitsAll] at hf
  | _ :: _, [], _, hf, _, _, _ => by simp [Sh.fitsAll] at hf

mutual
theorem Sh.holds_of : ∀ (s : Sh) (t : TypeId) (fuel : Nat) (cs : List Value) (x : DataW H × List MemPlace), s.fits P t = true →
    DataW.trod enc P w base (fun _ => true) held fuel t cs = some x → (∀ n ∈ x.1.weights P t, n ≤ reachBytes) → (N = 9223372036854775807 ∨ Rows.uptoBulk x.1 ≤ N) → s.holds w N cs
  | .int, t, fuel, cs, x, hf, h, hw, hb => by
    simp only [Sh.fits, Bool.and_eq_true] at hf
    obtain ⟨hf, -⟩ := hf
    split at hf
    · rename_i hu
      obtain ⟨n, e, -, hwf⟩ := DataW.trod_int hu h
      exact ⟨n, e, bounds hwf⟩
    · cases hf
  | .bool, t, fuel, cs, x, hf, h, hw, hb => by
    simp only [Sh.fits, Bool.and_eq_true] at hf
    obtain ⟨hf, -⟩ := hf
    split at hf
    · rename_i hu
      obtain ⟨b, e, -⟩ := DataW.trod_bool hu h
      exact ⟨b, e⟩
    · cases hf
  | .str, t, fuel, cs, x, hf, h, hw, hb => by
    simp only [Sh.fits, Bool.and_eq_true] at hf
    obtain ⟨hf, -⟩ := hf
    split at hf
    · rename_i hu
      obtain ⟨s, e, hx, -⟩ := DataW.trod_string hu h
      subst hx
      have := hw s.data.toList.length (by simp [DataW.weights])
      refine ⟨s, e, ?_⟩
      have hr : reachBytes = 140737488351232 := rfl
      rw [hr] at this
      simpa using this
    · cases hf
  | .slice bytes e, t, fuel, cs, x, hf, h, hw, hb => by
    simp only [Sh.fits, Bool.and_eq_true] at hf
    obtain ⟨hf, -⟩ := hf
    split at hf
    · rename_i q hu
      simp only [Bool.and_eq_true, beq_iff_eq] at hf
      obtain ⟨⟨⟨hf, hby⟩, hsz⟩, hpos⟩ := hf
      have hpos : 0 < e.size := by simpa using hpos
      have hr : reachBytes = 140737488351232 := rfl
      rcases open_slice hu h with ⟨h0, h1⟩ | ⟨a, len, cap, m, n, D, Pl, hcs, hbs, hl, hm, hmm, hx, hi⟩
      · exact ⟨none, 0, 0, h0, Nat.le_refl _, by omega, fun _ => rfl, by omega, by omega, .inl rfl⟩
      · rw [if_pos rfl] at hmm
        subst hmm
        subst hx
        simp only [DataW.weights, hu, List.mem_cons, List.mem_append] at hw
        have hcap := hw _ (.inl rfl)
        rw [hr, hby] at hcap
        simp only [List.length_map, List.length_range] at hcap
        have hlenN : len ≤ N := by
          rcases hb with hb | hb
          · unfold maxLen at hm; omega
          · have h1 := length_bulk ((List.range len).map D)
            simp only [Rows.uptoBulk] at hb
            simp only [List.length_map, List.length_range] at h1
            omega
        refine ⟨some a, len, m, hcs, hl, by unfold maxLen at hm; omega, fun e => (by cases e), by rw [show len + (m - len) = m by omega] at hcap; exact hcap, hlenN, ?_⟩
        by_cases h0 : len = 0
        · exact .inl h0
        have hc0 : ∃ b off, a = ⟨b, off, none⟩ := by
          obtain ⟨cs', hc, ht'⟩ := hi 0 (by omega)
          obtain ⟨_, hcl, hat⟩ := World.cells?_some hc
          have h1 := hat 0 (by omega)
          rw [List.getElem?_eq_getElem (by omega)] at h1
          have h2 := World.cell?_spot h1
          obtain ⟨b, off, sp⟩ := a
          have h3 : sp = none := by simpa [Addr.add] using h2
          exact ⟨b, off, by rw [h3]⟩
        obtain ⟨b, off, rfl⟩ := hc0
        refine .inr ⟨b, off, rfl, fun i hil => ?_⟩
        obtain ⟨cs', hc, ht'⟩ := hi i (by omega)
        obtain ⟨_, hcl, hat⟩ := World.cells?_some hc
        rw [hsz] at hcl hat
        refine ⟨cs', fun j u hj => ?_, Sh.holds_of e q n cs' _ hf ht' (fun k hk => hw k ?_) ?_⟩
        · have hjl : j < e.size := by have := (List.getElem?_eq_some_iff.1 hj).1; omega
          have h1 := hat j hjl
          rw [plain_add, plain_add] at h1
          rw [← hj]
          exact h1
        · exact .inr (.inl (weights_all _ i (D i) (by simp [hil]) k hk))
        · rcases hb with hb | hb
          · exact .inl hb
          · have h1 := spare_bulk ((List.range len).map D) i (D i) (by simp [hil])
            simp only [Rows.uptoBulk] at hb
            right
            show Rows.uptoBulk (D i) ≤ N
            omega
    · cases hf
  | .struct fs, t, fuel, cs, x, hf, h, hw, hb => by
    simp only [Sh.fits, Bool.and_eq_true, beq_iff_eq] at hf
    obtain ⟨hf, hsz⟩ := hf
    split at hf
    · rename_i fields hu
      obtain ⟨xs, n, -, hx, hl, hxl, hi⟩ := DataW.trod_struct hu h
      subst hx
      refine Sh.holdsAll_of fs fields.toList 0 n cs xs hf (by simpa using hxl) (fun i f hif => by rw [Nat.sub_zero]; exact hi i f (by simpa using hif)) (hl.trans hsz) (fun k hk => hw k (by simpa [DataW.weights, hu] using hk)) ?_
      rcases hb with hb | hb
      · exact .inl hb
      · simp only [Rows.uptoBulk] at hb
        exact .inr (by omega)
    · cases hf
theorem Sh.holdsAll_of : ∀ (fs : List Sh) (fields : List Field) (o n : Nat) (cs : List Value) (xs : List (DataW H × List MemPlace)), Sh.fitsAll P fs fields o = true → xs.length = fields.length →
    (∀ (i : Nat) (f : Field), fields[i]? = some f → DataW.trod enc P w base (fun _ => true) held n f.type ((cs.drop (f.offset - o)).take (P.cellsOf f.type)) = xs[i]?) → cs.length = Sh.sizes fs →
    (∀ n ∈ DataW.weightsEach P (fields.map (·.type)) (xs.map (·.1)), n ≤ reachBytes) → (N = 9223372036854775807 ∨ Rows.uptoBulkAll (xs.map (·.1)) ≤ N) → Sh.holdsAll w N fs cs
  | [], [], o, n, cs, xs, hf, hx, hi, hl, hw, hb => List.eq_nil_of_length_eq_zero hl
  | s :: r, f :: fields, o, n, cs, xs, hf, hx, hi, hl, hw, hb => by
    simp only [Sh.fitsAll, Bool.and_eq_true, beq_iff_eq] at hf
    obtain ⟨⟨⟨hf, hsz⟩, ho⟩, hfr⟩ := hf
    cases xs with
    | nil => simp at hx
    | cons y ys =>
      simp only [Sh.sizes] at hl
      have h0 := hi 0 f rfl
      rw [ho, Nat.sub_self, List.drop_zero, hsz] at h0
      simp only [List.getElem?_cons_zero] at h0
      refine ⟨cs.take s.size, cs.drop s.size, (List.take_append_drop _ _).symm, Sh.holds_of s f.type n _ y hf h0 (fun k hk => hw k (by simp only [List.map_cons, DataW.weightsEach, List.mem_append]; exact .inl hk)) ?_,
        Sh.holdsAll_of r fields (o + s.size) n (cs.drop s.size) ys hfr (by simpa using hx) (fun i g hg => ?_) (by rw [List.length_drop]; omega) (fun k hk => hw k (by simp only [List.map_cons, DataW.weightsEach, List.mem_append]; exact .inr hk)) ?_⟩
      · rcases hb with hb | hb
        · exact .inl hb
        · simp only [List.map_cons, Rows.uptoBulkAll] at hb
          exact .inr (by omega)
      · have h1 := hi (i + 1) g (by simpa using hg)
        have hle : o + s.size ≤ g.offset := fits_off r fields (o + s.size) hfr i g hg
        rw [List.drop_drop, show s.size + (g.offset - (o + s.size)) = g.offset - o by omega]
        simpa using h1
      · rcases hb with hb | hb
        · exact .inl hb
        · simp only [List.map_cons, Rows.uptoBulkAll] at hb
          exact .inr (by omega)
  | [], _ :: _, o, n, cs, xs, hf, hx, hi, hl, hw, hb => by simp [Sh.fitsAll] at hf
  | _ :: _, [], o, n, cs, xs, hf, hx, hi, hl, hw, hb => by simp [Sh.fitsAll] at hf
end

/-- An argument. -/
theorem Sh.opened {s : Sh} {t : TypeId} {v : Value} {d : DataW H} {p : List MemPlace} {ts : List TypeId} {ds : List (DataW H)} (hs : s.fits P t = true) (h : DataW.Trod enc P w base (fun _ => true) held t v d p)
    (hsz : (DataW.weightsEach P ts ds).all (· ≤ reachBytes) = true) (j : Nat) (ht : ts[j]? = some t) (hd : ds[j]? = some d) (N : Nat) (hb : N = 9223372036854775807 ∨ Rows.uptoBulkAll ds ≤ N) : s.holds w N v.cells.toList := by
  obtain ⟨fuel, hf⟩ := h
  refine Sh.holds_of s t fuel v.cells.toList _ hs hf (fun n hn => ?_) ?_
  · have := List.all_eq_true.1 hsz n (DataW.weights_mem_each ht hd n hn)
    simpa using this
  · rcases hb with hb | hb
    · exact .inl hb
    · exact .inr (Nat.le_trans (spare_bulk ds j d hd) hb)
end
end Go.Proofs.Ytokldploloncgaa
