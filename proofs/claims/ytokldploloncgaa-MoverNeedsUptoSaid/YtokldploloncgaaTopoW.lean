/-
  Check's yes is the document's: section by section, joint by joint (plain).
-/
import Derived.Test.YtokldploloncgaaTopoO
namespace Go.Proofs.Ytokldploloncgaa.topo

def SecP (S : List (Int × Int × Int)) (J : List (Int × Int × Int × Int)) (i : Nat) (x : Int × Int × Int) : Prop :=
  endsT x.1 ≠ 0 ∧ (0 ≤ x.2.1 ∧ x.2.1 ≤ 3) ∧ (0 ≤ x.2.2 ∧ x.2.2 ≤ 3) ∧ (x.2.2 = 0 ∨ x.1 = 0 ∧ (spots J).count ((i : Int), 1) = 0 ∧ ∀ m y, m < i → S[m]? = some y → y.2.2 ≠ x.2.2)
def JntP (S : List (Int × Int × Int)) (J : List (Int × Int × Int × Int)) (x : Int × Int × Int × Int) : Prop :=
  (0 ≤ x.1 ∧ x.1 < S.length) ∧ (0 ≤ x.2.2.1 ∧ x.2.2.1 < S.length) ∧ x.1 ≠ x.2.2.1 ∧ (0 ≤ x.2.1 ∧ x.2.1 < endsT (kindAt S x.1)) ∧ (0 ≤ x.2.2.2 ∧ x.2.2.2 < endsT (kindAt S x.2.2.1)) ∧
    (spots J).count (x.1, x.2.1) ≤ 1 ∧ (spots J).count (x.2.2.1, x.2.2.2) ≤ 1
/-- The document's yes. -/
structure RefP (S : List (Int × Int × Int)) (J : List (Int × Int × Int × Int)) : Prop where
  size : 1 ≤ S.length ∧ S.length ≤ 16
  joints : J.length ≤ 24
  secs : ∀ i x, S[i]? = some x → SecP S J i x
  jnts : ∀ x ∈ J, JntP S J x

theorem runS_iff {T : List (Int × Int)} : ∀ (r S0 : List (Int × Int × Int)), runS T S0.length (S0.map (·.2.2)) r = true ↔ ∀ i x, r[i]? = some x → secOk T (S0.length + i) ((S0 ++ r.take i).map (·.2.2)) x = true
  | [], S0 => by simp [runS]
  | x :: r, S0 => by
    have ih := runS_iff (T := T) r (S0 ++ [x])
    simp only [List.length_append, List.length_cons, List.length_nil, Nat.zero_add, List.map_append, List.map_cons, List.map_nil] at ih
    rw [runS, Bool.and_eq_true, ih]
    constructor
    · rintro ⟨h1, h2⟩ i y hy
      cases i with
      | zero =>
        simp only [List.getElem?_cons_zero, Option.some.injEq] at hy
        subst hy
        simpa using h1
      | succ i =>
        rw [List.getElem?_cons_succ] at hy
        have := h2 i y hy
        rw [List.take_succ_cons, List.map_append, List.map_cons, show S0.length + (i + 1) = S0.length + 1 + i by omega]
        simpa using this
    · intro h
      refine ⟨by simpa using h 0 x rfl, fun i y hy => ?_⟩
      have := h (i + 1) y (by rw [List.getElem?_cons_succ]; exact hy)
      rw [List.take_succ_cons, List.map_append, List.map_cons, show S0.length + (i + 1) = S0.length + 1 + i by omega] at this
      simpa using this

theorem secOk_iff {S : List (Int × Int × Int)} {J : List (Int × Int × Int × Int)} {i : Nat} {x : Int × Int × Int} (_hx : S[i]? = some x) : secOk (spots J) i ((S.take i).map (·.2.2)) x = true ↔ SecP S J i x := by
  have h1 : (spots J).contains ((i : Int), 1) = false ↔ (spots J).count ((i : Int), 1) = 0 := by
    rw [List.count_eq_zero]
    simp
  have h2 : ((S.take i).map (·.2.2)).count x.2.2 = 0 ↔ ∀ m y, m < i → S[m]? = some y → y.2.2 ≠ x.2.2 := by
    rw [List.count_eq_zero]
    constructor
    · intro h m y hm hy e
      refine h (List.mem_map.2 ⟨y, ?_, e⟩)
      refine List.mem_of_getElem? (i := m) ?_
      rw [List.getElem?_take, if_pos hm]
      exact hy
    · intro h hm
      obtain ⟨y, hy, e⟩ := List.mem_map.1 hm
      obtain ⟨m, hm2⟩ := List.getElem?_of_mem hy
      rw [List.getElem?_take] at hm2
      split at hm2
      · rename_i hmi
        exact h m y hmi hm2 e
      · cases hm2
  unfold secOk SecP
  simp only [Bool.and_eq_true, Bool.or_eq_true, decide_eq_true_eq, Bool.not_eq_true', h1, h2]
  constructor
  · rintro ⟨⟨a, b, c⟩, d⟩
    refine ⟨a, b, c, d.imp id ?_⟩
    rintro ⟨⟨e, f⟩, g⟩
    exact ⟨e, f, g⟩
  · rintro ⟨a, b, c, d⟩
    refine ⟨⟨a, b, c⟩, d.imp id ?_⟩
    rintro ⟨e, f, g⟩
    exact ⟨⟨e, f⟩, g⟩

theorem runJ_of {S : List (Int × Int × Int)} : ∀ (J : List (Int × Int × Int × Int)) (T : List (Int × Int)), (T ++ spots J).Nodup → (∀ x ∈ spots J, spotOk S x = true) → (∀ x ∈ J, x.1 ≠ x.2.2.1) → runJ S T J = true
  | [], T, _, _, _ => rfl
  | (a, ae, b, be) :: r, T, h1, h2, h3 => by
    have hsp : spots ((a, ae, b, be) :: r) = [(a, ae), (b, be)] ++ spots r := by simp [spots]
    rw [hsp] at h1 h2
    have h4 := (List.nodup_append.1 h1).2.2
    have h5 : (a, ae) ∉ T := fun hm => h4 _ hm (a, ae) (by simp) rfl
    have h6 : (b, be) ∉ T := fun hm => h4 _ hm (b, be) (by simp) rfl
    have h7 : ¬ (b, be) = (a, ae) := by
      have := (List.nodup_append.1 (List.nodup_append.1 h1).2.1).1
      simp only [List.nodup_cons, List.mem_singleton] at this
      exact fun e => this.1 e.symm
    have h8 := runJ_of r (T ++ [(a, ae), (b, be)]) (by simpa using h1) (fun x hx => h2 x (List.mem_append_right _ hx)) (fun x hx => h3 x (List.mem_cons_of_mem _ hx))
    have h9 := h3 (a, ae, b, be) List.mem_cons_self
    have s1 := h2 (a, ae) (by simp)
    have s2 := h2 (b, be) (by simp)
    simp only at h9
    rw [runJ, h8, runI, runI, runI, s1, s2]
    have c1 : T.contains (a, ae) = false := by simpa using h5
    have c2 : (T ++ [(a, ae)]).contains (b, be) = false := by
      have : (b, be) ∉ T ++ [(a, ae)] := fun hm => by
        rcases List.mem_append.1 hm with hm | hm
        · exact h6 hm
        · exact h7 (by simpa using hm)
      simpa using this
    rw [c1, c2]
    simpa using h9

theorem okT_iff (S : List (Int × Int × Int)) (J : List (Int × Int × Int × Int)) : okT S J = true ↔ RefP S J := by
  have hS := runS_iff (T := spots J) S []
  simp only [List.length_nil, List.map_nil, Nat.zero_add, List.nil_append] at hS
  constructor
  · intro h
    have hP := Plan.of_ok h
    simp only [okT, Bool.and_eq_true, decide_eq_true_eq] at h
    obtain ⟨⟨⟨h1, h2⟩, h3⟩, h4⟩ := h
    refine ⟨h1, h2, fun i x hx => (secOk_iff hx).1 (hS.1 h4 i x hx), fun x hx => ?_⟩
    have m1 : (x.1, x.2.1) ∈ spots J := List.mem_flatMap.2 ⟨x, hx, by obtain ⟨a, b, c, d⟩ := x; simp⟩
    have m2 : (x.2.2.1, x.2.2.2) ∈ spots J := List.mem_flatMap.2 ⟨x, hx, by obtain ⟨a, b, c, d⟩ := x; simp⟩
    have t1 := hP.there _ m1
    have t2 := hP.there _ m2
    simp only [spotOk, decide_eq_true_eq] at t1 t2
    exact ⟨⟨t1.1, t1.2.1⟩, ⟨t2.1, t2.2.1⟩, hP.apart x hx, t1.2.2, t2.2.2, List.nodup_iff_count.1 hP.nodup _, List.nodup_iff_count.1 hP.nodup _⟩
  · intro h
    have hnd : (spots J).Nodup := List.nodup_iff_count.2 fun y => by
      by_cases hy : y ∈ spots J
      · obtain ⟨x, hx, hm⟩ := List.mem_flatMap.1 hy
        obtain ⟨-, -, -, -, -, k1, k2⟩ := h.jnts x hx
        obtain ⟨a, b, c, d⟩ := x
        simp only [List.mem_cons, List.not_mem_nil, or_false] at hm
        rcases hm with rfl | rfl
        · exact k1
        · exact k2
      · rw [List.count_eq_zero.2 hy]
        omega
    have hth : ∀ y ∈ spots J, spotOk S y = true := fun y hy => by
      obtain ⟨x, hx, hm⟩ := List.mem_flatMap.1 hy
      obtain ⟨k1, k2, -, k3, k4, -, -⟩ := h.jnts x hx
      obtain ⟨a, b, c, d⟩ := x
      simp only [List.mem_cons, List.not_mem_nil, or_false] at hm
      simp only [spotOk, decide_eq_true_eq]
      rcases hm with rfl | rfl
      · exact ⟨k1.1, k1.2, k3⟩
      · exact ⟨k2.1, k2.2, k4⟩
    have hJ := runJ_of (S := S) J [] (by simpa using hnd) hth (fun x hx => (h.jnts x hx).2.2.1)
    simp only [okT, Bool.and_eq_true, decide_eq_true_eq]
    exact ⟨⟨⟨h.size, h.joints⟩, hJ⟩, hS.2 fun i x hx => (secOk_iff hx).2 (h.secs i x hx)⟩
end Go.Proofs.Ytokldploloncgaa.topo
