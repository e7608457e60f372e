/-
  Each of the three Puts, from where the statement stands to where it stands then.
-/
import Derived.Test.YtaamachonbkjoaaRingSit
namespace Go.Proofs.Ytaamachonbkjoaa.ring
open Go.RowKit

theorem Three.put1 {T : Three} {s2 s3 : Bool} {g : Nat} {w : World} (h : T.At false s2 s3 w) (hr : T.Row g T.m (.int .i64 0) w) :
    Calls Try.prog 18 #[.pointer (some ⟨T.b1, 0, none⟩), .slice (some ⟨g, 0, none⟩) T.m T.m] w fun e w' => e = .returned (.int .i64 T.d) ∧ T.At true s2 s3 w' ∧ T.Keeps w w' := by
  have ok := h.ok
  have o1 := ok.n1
  have o2 := ok.n2
  have o3 := ok.m64
  have o4 := hr.low
  obtain ⟨a1, a2, a3, a4⟩ := ok.a
  obtain ⟨b1, b2, b3, b4⟩ := ok.b
  obtain ⟨d1, d2, d3, d4, d5, d6⟩ := ok.d
  refine (int.put_as T.b1 T.p1 T.cap T.f1 T.lost T.q1 (List.replicate T.m 0) g 0 T.m T.m w h.i T.d _ _ List.length_replicate (Nat.le_refl _) (by omega) (by omega) (by omega) (replicate_cells hr.full) (by rw [ok.l1]; rfl) rfl rfl).mono ?_
  rintro e w' ⟨rfl, hi, ht⟩
  exact ⟨rfl, ⟨ok, hi, h.t.touch ht a1.symm a3.symm a2.symm a4.symm, h.p.touch ht b1.symm b3.symm b2.symm b4.symm, Touch.under h.below ht d1 d2, Nat.le_trans h.size ht.size⟩,
    fun g n z hg => ⟨hg.low, hg.full.touch ht (by have := hg.low; omega) (by have := hg.low; omega)⟩⟩

theorem Three.put2 {T : Three} {s1 s3 : Bool} {g : Nat} {w : World} (h : T.At s1 false s3 w) (hr : T.Row g T.m (.string ⟨#[]⟩) w) :
    Calls Try.prog 9 #[.pointer (some ⟨T.b2, 0, none⟩), .slice (some ⟨g, 0, none⟩) T.m T.m] w fun e w' => e = .returned (.int .i64 T.d) ∧ T.At s1 true s3 w' ∧ T.Keeps w w' := by
  have ok := h.ok
  have o1 := ok.n3
  have o2 := ok.n4
  have o3 := ok.m64
  have o4 := hr.low
  obtain ⟨a1, a2, a3, a4⟩ := ok.a
  obtain ⟨c1, c2, c3, c4⟩ := ok.c
  obtain ⟨d1, d2, d3, d4, d5, d6⟩ := ok.d
  refine (text.put_as T.b2 T.p2 T.cap T.f2 T.lost T.q2 (List.replicate T.m ⟨#[]⟩) g 0 T.m T.m w h.t T.d _ _ List.length_replicate (Nat.le_refl _) (by omega) (by omega) (by omega) (replicate_cells hr.full) (by rw [ok.l2]; rfl) rfl rfl).mono ?_
  rintro e w' ⟨rfl, hi, ht⟩
  exact ⟨rfl, ⟨ok, h.i.touch ht a1 a2 a3 a4, hi, h.p.touch ht c1.symm c3.symm c2.symm c4.symm, Touch.under h.below ht d3 d4, Nat.le_trans h.size ht.size⟩,
    fun g n z hg => ⟨hg.low, hg.full.touch ht (by have := hg.low; omega) (by have := hg.low; omega)⟩⟩

theorem Three.put3 {T : Three} {s1 s2 : Bool} {g : Nat} {w : World} (h : T.At s1 s2 false w) (hr : T.Row g (T.m * 2) (.int .i64 0) w) :
    Calls Try.prog 19 #[.pointer (some ⟨T.b3, 0, none⟩), .slice (some ⟨g, 0, none⟩) T.m T.m] w fun e w' => e = .returned (.int .i64 T.d) ∧ T.At s1 s2 true w' ∧ T.Keeps w w' := by
  have ok := h.ok
  have o1 := ok.n5
  have o2 := ok.n6
  have o3 := ok.m64
  have o4 := hr.low
  obtain ⟨b1, b2, b3, b4⟩ := ok.b
  obtain ⟨c1, c2, c3, c4⟩ := ok.c
  obtain ⟨d1, d2, d3, d4, d5, d6⟩ := ok.d
  refine (putP_any T.b3 T.p3 T.cap T.f3 T.k g T.m T.lost w h.p (by omega) (by omega) (by omega) hr.full.lt hr.full.cell T.d rfl _ rfl).mono ?_
  rintro e w' ⟨rfl, hi, ht⟩
  exact ⟨rfl, ⟨ok, h.i.touch ht b1 b2 b3 b4, h.t.touch ht c1 c2 c3 c4, hi, Touch.under h.below ht d5 d6, Nat.le_trans h.size ht.size⟩,
    fun g n z hg => ⟨hg.low, hg.full.touch ht (by have := hg.low; omega) (by have := hg.low; omega)⟩⟩
end Go.Proofs.Ytaamachonbkjoaa.ring
