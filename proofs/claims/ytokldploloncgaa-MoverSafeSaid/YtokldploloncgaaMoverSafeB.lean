/-
  The walk through MoverSafe: whatever cycles are given, the law answers true.
-/
import Derived.Test.YtokldploloncgaaMoverSafeA
import Derived.Test.YtokldploloncgaaOpen
import Derived.Deep.DeepCutAuto
import Derived.Deep.CutBlock
import Derived.Maps.AppendAt
namespace Go.Proofs.Ytokldploloncgaa.mover
open Go.RowKit

/-- What a cycle's row of late commands is in memory. -/
def Lates (w : World) (la : Option Addr) (ln : Nat) : Prop :=
  ln = 0 ∨ ∃ b o, la = some ⟨b, o, none⟩ ∧ b < w.heap.size ∧ ∀ j, j < ln → ∃ n, w.cell? ⟨b, o + j, none⟩ = some (.int .i64 n) ∧ (-9223372036854775808 ≤ n ∧ n ≤ 9223372036854775807)
/-- A cycle in memory. -/
def CycleAt (w : World) (b o : Nat) : Prop :=
  ∃ (cmd : Int) (la : Option Addr) (ln lc : Nat) (s k : Bool), w.cell? ⟨b, o, none⟩ = some (.int .i64 cmd) ∧ w.cell? ⟨b, o + 1, none⟩ = some (.slice la ln lc) ∧ w.cell? ⟨b, o + 2, none⟩ = some (.bool s) ∧ w.cell? ⟨b, o + 3, none⟩ = some (.bool k) ∧
    ln ≤ 9223372036854775807 ∧ Lates w la ln

/-- The two cells of the mover. -/
structure Mv (w : World) (M : Nat) (c o : Int) : Prop where
  c0 : w.cell? ⟨M, 0, none⟩ = some (.int .i64 c)
  c1 : w.cell? ⟨M, 1, none⟩ = some (.int .i64 o)
  free : ∀ o, w.frozen? ⟨M, o, none⟩ = false
theorem Mv.below {w w' : World} {M : Nat} {c o : Int} (h : Mv w M c o) (hb : Below w.heap.size w w') : Mv w' M c o :=
  have hM : M < w.heap.size := World.block_lt_of_cell? w _ h.c0
  ⟨(hb.cell (p := ⟨M, 0, none⟩) hM).trans h.c0, (hb.cell (p := ⟨M, 1, none⟩) hM).trans h.c1, fun o => (hb.frozen (p := ⟨M, o, none⟩) hM).trans (h.free o)⟩
theorem Mv.grown {w w' : World} {M : Nat} {c o : Int} {row : Option Nat} (h : Mv w M c o) (hb : w.grownBy w' row) (hne : some M ≠ row) : Mv w' M c o :=
  have hM : M < w.heap.size := World.block_lt_of_cell? w _ h.c0
  have e := hb.block M hM hne
  ⟨(World.cell?_of_block (a := ⟨M, 0, none⟩) e).trans h.c0, (World.cell?_of_block (a := ⟨M, 1, none⟩) e).trans h.c1, fun o => (World.frozen?_of_block (a := ⟨M, o, none⟩) e).trans (h.free o)⟩

/-- What holds at the head of every cycle. -/
structure St (w0 : World) (T M : Nat) (age : Int) (k : Nat) (wr : World) (cs : List Int) (c o pos aim st : Int) (pr : Bool) (v : Value) : Prop where
  thing : Thing wr T pos aim st
  mv : Mv wr M c o
  own : wr.ownsRow (M + 1) 3 1 v cs.length (cs.map (Value.int .i64))
  below : Below w0.heap.size w0 wr
  inv : Inv age k cs c o pos aim pr

theorem grown_of_below {w w' : World} (hb : Below w.heap.size w w') (row : Option Nat) : w.grownBy w' row := ⟨hb.os, hb.tape, hb.output, hb.size, fun i hi _ => hb.block i hi⟩
theorem own_not {w : World} {base e size n T : Nat} {v : Value} {xs : List Value} (h : w.ownsRow base e size v n xs) (hT : T < base) : v.ownBlock = none ∨ v.ownBlock ≠ some T := by
  cases hv : v.ownBlock with
  | none => exact .inl rfl
  | some g => exact .inr fun e => by have := h.lt g hv; injection e with e; omega
theorem below_of_grown {w0 a b : World} {T : Nat} (h : Below w0.heap.size w0 a) (k : a.grownBy b (some T)) (hT : w0.heap.size ≤ T) : Below w0.heap.size w0 b :=
  h.grown k h.size (fun j hj => by injection hj with hj; omega)
theorem own_ne {w : World} {base e size n T : Nat} {v : Value} {xs : List Value} (h : w.ownsRow base e size v n xs) (hT : T < base) : some T ≠ v.ownBlock := fun q => by have := (h.lt T q.symm).1; omega
theorem St.later {w0 wr w' : World} {T M k : Nat} {age c o pos aim st : Int} {cs : List Int} {pr : Bool} {v : Value} (h : St w0 T M age k wr cs c o pos aim st pr v) (hb : Below wr.heap.size wr w') : St w0 T M age k w' cs c o pos aim st pr v :=
  ⟨h.thing.below hb, h.mv.below hb, h.own.kept (grown_of_below hb none) (by cases v.ownBlock <;> simp), below_step h.below hb, h.inv⟩
theorem St.moved {w0 wr w' : World} {T M k : Nat} {age c o pos aim st pos' aim' st' : Int} {cs : List Int} {pr : Bool} {v : Value} (h : St w0 T M age k wr cs c o pos aim st pr v) (hT : w0.heap.size ≤ T) (hTM : T < M)
    (hg : wr.grownBy w' (some T)) (ht : Thing w' T pos' aim' st') (hi : Inv age k cs c o pos' aim' pr) : St w0 T M age k w' cs c o pos' aim' st' pr v :=
  ⟨ht, h.mv.grown hg (by simp; omega), h.own.kept hg (own_not h.own (by omega)), below_of_grown h.below hg hT, hi⟩

/-- Behind the mover's own command. -/
theorem St.gives {w0 wr w5 : World} {T M k : Nat} {age c o pos aim st : Int} {cs : List Int} {pr : Bool} {v : Value} (h : St w0 T M age k wr cs c o pos aim st pr v) (hT : w0.heap.size ≤ T) (hTM : T < M) (hb : Below wr.heap.size wr w5) (cm oth : Int) :
    Thing ((w5.setCell ⟨M, 0, none⟩ (.int .i64 cm)).setCell ⟨M, 1, none⟩ (.int .i64 oth)) T pos aim st ∧ Mv ((w5.setCell ⟨M, 0, none⟩ (.int .i64 cm)).setCell ⟨M, 1, none⟩ (.int .i64 oth)) M cm oth ∧
      ((w5.setCell ⟨M, 0, none⟩ (.int .i64 cm)).setCell ⟨M, 1, none⟩ (.int .i64 oth)).ownsRow (M + 1) 3 1 v cs.length (cs.map (Value.int .i64)) ∧ Below w0.heap.size w0 ((w5.setCell ⟨M, 0, none⟩ (.int .i64 cm)).setCell ⟨M, 1, none⟩ (.int .i64 oth)) ∧
      wr.grownBy ((w5.setCell ⟨M, 0, none⟩ (.int .i64 cm)).setCell ⟨M, 1, none⟩ (.int .i64 oth)) (some M) := by
  have h5 := h.later hb
  have hg : w5.grownBy ((w5.setCell ⟨M, 0, none⟩ (.int .i64 cm)).setCell ⟨M, 1, none⟩ (.int .i64 oth)) (some M) := grown_set (grown_set (grown_refl _ _) _ _) _ _
  refine ⟨h5.thing.grown hg (by simp; omega), ⟨?_, ?_, fun x => ?_⟩, h5.own.kept hg (own_not h5.own (by omega)), below_of_grown h5.below hg (by omega), grown_trans (grown_of_below hb _) hg⟩
  · rw [World.cell?_setCell_other _ _ _ _ (by simp)]; exact World.cell?_setCell_same' _ _ _ (by simp [h5.mv.c0])
  · refine World.cell?_setCell_same' _ _ _ ?_
    rw [World.cell?_setCell_other _ _ _ _ (by simp)]; simp [h5.mv.c1]
  · rw [World.frozen?_setCell, World.frozen?_setCell]; exact h5.mv.free x

theorem info_int : (Try.prog.info? 3).map (fun i => (i.zero, i.size, i.bytes)) = some (some (.int .i64 0), 1, 8) := by kernel_rfl

theorem late_in (n age : Int) (h : 1 ≤ 1 + age ∧ 1 + age ≤ 6) : ∃ d : Nat, wrap64 ((IntKind.u64.wrap n).tmod (1 + age + 1)) = (d : Int) ∧ (d : Int) ≤ 1 + age := by
  have h0 : 0 ≤ IntKind.u64.wrap n := by simp [IntKind.wrap, IntKind.bits, IntKind.signed]; omega
  have h1 := Int.emod_nonneg (IntKind.u64.wrap n) (b := 1 + age + 1) (by omega)
  have h2 := Int.emod_lt_of_pos (IntKind.u64.wrap n) (b := 1 + age + 1) (by omega)
  rw [Int.tmod_eq_emod_of_nonneg h0]
  rw [IntWalk.wrap64_in _ (by omega)]
  exact ⟨((IntKind.u64.wrap n) % (1 + age + 1)).toNat, by omega, by omega⟩

theorem mod6_in (n : Int) : 1 ≤ 1 + wrap64 ((IntKind.u64.wrap n).tmod 6) ∧ 1 + wrap64 ((IntKind.u64.wrap n).tmod 6) ≤ 6 := by
  have h : 0 ≤ IntKind.u64.wrap n := by simp [IntKind.wrap, IntKind.bits, IntKind.signed]; omega
  rw [Int.tmod_eq_emod_of_nonneg h]
  rw [IntWalk.wrap64_in _ (by omega)]
  omega

set_option maxRecDepth 100000 in
set_option maxHeartbeats 1000000 in
theorem safe_any (a0 f0 : Int) (b off len cap : Nat) (w : World) (hlen : len * 40 ≤ 140737488351232) (hbw : b < w.heap.size) (hcy : ∀ i, i < len → CycleAt w b (off + i * 4)) :
    Calls Try.prog 4 #[.int .i64 a0, .int .i64 f0, .slice (some ⟨b, off, none⟩) len cap] w fun e w' => e = .returned (.bool true) ∧ Below w.heap.size w w' := by
  obtain ⟨age, hage⟩ : ∃ A, wrap64 ((IntKind.u64.wrap a0).tmod 6) = A := ⟨_, rfl⟩
  obtain ⟨fs, hfs⟩ : ∃ A, wrap64 ((IntKind.u64.wrap f0).tmod 2) = A := ⟨_, rfl⟩
  have hab := mod6_in a0
  rw [hage] at hab
  go_enter Try.func4, Try.ntmps4
  go_wp2_with (first
    | (go_at_call 14; refine (lives_any _).mono ?_; rintro e w1 ⟨rfl, hb1⟩; obtain ⟨c1, f1⟩ := below_reads hb1)
    | (go_at_call 15; refine (start_any _ _).mono ?_; rintro e w2 ⟨rfl, hb2⟩; obtain ⟨c2, f2⟩ := below_reads hb2))
  have s1 := hb1.size
  have s2 := hb2.size
  simp at s2
  generalize hF : wrap64 (1 + fs) = F at *
  obtain ⟨W0, hW0⟩ : ∃ W0, w2.alloc (Obj.cells #[Value.int IntKind.i64 0, Value.int IntKind.i64 (-1)] 23) = W0 := ⟨_, rfl⟩
  have hth : Thing W0 w1.heap.size F F (-1) := by
    have h2 : Thing w2 w1.heap.size F F (-1) := ⟨by rw [c2 _ _ (by simp)]; simp, by rw [c2 _ _ (by simp)]; simp, by rw [c2 _ _ (by simp)]; simp, fun o => by rw [f2 _ _ (by simp)]; simp⟩
    rw [← hW0]
    exact h2.below (below_new (Below.refl _ _) _)
  have hmv : Mv W0 w2.heap.size 0 (-1) := by
    rw [← hW0]
    exact ⟨by simp, by simp, fun o => by simp⟩
  have hbl : Below w.heap.size w W0 := by rw [← hW0]; repeat (first | assumption | exact Below.refl _ _ | refine below_new ?_ _ | refine below_step ?_ (by assumption))
  have hTM : w1.heap.size < w2.heap.size := by omega
  have hwT : w.heap.size ≤ w1.heap.size := by omega
  rw [hW0]
  clear hW0 c1 f1 c2 f2 hb1 hb2 hage hfs hF s1 s2
  generalize w1.heap.size = T at *
  generalize w2.heap.size = M at *
  have hst : St w T M (1 + age) 0 W0 [] 0 (-1) F F (-1) false (.slice none 0 0) :=
    ⟨hth, hmv, World.ownsRow_nil _ _ _ _, hbl, ⟨rfl, by omega, fun _ _ h => by omega, .inr rfl, fun h => by cases h⟩⟩
  clear hth hmv hbl
  go_loopg [38, 9, 10] len (fun m i v p wr => ∃ (k : Nat) (cs : List Int) (c o pos aim st : Int) (pr : Bool), k + m = len ∧ i = .int .i64 k ∧ p = .bool pr ∧ St w T M (1 + age) k wr cs c o pos aim st pr v)
  case atStart => exact ⟨0, [], 0, -1, F, F, -1, false, by omega, rfl, rfl, hst⟩
  case round =>
    clear hst
    obtain ⟨k, cs, c, o, pos, aim, st, pr, hkm, rfl, rfl, hst⟩ := hrel
    obtain ⟨wo, rfl⟩ : ∃ wo : World, wo = wr := ⟨_, rfl⟩
    by_cases hk : k < len
    · obtain ⟨cmd, la, ln, lc, sd, lk, y0, y1, y2, y3, hln, hlate⟩ := hcy k hk
      have z0 := (hst.below.cell (p := ⟨b, off + k * 4, none⟩) hbw).trans y0
      have z1 := (hst.below.cell (p := ⟨b, off + k * 4 + 1, none⟩) hbw).trans y1
      have z2 := (hst.below.cell (p := ⟨b, off + k * 4 + 2, none⟩) hbw).trans y2
      have z3 := (hst.below.cell (p := ⟨b, off + k * 4 + 3, none⟩) hbw).trans y3
      have hkl : (k : Int) < (len : Int) := by omega
      have hkd : decide ((k : Int) < (len : Int)) = true := by simpa using hk
      clear y0 y1 y2 y3
      go_upto_if 49 with (fail)
      obtain ⟨W1, hW1⟩ : ∃ W1, wo.alloc (Obj.cells #[Value.int IntKind.i64 cmd, Value.slice la ln lc, Value.bool sd, Value.bool lk] 39) = W1 := ⟨_, rfl⟩
      have q1 : W1.cell? ⟨wo.heap.size, 1, none⟩ = some (.slice la ln lc) ∧ W1.cell? ⟨wo.heap.size, 2, none⟩ = some (.bool sd) ∧ W1.cell? ⟨wo.heap.size, 3, none⟩ = some (.bool lk) := by
        rw [← hW1]; simp
      have hs1 := hst.later (w' := W1) (by rw [← hW1]; exact below_new (Below.refl _ _) _)
      have hC : M < wo.heap.size := World.block_lt_of_cell? _ _ hst.mv.c0
      have hoC : u9.ownBlock ≠ some wo.heap.size := fun e => by have := (hst.own.lt _ e).2; omega
      rw [hW1]
      clear hW1 z0 z1 z2 z3 hst hkl
      generalize wo.heap.size = C at *
      obtain ⟨q1, q2, q3⟩ := q1
      have g0 := hs1.mv.c0
      have g1 := hs1.mv.c1
      go_cut [13] (fun s13 wx => ∃ cm : Int, s13 = .int .i64 cm ∧ W1 = wx)
      case first =>
        go_wp2
        all_goals
          go_meet
          case rel => exact ⟨_, rfl, rfl⟩
      case rest =>
        obtain ⟨cm, rfl, rfl⟩ := hcut
        go_upto_if 55 with (fail)
        have t0 := hs1.thing.c0
        have t1 := hs1.thing.c1
        have tf := hs1.thing.free 0
        go_cut [] (fun wx => ∃ p' : Int, W1.grownBy wx (some T) ∧ St w T M (1 + age) k wx cs c o p' aim st pr u9)
        case first =>
          have H := Lib.hid hs1
          clear hs1
          cases sd
          · go_wp2
            go_meet
            case rel => exact ⟨pos, grown_refl _ _, H.out⟩
          · go_wp2
            go_meet
            case rel => exact ⟨aim, grown_set (grown_refl _ _) _ _, H.out.moved hwT hTM (grown_set (grown_refl _ _) _ _) (H.out.thing.set0 aim) H.out.inv.stands⟩
        case rest =>
          obtain ⟨p', hg1, hs2⟩ := hcut
          have q1' : wc.cell? ⟨C, 1, none⟩ = some (.slice la ln lc) := hg1.cell q1 (by simp; omega)
          have q3' : wc.cell? ⟨C, 3, none⟩ = some (.bool lk) := hg1.cell q3 (by simp; omega)
          have hin : ∀ p : Addr, p.block < w.heap.size → wc.cell? p = w.cell? p := fun p hp => hs2.below.cell hp
          clear t0 t1 tf q1 q2 q3 hg1 hs1 g0 g1
          obtain ⟨W2, rfl⟩ : ∃ W2, W2 = wc := ⟨_, rfl⟩
          have t0 := hs2.thing.c0
          have g0 := hs2.mv.c0
          have g1 := hs2.mv.c1
          go_upto_region 19 with (fail)
          go_cut [10, 72] (fun s10 s72 wx => s10 = .bool pr ∧ s72 = .bool false ∧ W2 = wx)
          case first =>
            by_cases hp : pr = true
            · have hp1 := (hs2.inv.proved hp).1
              have hpc : (p' != c) = false := by simpa using hp1
              have H1 := Lib.hid hp1
              have H2 := Lib.hid hs2
              clear hp1 hs2
              go_wp2
              all_goals
                go_meet
                case rel => exact ⟨by rw [hp], by simp, rfl⟩
            · obtain rfl : pr = false := by simpa using hp
              go_wp2
              all_goals
                go_meet
                case rel => exact ⟨rfl, by simp, rfl⟩
          case rest =>
            obtain ⟨rfl, rfl, rfl⟩ := hcut
            go_upto_region 21 with (fail)
            go_cut [82] (fun s82 wx => ∃ B : Bool, s82 = .bool B ∧ (B = true → prv c o p' k true (1 + age) = true) ∧ Below W2.heap.size W2 wx)
            case first =>
              have H := Lib.hid hs2
              clear hs2 hin q1' hcy
              cases lk
              · go_wp2
                go_meet
                case rel => exact ⟨false, by simp, fun h => (by cases h), Below.refl _ _⟩
              · go_wp2_with (go_at_call 18; refine (proven_any _ _ _ _ _ _ _).mono ?_; rintro e w3 ⟨rfl, hb3⟩)
                go_meet
                case rel => exact ⟨prv c o p' k true (1 + age), by simp, id, hb3⟩
            case rest =>
              obtain ⟨B, rfl, hB, hb3⟩ := hcut
              obtain ⟨W3, rfl⟩ : ∃ W3, W3 = wc := ⟨_, rfl⟩
              have hs3 := hs2.later hb3
              have q3 : W3.cell? ⟨C, 1, none⟩ = some (.slice la ln lc) := (hb3.cell (p := ⟨C, 1, none⟩) (World.block_lt_of_cell? _ _ q1')).trans q1'
              have t0 := hs3.thing.c0
              have g0 := hs3.mv.c0
              have g1 := hs3.mv.c1
              have mf := hs3.mv.free
              have hM3 : M < W3.heap.size := World.block_lt_of_cell? _ _ g0
              clear q1' q3' hin hs2 hb3
              go_upto_if 82 with (fail)
              go_cut [10] (fun s10 wx => ∃ pr' : Bool, s10 = .bool pr' ∧ W3 = wx ∧ Inv (1 + age) k cs c o p' aim pr')
              case first =>
                have H := Lib.hid hs3
                clear hs3
                cases B
                · clear hB
                  go_wp2
                  go_meet
                  case rel => exact ⟨pr, rfl, rfl, H.out.inv⟩
                · have h2 := hB rfl
                  have hI := Lib.hid (H.out.inv.seen hab h2)
                  have hpc : (p' != c) = false := by
                    simp only [prv, Bool.true_and, Bool.and_eq_true, beq_iff_eq] at h2
                    simpa using h2.1.2
                  clear h2 hB
                  go_wp2
                  go_meet
                  case rel => exact ⟨true, rfl, rfl, hI.out⟩
              case rest =>
                obtain ⟨pr', rfl, rfl, hinv⟩ := hcut
                have hs4 : St w T M (1 + age) k W3 cs c o p' aim st pr' u9 := ⟨hs3.thing, hs3.mv, hs3.own, hs3.below, hinv⟩
                clear hs3 hinv hB
                go_upto_if 94 with (go_at_call 16; refine (command_any _ _ _ _ _).mono ?_; rintro e w5 ⟨rfl, hb5⟩; obtain ⟨c5, f5⟩ := below_reads hb5; have c5' := (c5 M 0 (by assumption)).trans g0; have c5'' := (c5 M 1 (by assumption)).trans g1; have f50 := (f5 M 0 (by assumption)).trans (mf 0); have f51 := (f5 M 1 (by assumption)).trans (mf 1))
                obtain ⟨k1, k2, k3, k4, k5⟩ := hs4.gives hwT hTM hb5 cm (othOf c o k cm)
                have q4 := k5.cell q3 (by simp; omega)
                have hI := hs4.inv.command cm
                obtain ⟨W4, hW4⟩ : ∃ W4, (w5.setCell ⟨M, 0, none⟩ (.int .i64 cm)).setCell ⟨M, 1, none⟩ (.int .i64 (othOf c o k cm)) = W4 := ⟨_, rfl⟩
                rw [hW4] at k1 k2 k3 k4 q4 ⊢
                clear hW4 k5 c5 f5 c5' c5'' f50 f51 g0 g1 mf hM3 t0 q3 hs4 hb5
                have g0 := k2.c0
                have hM4 : M < W4.heap.size := World.block_lt_of_cell? _ _ g0
                go_cut [10] (fun s10 wx => s10 = .bool (pr' && c == cm) ∧ W4 = wx)
                case first =>
                  have H := Lib.hid hI
                  clear hI k1 k2 k3 k4 q4
                  by_cases hc : c = cm
                  · subst hc
                    go_wp2
                    go_meet
                    case rel => exact ⟨by simp, rfl⟩
                  · have hc1 : (cm != c) = true := by simpa using fun h => hc h.symm
                    have hc2 : (c == cm) = false := by simpa using hc
                    go_wp2
                    go_meet
                    case rel => exact ⟨by simp [hc2], rfl⟩
                case rest =>
                  obtain ⟨rfl, rfl⟩ := hcut
                  generalize (pr' && c == cm) = pr'' at *
                  generalize othOf c o k cm = o' at *
                  obtain ⟨i0, hi, hz0, hz1, hz2⟩ := info_parts info_int
                  have hcl : cs.length = k := by have := hI.len; simp at this; omega
                  have HH := Lib.hid hI
                  clear hI
                  go_upto_block 2 with (at_builtin; refine wpList_append_own _ rfl _ _ 37 rfl (M + 1) 3 i0 (.int .i64 0) 1 8 Try.underlying37 hi hz0 hz1 hz2 rfl (by decide) _ _ _ rfl (k3.alloc _) ⟨W4.heap.size, 0, none⟩ 1 1 [.int .i64 cm] rfl rfl (cell_one_new _ _ _) (ints_oneCell .i64 [cm]) (by unfold maxLen; omega) (by omega) (by simp; omega) ?_; intro v' w6 hown' hgrow _; have q5 := hgrow.cell (a := ⟨C, 1, none⟩) ((World.cell?_alloc_lt _ _ _ (World.block_lt_of_cell? _ _ q4)).trans q4) (Ne.symm hoC))
                  have hneT : some T ≠ u9.ownBlock := own_ne k3 (by omega)
                  have hneM : some M ≠ u9.ownBlock := own_ne k3 (by omega)
                  have hnew : Below W4.heap.size W4 (W4.alloc (.cells #[.int .i64 cm] 3)) := below_new (Below.refl _ _) _
                  have hs6 : St w T M (1 + age) (k + 1) w6 (cs ++ [cm]) cm o' p' aim st pr'' v' :=
                    ⟨(k1.below hnew).grown hgrow hneT, (k2.below hnew).grown hgrow hneM, by simpa using hown', (below_new k4 _).grown hgrow (by have := k4.size; simp; omega) (fun j hj => by have := (k3.lt _ hj).1; omega), HH.out⟩
                  obtain ⟨g, cap', hv'⟩ : ∃ g cap', v' = .slice (some ⟨g, 0, none⟩) (k + 1) cap' := by
                    rcases hown'.2 with ⟨_, h⟩ | ⟨g, cap', _, h, _⟩
                    · omega
                    · exact ⟨g, cap', by rw [h, hcl]⟩
                  subst hv'
                  have hlate6 : Lates w la ln := hlate
                  have hwb : Below w.heap.size w w6 := hs6.below
                  clear hgrow hown' hnew hneT hneM k1 k2 k3 k4 q4 q5 g0 hM4 HH hoC hlate hi hz0 hz1 hz2
                  rcases hlate6 with rfl | ⟨lb, lo, rfl, hlb, hlc⟩
                  · go_wp2
                    refine wp_loop_rounds 1 ?_
                    rw [rounds_succ]
                    go_wp2
                    go_roundg (len - k - 1)
                    case measure => omega
                    case rel => exact ⟨k + 1, cs ++ [cm], cm, o', p', aim, st, pr'', by omega, by go_num, rfl, hs6⟩
                  · go_wp2
                    have hlb6 : lb < w6.heap.size := by have := hwb.size; omega
                    go_loopg [103] ln (fun m i wr => ∃ (j : Nat) (pos' aim' st' : Int), j + m = ln ∧ i = .int .i64 j ∧ St w T M (1 + age) (k + 1) wr (cs ++ [cm]) cm o' pos' aim' st' pr'' (.slice (some ⟨g, 0, none⟩) (k + 1) cap'))
                    case atStart => exact ⟨0, p', aim, st, by omega, rfl, hs6⟩
                    case round =>
                      clear hs6 hwb
                      obtain ⟨j, pos', aim', st', hjm, rfl, hs7⟩ := hrel
                      obtain ⟨w7, rfl⟩ : ∃ w7 : World, w7 = wr := ⟨_, rfl⟩
                      by_cases hj : j < ln
                      · obtain ⟨n, hn, hnb⟩ := hlc j hj
                        have y0 := (hs7.below.cell (p := ⟨lb, lo + j, none⟩) hlb).trans hn
                        have hjd : decide ((j : Int) < (ln : Int)) = true := by simpa using hj
                        obtain ⟨d, hd, hda⟩ := late_in n age hab
                        by_cases hdk : d ≤ k
                        · have hcell : w7.cell? ⟨g, k - d, none⟩ = some (.int .i64 ((cs ++ [cm]).getD (k - d) 0)) := by
                            have e : (cs ++ [cm]).length = k + 1 := by simp [hcl]
                            have h0 := hs7.own
                            rw [e] at h0
                            have h1 := h0.cellAt (k - d) (by omega)
                            have h2 : k - d < (cs ++ [cm]).length := by simp; omega
                            rw [h1, List.getElem?_map, List.getD_eq_getElem?_getD, List.getElem?_eq_getElem h2]
                            rfl
                          have hdd : decide ((d : Int) ≤ (k : Int)) = true := by simpa using hdk
                          have hkn : (0 : Int) ≤ (k : Int) - d := by omega
                          have H := Lib.hid hs7
                          clear hs7
                          go_wp2_with (go_at_call 20; refine (arrives_any T _ _ _ _ _ _ H.out.thing).mono ?_; rintro e w8 ⟨rfl, ht8, hg8⟩)
                          go_roundg (ln - j - 1)
                          case measure => omega
                          case rel => exact ⟨j + 1, _, _, _, by omega, by go_num, H.out.moved hwT hTM hg8 ht8 (H.out.inv.arrives _ d hda hdk)⟩
                        · have hdd : decide ((d : Int) ≤ (k : Int)) = false := by simpa using hdk
                          go_wp2
                          go_roundg (ln - j - 1)
                          case measure => omega
                          case rel => exact ⟨j + 1, pos', aim', st', by omega, by go_num, hs7⟩
                      · have hjd : decide ((j : Int) < (ln : Int)) = false := by simpa using hj
                        go_wp2
                        go_roundg (len - k - 1)
                        case measure => omega
                        case rel => exact ⟨k + 1, cs ++ [cm], cm, o', pos', aim', st', pr'', by omega, by go_num, rfl, hs7⟩
    · go_wp2
      go_ret
      exact ⟨rfl, hst.below⟩
end Go.Proofs.Ytokldploloncgaa.mover
