/-
  Rows of our own beside a queue: what append makes of them, whatever is appended; a batch that came in, and what Put does with it.
-/
import Derived.Test.YtaamachonbkjoaaRingText
import Derived.Test.YtaamachonbkjoaaRingLives
import Derived.Test.YtaamachonbkjoaaOpen
import Derived.Maps.AppendAt
import Derived.Laws.AppendOwnNone
namespace Go.Proofs.Ytaamachonbkjoaa.ring
open Go.RowKit

theorem lt_size {w : World} {g : Nat} {o : Obj} (h : w.heap[g]? = some o) : g < w.heap.size := (Array.getElem?_eq_some_iff.1 h).1
theorem own_touch {w w' : World} {B e s n b p : Nat} {v : Value} {xs : List Value} (h : w.ownsRow B e s v n xs) (ht : Touch w w' b p) (hb : b < B) (hp : p < B) : w'.ownsRow B e s v n xs := by
  refine ⟨h.1, ?_⟩
  rcases h.2 with hn | ⟨g, cap, cur, hv, hg, hc, rest⟩
  · exact .inl hn
  · exact .inr ⟨g, cap, cur, hv, hg, (ht.block g (lt_size hc) (by omega) (by omega)).trans hc, rest⟩
theorem own_below {w w' : World} {B e s n : Nat} {v : Value} {xs : List Value} (h : w.ownsRow B e s v n xs) (ht : Below w.heap.size w w') : w'.ownsRow B e s v n xs := by
  refine ⟨h.1, ?_⟩
  rcases h.2 with hn | ⟨g, cap, cur, hv, hg, hc, rest⟩
  · exact .inl hn
  · exact .inr ⟨g, cap, cur, hv, hg, (ht.block g (lt_size hc)).trans hc, rest⟩
/-- Two rows of which neither has the other's block. -/
def Apart (u v : Value) : Prop := ∀ g, u.ownBlock = some g → v.ownBlock ≠ some g
theorem Apart.symm {u v : Value} (h : Apart u v) : Apart v u := fun g h1 h2 => h g h2 h1
theorem apart_nil (v : Value) : Apart (.slice none 0 0) v := fun g h => by cases h
/-- The other row is kept, and stays apart. -/
theorem own_beside {w w' : World} {B B' e e' s s' n n' : Nat} {u u' v : Value} {xs ys : List Value} (h : w.ownsRow B e s v n xs) (ha : Apart u v) (hg : w.grownBy w' u.ownBlock) (hat : u'.ownBlock = u.ownBlock ∨ u'.ownBlock = some w.heap.size)
    (_ : w'.ownsRow B' e' s' u' n' ys) : w'.ownsRow B e s v n xs ∧ Apart u' v := by
  constructor
  · refine h.kept hg ?_
    cases hv : v.ownBlock with
    | none => exact .inl rfl
    | some g => exact .inr fun e => ha g e.symm hv
  · intro g h1 h2
    rcases hat with e | e
    · exact ha g (e ▸ h1) h2
    · rw [e] at h1
      injection h1 with h1
      have := (h.lt g h2).2
      omega
theorem grown_refl' (w : World) (row : Option Nat) : w.grownBy w row := ⟨rfl, rfl, rfl, Nat.le_refl _, fun _ _ _ => rfl⟩
theorem ring_grown {V : Type} {enc : V → Value} {w w' : World} {b p cap first B n e s : Nat} {lost : Int} {q : List V} {v : Value} {xs : List Value} (h : RingAt enc w b p cap first lost q) (hown : w.ownsRow B e s v n xs) (hb : b < B) (hp : p < B) (hg : w.grownBy w' v.ownBlock) : RingAt enc w' b p cap first lost q :=
  h.grown hg (fun e1 => by have := (hown.lt b e1.symm).1; omega) (fun e1 => by have := (hown.lt p e1.symm).1; omega)
theorem below_row {w0 w w' : World} {B n e s : Nat} {v : Value} {xs : List Value} (h : Below w0.heap.size w0 w) (hown : w.ownsRow B e s v n xs) (hB : w0.heap.size ≤ B) (hg : w.grownBy w' v.ownBlock) : Below w0.heap.size w0 w' :=
  h.grown hg h.size (fun j hj => by have := (hown.lt j hj).1; omega)

section
variable {P : Program} {w : World}
/-- append to a row of one's own, of whatever slice: nil, empty or not. -/
theorem append_any {ops : Array Oper} {rest : List Oper} {o : Oper} {a : Act} {Q : Exit → Act → World → Prop} (hgd : o.guard = none) (s x : Operand) (t : TypeId)
    (ho : o.op = .call { callee := .builtin .append, args := #[s, x], argTypes := #[t, t] })
    (base : Nat) (e : TypeId) (i : TypeInfo) (z : Value) (size bytes : Nat) (ht : P.underlying t = some (.slice e)) (hi : P.info? e = some i) (hz : i.zero = some z)
    (hsize : i.size = size) (hby : i.bytes = bytes) (hzs : z.cells.size = size) (hsz : 0 < size)
    (v : Value) (n : Nat) (xs : List Value) (hs : a.eval s = v) (hown : w.ownsRow base e size v n xs)
    (ao : Option Addr) (m c : Nat) (news : List Value) (hx : a.eval x = .slice ao m c) (hao : ao = none → m = 0 ∧ c = 0) (hl : news.length = m * size) (hnews : ∀ ad, ao = some ad → ∀ j u, news[j]? = some u → w.cell? (ad.add j) = some u) (h1 : ∀ u ∈ news, u.oneCell' = true)
    (h63 : n + m ≤ maxLen) (hbytes : (n + m) * bytes ≤ 140737488355328) (hbase : base ≤ w.heap.size)
    (h : ∀ v' w', w'.ownsRow base e size v' (n + m) (xs ++ news) → w.grownBy w' v.ownBlock → (v'.ownBlock = v.ownBlock ∨ v'.ownBlock = some w.heap.size) → wpList P ops Q rest (a.put o.dst v') w') :
    wpList P ops Q (o :: rest) a w := by
  cases ao with
  | none =>
    obtain ⟨rfl, rfl⟩ := hao rfl
    have hn : news = [] := List.eq_nil_of_length_eq_zero (by simpa using hl)
    subst hn
    exact wpList_append_own_none hgd s x t ho base e i size ht hi v n xs hs hown hx (h v w (by simpa using hown) (grown_refl' _ _) (.inl rfl))
  | some ad =>
    exact wpList_append_own_at w hgd s x t ho base e i z size bytes ht hi hz hsize hby hzs hsz v n xs hs hown ad m c news hx hl (hnews ad rfl) h1 h63 hbytes hbase (fun v' w' k1 k2 _ k4 => h v' w' k1 k2 k4)
end

/-- A row of texts of one's own, as what SameTexts wants. -/
theorem own_texts {w : World} {B n : Nat} {v : Value} {L : List ByteArray} (h : w.ownsRow B 9 1 v n (L.map Value.string)) (hn : L.length = n) : ∃ a c, v = .slice a n c ∧ text.Holds w a L := by
  rcases h.2 with ⟨hv, h0⟩ | ⟨g, cap, cur, hv, hb, hg, h1, h2, h3, h4⟩
  · exact ⟨none, 0, by rw [hv, h0], .inl (List.length_eq_zero_iff.1 (by omega))⟩
  · refine ⟨some ⟨g, 0, none⟩, cap, hv, .inr ⟨g, 0, rfl, fun i x hx => ?_⟩⟩
    have := h.cells (g := g) (by rw [hv]; rfl) i (.string x) (by simp [hx])
    rw [plain_add] at this
    exact this

/-- A batch of texts that came in. -/
structure Batch (w : World) (ao : Option Addr) (ln lc : Nat) (L : List ByteArray) : Prop where
  len : L.length = ln
  le : ln ≤ lc
  max : lc ≤ 9223372036854775807
  nil : ao = none → lc = 0
  at' : ln = 0 ∨ ∃ g o, ao = some ⟨g, o, none⟩ ∧ g < w.heap.size ∧ ∀ i x, L[i]? = some x → w.cell? ⟨g, o + i, none⟩ = some (.string x)

theorem put_batch {w0 w : World} {b p cap first : Nat} {lost : Int} {q L : List ByteArray} {ao : Option Addr} {ln lc : Nat} (hB : Batch w0 ao ln lc L) (hw : Below w0.heap.size w0 w) (hb : w0.heap.size ≤ b) (hp : w0.heap.size ≤ p) (h : RingAt text.enc w b p cap first lost q)
    (d : Nat) (hd : ln - min ln (cap - q.length) = d) :
    Calls Try.prog 9 #[.pointer (some ⟨b, 0, none⟩), .slice ao ln lc] w fun e w' => e = .returned (.int .i64 d) ∧ RingAt text.enc w' b p cap first (text.lostBy lost d) (q ++ L.take (cap - q.length)) ∧ Touch w w' b p := by
  by_cases h0 : ln = 0
  · have hL : L = [] := List.eq_nil_of_length_eq_zero (by rw [hB.len, h0])
    have hnil := hB.nil
    have hmax := hB.max
    have hl : text.lostBy lost 0 = lost := by unfold text.lostBy; simpa using IntWalk.wrap64_in _ h.lostb
    obtain rfl : d = 0 := by omega
    subst h0
    rw [hl, hL]
    simpa using text.put_none b p cap first lost q ao lc w h hmax hnil
  · obtain ⟨g, o, rfl, hg, hc⟩ := hB.at'.resolve_left h0
    exact text.put_as b p cap first lost q L g o ln lc w h d _ _ hB.len hB.le hB.max (by omega) (by omega) (fun i x hx => (hw.cell (p := ⟨g, o + i, none⟩) hg).trans (hc i x hx)) hd rfl rfl

theorem info_string : (Try.prog.info? 9).map (fun i => (i.zero, i.size, i.bytes)) = some (some (.string ⟨#[]⟩), 1, 16) := by kernel_rfl
theorem texts_oneCell (L : List ByteArray) : ∀ u ∈ L.map Value.string, u.oneCell' = true := by
  intro u hu
  obtain ⟨x, -, rfl⟩ := List.mem_map.1 hu
  rfl
theorem mod4_in (n : Int) : ∃ c : Nat, wrap64 ((IntKind.u64.wrap n).tmod 4) = (c : Int) ∧ c ≤ 3 := by
  have h : 0 ≤ IntKind.u64.wrap n := by simp [IntKind.wrap, IntKind.bits, IntKind.signed]; omega
  rw [Int.tmod_eq_emod_of_nonneg h, IntWalk.wrap64_in _ (by omega)]
  exact ⟨((IntKind.u64.wrap n) % 4).toNat, by omega, by omega⟩
end Go.Proofs.Ytaamachonbkjoaa.ring
