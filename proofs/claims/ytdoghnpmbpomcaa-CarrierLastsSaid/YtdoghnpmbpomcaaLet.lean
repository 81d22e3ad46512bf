/- Letters, and what a carrier is in a world. -/
import Derived.Test.YtdoghnpmbpomcaaDelF
import Derived.Maps.OwnSet
import Derived.Maps.AppendAt
namespace Go.Proofs.Ytdoghnpmbpomcaa
open Go.RowKit Go.Maps

structure Ltr where
  id : Nat
  dest : ByteArray
  body : ByteArray
  tm : Int
def Ltr.cells (l : Ltr) : List Value := [.int .u64 l.id, .string l.dest, .string l.body, .int .i64 l.tm]
def flat (ls : List Ltr) : List Value := ls.flatMap Ltr.cells
theorem flat_nil : flat [] = [] := rfl
theorem flat_cons (l : Ltr) (ls : List Ltr) : flat (l :: ls) = l.cells ++ flat ls := by simp [flat]
theorem flat_append (a b : List Ltr) : flat (a ++ b) = flat a ++ flat b := by simp [flat]
theorem flat_len : ∀ ls : List Ltr, (flat ls).length = ls.length * 4
  | [] => rfl
  | l :: ls => by rw [flat_cons, List.length_append, flat_len ls]; simp [Ltr.cells]; omega
theorem flat_drop : ∀ (k : Nat) (ls : List Ltr), (flat ls).drop (k * 4) = flat (ls.drop k)
  | 0, ls => by simp
  | k + 1, [] => by simp [flat_nil]
  | k + 1, l :: ls => by
    rw [flat_cons, List.drop_succ_cons, ← flat_drop k ls, show (k + 1) * 4 = l.cells.length + k * 4 by simp [Ltr.cells]; omega, List.drop_append, Nat.add_sub_cancel_left, List.drop_eq_nil_of_le (Nat.le_add_right _ _), List.nil_append]
theorem flat_take : ∀ (k : Nat) (ls : List Ltr), (flat ls).take (k * 4) = flat (ls.take k)
  | 0, ls => by simp [flat_nil]
  | k + 1, [] => by simp [flat_nil]
  | k + 1, l :: ls => by
    rw [flat_cons, List.take_succ_cons, flat_cons, ← flat_take k ls, show (k + 1) * 4 = l.cells.length + k * 4 by simp [Ltr.cells]; omega, List.take_append, Nat.add_sub_cancel_left, List.take_of_length_le (Nat.le_add_right _ _)]
theorem flat_at : ∀ (i j : Nat) (ls : List Ltr) (l : Ltr), ls[i]? = some l → j < 4 → (flat ls)[i * 4 + j]? = l.cells[j]?
  | 0, j, [], l, h, _ => by simp at h
  | 0, j, l' :: ls, l, h, hj => by
    simp at h
    subst h
    rw [flat_cons, List.getElem?_append_left (by simp [Ltr.cells]; omega)]
    simp
  | i + 1, j, [], l, h, _ => by simp at h
  | i + 1, j, l' :: ls, l, h, hj => by
    rw [flat_cons, List.getElem?_append_right (by simp [Ltr.cells]; omega)]
    rw [show (i + 1) * 4 + j - l'.cells.length = i * 4 + j by simp [Ltr.cells]; omega]
    exact flat_at i j ls l (by simpa using h) hj
theorem flat_one (ls : List Ltr) : ∀ u ∈ flat ls, u.oneCell' = true := by
  intro u hu
  obtain ⟨l, _, hl⟩ := List.mem_flatMap.1 hu
  simp [Ltr.cells] at hl
  rcases hl with rfl | rfl | rfl | rfl <;> rfl

/-- The letters ls lie in the row that the slice v owns, from block B on. -/
def owns (w : World) (B : Nat) (v : Value) (ls : List Ltr) : Prop := w.ownsRow B 40 4 v ls.length (flat ls)

def heldAs (v : Value) : Option (DataW Value × List MemPlace) := some (.held v, [])

/-- A carrier: two maps in blocks h and h+1, the struct in block h+2; every row of letters in a block of S. -/
def Car (h : Nat) (S : Nat → Prop) (N : Nat) (us : List Ltr) (G : ByteArray → List Ltr) (C : Nat → Nat) (w : World) : Prop :=
  ∃ (vu : Value) (F : ByteArray → Value) (D Dc : DataW Value),
    w.heap[h + 1 + 1]? = some (.cells #[vu, .map (some h), .map (some (h + 1))] 62 (0, 0)) ∧
    owns w (h + 3) vu us ∧ (∀ s, owns w (h + 3) (F s) (G s)) ∧
    (∀ s s', s ≠ s' → (F s).ownBlock = none ∨ (F s).ownBlock ≠ (F s').ownBlock) ∧
    (∀ s, (F s).ownBlock = none ∨ (F s).ownBlock ≠ vu.ownBlock) ∧
    (∀ g, vu.ownBlock = some g → S g) ∧ (∀ s g, (F s).ownBlock = some g → S g) ∧
    w.ownsMap Try.prog 9 heldAs h N D ∧ (∀ s : ByteArray, s.size ≤ maxLen → D.atKey (.string s.data.toList) (.held (.slice none 0 0)) = .held (F s)) ∧
    w.ownsMap Try.prog 26 (plainElem Try.prog 3) (h + 1) N Dc ∧ (∀ i : Nat, i < 2 ^ 64 → Dc.atKey (.int .u64 i) (.lit (.int .i64 0)) = .lit (.int .i64 (C i))) ∧ (∀ k, S k → h + 3 ≤ k ∧ k < w.heap.size)

/-- w' is w but for a carrier's blocks h .. h+2 and those of S; the new S' holds no old block that S did not hold. -/
structure Turn (h : Nat) (S S' : Nat → Prop) (w w' : World) : Prop where
  os : w'.os = w.os
  tape : w'.tape = w.tape
  output : w'.output = w.output
  size : w.heap.size ≤ w'.heap.size
  block : ∀ k, k < w.heap.size → ¬ (h ≤ k ∧ k < h + 3) → ¬ S k → w'.heap[k]? = w.heap[k]?
  row : ∀ k, S' k → S k ∨ w.heap.size ≤ k
theorem Turn.refl (h : Nat) (S : Nat → Prop) (w : World) : Turn h S S w w := ⟨rfl, rfl, rfl, Nat.le_refl _, fun _ _ _ _ => rfl, fun _ h => .inl h⟩
theorem Turn.trans {h : Nat} {S S' S'' : Nat → Prop} {a b c : World} (x : Turn h S S' a b) (y : Turn h S' S'' b c) : Turn h S S'' a c :=
  ⟨y.os.trans x.os, y.tape.trans x.tape, y.output.trans x.output, Nat.le_trans x.size y.size,
   fun k hk h1 h2 => by
    have h3 : ¬ S' k := fun h' => (x.row k h').elim h2 (fun h4 => by omega)
    exact (y.block k (Nat.lt_of_lt_of_le hk x.size) h1 h3).trans (x.block k hk h1 h2),
   fun k hk => by
    rcases y.row k hk with h' | h'
    · exact x.row k h'
    · exact .inr (Nat.le_trans x.size h')⟩

theorem Car.count {h N : Nat} {S : Nat → Prop} {us : List Ltr} {G : ByteArray → List Ltr} {C : Nat → Nat} {w : World} (c : Car h S N us G C w) {N' : Nat} (hN : N ≤ N') : Car h S N' us G C w := by
  obtain ⟨vu, F, D, Dc, h1, h2, h3, h4, h5, h6, h7, h8, h9, h10, h11, h12⟩ := c
  exact ⟨vu, F, D, Dc, h1, h2, h3, h4, h5, h6, h7, h8.mono hN, h9, h10.mono hN, h11, h12⟩
/-- The carrier stays through a change that touches none of its blocks. -/
theorem Car.keeps {h N : Nat} {S : Nat → Prop} {us : List Ltr} {G : ByteArray → List Ltr} {C : Nat → Nat} {w w' : World} (c : Car h S N us G C w) {row : Option Nat} (hk : w.grownBy w' row) (hr : ∀ k, row = some k → ¬ S k ∧ (k < h ∨ h + 3 ≤ k)) : Car h S N us G C w' := by
  obtain ⟨vu, F, D, Dc, h1, h2, h3, h4, h5, h6, h7, h8, h9, h10, h11, h12⟩ := c
  have ne : ∀ k, (S k ∨ (h ≤ k ∧ k < h + 3)) → some k ≠ row := fun k hk e => by
    have := hr k e.symm
    rcases hk with hk | hk
    · exact this.1 hk
    · omega
  have own : ∀ {v : Value} {ls : List Ltr}, owns w (h + 3) v ls → (∀ g, v.ownBlock = some g → S g) → owns w' (h + 3) v ls := fun {v ls} ho hv => by
    refine World.ownsRow.kept ho hk ?_
    cases hb : v.ownBlock with
    | none => exact .inl rfl
    | some g => exact .inr (ne g (.inl (hv g hb)))
  have hlt : h + 1 + 1 < w.heap.size := (Array.getElem?_eq_some_iff.1 h1).1
  refine ⟨vu, F, D, Dc, ?_, own h2 h6, fun s => own (h3 s) (h7 s), h4, h5, h6, h7, h8.kept hk (ne _ (.inr (by omega))), h9, h10.kept hk (ne _ (.inr (by omega))), h11, fun k hs => ⟨(h12 k hs).1, Nat.lt_of_lt_of_le (h12 k hs).2 hk.size⟩⟩
  rw [hk.block _ hlt (ne _ (.inr (by omega)))]
  exact h1
theorem Car.size {h N : Nat} {S : Nat → Prop} {us : List Ltr} {G : ByteArray → List Ltr} {C : Nat → Nat} {w : World} (c : Car h S N us G C w) : h + 3 ≤ w.heap.size := by
  obtain ⟨vu, F, D, Dc, h1, h2, h3, h4, h5, h6, h7, h8, h9, h10, h11, h12⟩ := c
  have := (Array.getElem?_eq_some_iff.1 h1).1
  omega
theorem heap_push1 (w : World) (o : Obj) : (w.alloc o).heap[w.heap.size]? = some o := by
  show (w.heap.push _)[w.heap.size]? = _
  simp
theorem heap_push2 (w : World) (o o' : Obj) : ((w.alloc o).alloc o').heap[w.heap.size + 1]? = some o' := by
  have h := heap_push1 (w.alloc o) o'
  rwa [show (w.alloc o).heap.size = w.heap.size + 1 from by simp] at h
theorem heap_keep {w : World} {g : Nat} {x : Obj} (h : w.heap[g]? = some x) (o : Obj) : (w.alloc o).heap[g]? = some x := by
  rw [Lib.alloc_old w o g (Array.getElem?_eq_some_iff.1 h).1]; exact h
end Go.Proofs.Ytdoghnpmbpomcaa
