/- Rows of homecoming/api.Person: what they hold; slices.Clone; one put anew. Written by wip/tools/rowlib.py. -/
import Derived.Test.YtkihleecjgoipaaGreatDoorRws
namespace Go.Proofs.YtkihleecjgoipaaGreatDoor.Per
open Go.RowKit Go.Maps Go.Proofs.YtkihleecjgoipaaGreatDoorW.PrintWords Go.Proofs.YtkihleecjgoipaaGreatDoor Go.Proofs.YtkihleecjgoipaaGreatDoor.Rw

structure R where
  id : Int
  mail : ByteArray
  ver : Bool
  salt : ByteArray
  chk : ByteArray
  vers : Int
  miss : Int
  lock : Int
  c0 : ByteArray
  c1 : ByteArray
  c2 : ByteArray
  c3 : ByteArray
  c4 : ByteArray
def R.cells (l : R) : List Value := [.int .i64 l.id, .string l.mail, .bool l.ver, .string l.salt, .string l.chk, .int .i64 l.vers, .int .i64 l.miss, .int .i64 l.lock, .string l.c0, .string l.c1, .string l.c2, .string l.c3, .string l.c4]
def R.agg (l : R) : Value := .agg #[.int .i64 l.id, .string l.mail, .bool l.ver, .string l.salt, .string l.chk, .int .i64 l.vers, .int .i64 l.miss, .int .i64 l.lock, .string l.c0, .string l.c1, .string l.c2, .string l.c3, .string l.c4]
def R.obj (l : R) : Obj := .cells #[.int .i64 l.id, .string l.mail, .bool l.ver, .string l.salt, .string l.chk, .int .i64 l.vers, .int .i64 l.miss, .int .i64 l.lock, .string l.c0, .string l.c1, .string l.c2, .string l.c3, .string l.c4] 34
def zero : R := ⟨0, ⟨#[]⟩, false, ⟨#[]⟩, ⟨#[]⟩, 0, 0, 0, ⟨#[]⟩, ⟨#[]⟩, ⟨#[]⟩, ⟨#[]⟩, ⟨#[]⟩⟩
def flat (ls : List R) : List Value := ls.flatMap R.cells
theorem flat_nil : flat [] = [] := rfl
theorem flat_cons (l : R) (ls : List R) : flat (l :: ls) = l.cells ++ flat ls := by simp [flat]
theorem flat_append (a b : List R) : flat (a ++ b) = flat a ++ flat b := by simp [flat]
theorem flat_len : ∀ ls : List R, (flat ls).length = ls.length * 13
  | [] => rfl
  | l :: ls => by rw [flat_cons, List.length_append, flat_len ls]; simp [R.cells]; omega
theorem flat_drop : ∀ (k : Nat) (ls : List R), (flat ls).drop (k * 13) = flat (ls.drop k)
  | 0, ls => by simp
  | k + 1, [] => by simp [flat_nil]
  | k + 1, l :: ls => by
    rw [flat_cons, List.drop_succ_cons, ← flat_drop k ls, show (k + 1) * 13 = l.cells.length + k * 13 by simp [R.cells]; omega, List.drop_append, Nat.add_sub_cancel_left, List.drop_eq_nil_of_le (Nat.le_add_right _ _), List.nil_append]
theorem flat_take : ∀ (k : Nat) (ls : List R), (flat ls).take (k * 13) = flat (ls.take k)
  | 0, ls => by simp [flat_nil]
  | k + 1, [] => by simp [flat_nil]
  | k + 1, l :: ls => by
    rw [flat_cons, List.take_succ_cons, flat_cons, ← flat_take k ls, show (k + 1) * 13 = l.cells.length + k * 13 by simp [R.cells]; omega, List.take_append, Nat.add_sub_cancel_left, List.take_of_length_le (Nat.le_add_right _ _)]
theorem flat_at : ∀ (i j : Nat) (ls : List R) (l : R), ls[i]? = some l → j < 13 → (flat ls)[i * 13 + j]? = l.cells[j]?
  | 0, j, [], l, h, _ => by simp at h
  | 0, j, l' :: ls, l, h, hj => by
    simp at h
    subst h
    rw [flat_cons, List.getElem?_append_left (by simp [R.cells]; omega)]
    simp
  | i + 1, j, [], l, h, _ => by simp at h
  | i + 1, j, l' :: ls, l, h, hj => by
    rw [flat_cons, List.getElem?_append_right (by simp [R.cells]; omega)]
    rw [show (i + 1) * 13 + j - l'.cells.length = i * 13 + j by simp [R.cells]; omega]
    exact flat_at i j ls l (by simpa using h) hj
theorem cells_one (l : R) : ∀ u ∈ l.cells, u.oneCell' = true := by
  intro u hl
  simp [R.cells] at hl
  rcases hl with rfl | rfl | rfl | rfl | rfl | rfl | rfl | rfl | rfl | rfl | rfl | rfl | rfl <;> rfl
theorem flat_one (ls : List R) : ∀ u ∈ flat ls, u.oneCell' = true := by
  intro u hu
  obtain ⟨l, _, hl⟩ := List.mem_flatMap.1 hu
  exact cells_one l u hl

/-- The row lies in what the slice v owns, from block B on. -/
def owns (w : World) (B : Nat) (v : Value) (ms : List R) : Prop := w.ownsRow B 34 13 v ms.length (flat ms)
theorem owns.nil (w : World) (B : Nat) : owns w B (.slice none 0 0) [] := World.ownsRow_nil _ _ _ _
theorem owns.below {w w' : World} {B : Nat} {v : Value} {ms : List R} (h : owns w B v ms) (b : Below w.heap.size w w') : owns w' B v ms := by
  have hg : w.grownBy w' none := ⟨b.os, b.tape, b.output, b.size, fun k hk _ => b.block k hk⟩
  refine World.ownsRow.kept h hg ?_
  cases hb : v.ownBlock with
  | none => exact .inl rfl
  | some g => exact .inr (by simp)
theorem owns.mono {w : World} {B B' : Nat} {v : Value} {ms : List R} (h : owns w B v ms) (hB : B' ≤ B) : owns w B' v ms := by
  refine ⟨h.1, ?_⟩
  rcases h.2 with x | ⟨g, cap, cur, e1, r1, r⟩
  · exact .inl x
  · exact .inr ⟨g, cap, cur, e1, Nat.le_trans hB r1, r⟩
theorem owns.form {w : World} {B : Nat} {v : Value} {ms : List R} (h : owns w B v ms) : ∃ a c, v = .slice a ms.length c ∧ ms.length ≤ c ∧ c ≤ 9223372036854775807 := by
  rcases h.2 with ⟨e1, e2⟩ | ⟨g, cap, cur, e1, r⟩
  · exact ⟨none, 0, by rw [e1, e2], by omega, by omega⟩
  · exact ⟨some ⟨g, 0, none⟩, cap, e1, r.2.2.1, by have := r.2.2.2.1; unfold maxLen at this; exact this⟩
theorem owns.at {w : World} {B c : Nat} {a : Option Addr} {n : Nat} {ms : List R} (h : owns w B (.slice a n c) ms) : ∀ j, j < ms.length → ∃ g, a = some ⟨g, 0, none⟩ ∧ B ≤ g ∧ g < w.heap.size ∧ ∀ i v, (ms[j]?.getD zero).cells[i]? = some v → w.cell? ⟨g, j * 13 + i, none⟩ = some v := fun j hj => by
  rcases h.2 with ⟨e1, e2⟩ | ⟨g, cap, cur, e1, r⟩
  · omega
  · cases e1
    have hg1 : ms[j]? = some ms[j] := List.getElem?_eq_getElem hj
    have hlt := (World.ownsRow.lt h g rfl)
    refine ⟨g, rfl, hlt.1, hlt.2, fun i v hv => ?_⟩
    rw [hg1] at hv
    have hi : i < 13 := by
      rcases Nat.lt_or_ge i 13 with x | x
      · exact x
      · rw [List.getElem?_eq_none (by simp [R.cells]; omega)] at hv
        cases hv
    have e1 := World.ownsRow.cells h (g := g) rfl (j * 13 + i) v (by rw [flat_at j i ms ms[j] hg1 hi]; exact hv)
    rwa [addM, Nat.zero_add] at e1
theorem owns.all {w : World} {B c : Nat} {a : Option Addr} {n : Nat} {ms : List R} (h : owns w B (.slice a n c) ms) (j : Nat) (hj : j < ms.length) : ∃ g, a = some ⟨g, 0, none⟩ ∧ B ≤ g ∧ g < w.heap.size ∧ w.cell? ⟨g, j * 13, none⟩ = some (.int .i64 (ms[j]?.getD zero).id) ∧ w.cell? ⟨g, j * 13 + 1, none⟩ = some (.string (ms[j]?.getD zero).mail) ∧ w.cell? ⟨g, j * 13 + 2, none⟩ = some (.bool (ms[j]?.getD zero).ver) ∧ w.cell? ⟨g, j * 13 + 3, none⟩ = some (.string (ms[j]?.getD zero).salt) ∧ w.cell? ⟨g, j * 13 + 4, none⟩ = some (.string (ms[j]?.getD zero).chk) ∧ w.cell? ⟨g, j * 13 + 5, none⟩ = some (.int .i64 (ms[j]?.getD zero).vers) ∧ w.cell? ⟨g, j * 13 + 6, none⟩ = some (.int .i64 (ms[j]?.getD zero).miss) ∧ w.cell? ⟨g, j * 13 + 7, none⟩ = some (.int .i64 (ms[j]?.getD zero).lock) ∧ w.cell? ⟨g, j * 13 + 8, none⟩ = some (.string (ms[j]?.getD zero).c0) ∧ w.cell? ⟨g, j * 13 + 9, none⟩ = some (.string (ms[j]?.getD zero).c1) ∧ w.cell? ⟨g, j * 13 + 10, none⟩ = some (.string (ms[j]?.getD zero).c2) ∧ w.cell? ⟨g, j * 13 + 11, none⟩ = some (.string (ms[j]?.getD zero).c3) ∧ w.cell? ⟨g, j * 13 + 12, none⟩ = some (.string (ms[j]?.getD zero).c4) := by
  obtain ⟨g, e1, e2, e3, e4⟩ := h.at j hj
  exact ⟨g, e1, e2, e3, e4 0 _ rfl, e4 1 _ rfl, e4 2 _ rfl, e4 3 _ rfl, e4 4 _ rfl, e4 5 _ rfl, e4 6 _ rfl, e4 7 _ rfl, e4 8 _ rfl, e4 9 _ rfl, e4 10 _ rfl, e4 11 _ rfl, e4 12 _ rfl⟩
theorem owns.apart {w : World} {B b k : Nat} {v : Value} {ms : List R} (h : owns w B v ms) (hb : b < B) (x : Value) : owns (w.setCell ⟨b, k, none⟩ x) B v ms :=
  ownsRow_setCell_other h (fun e => by have := (World.ownsRow.lt h b e).1; omega) x
theorem owns.apartT {w : World} {B b : Nat} {v : Value} {ms : List R} {cs : Array Value} {T : TypeId} (h : owns w B v ms) (hb : w.heap[b]? = some (.cells cs T)) (ne : T ≠ 34) (k1 k2 : Nat) (x1 x2 : Value) : owns ((w.setCell ⟨b, k1, none⟩ x1).setCell ⟨b, k2, none⟩ x2) B v ms := by
  have e : v.ownBlock ≠ some b := fun e => by
    rcases h.2 with ⟨e1, _⟩ | ⟨g, cap, cur, e1, r1, r2, _⟩
    · rw [e1] at e
      cases e
    · rw [e1] at e
      simp only [Value.ownBlock, Option.some.injEq] at e
      subst e
      rw [r2] at hb
      injection hb with hb
      injection hb with _ hb
      exact ne hb.symm
  exact ownsRow_setCell_other (ownsRow_setCell_other h e x1) e x2
theorem owns.free {w : World} {B c g : Nat} {n : Nat} {ms : List R} (h : owns w B (.slice (some ⟨g, 0, none⟩) n c) ms) (j : Nat) : w.frozen? ⟨g, j, none⟩ = false := by
  rcases h.2 with ⟨e1, e2⟩ | ⟨g', cap, cur, e1, r1, r2, r⟩
  · cases e1
  · cases e1
    simp [World.frozen?, r2]
theorem owns.cap {w : World} {B n cap g : Nat} {ms : List R} (h : owns w B (.slice (some ⟨g, 0, none⟩) n cap) ms) : n ≤ cap ∧ cap ≤ maxLen := by
  rcases h.2 with ⟨e1, _⟩ | ⟨g', cap', cur, e1, r1, r2, r3, r4, r5, r6⟩
  · simp at e1
  · simp only [Value.slice.injEq, Option.some.injEq, Addr.mk.injEq, and_true] at e1
    obtain ⟨_, _, rfl⟩ := e1
    exact ⟨by omega, r4⟩
theorem owns.head {w : World} {B n cap g i : Nat} {ms : List R} (h : owns w B (.slice (some ⟨g, 0, none⟩) n cap) ms) (hi : i ≤ ms.length) : owns w B (.slice (some ⟨g, 0, none⟩) i cap) (ms.take i) := by
  have hl := h.1
  refine ⟨flat_len _, ?_⟩
  rcases h.2 with ⟨h1, _⟩ | ⟨g', cap', cur, h1, r1, r2, r3, r4, r5, r6⟩
  · simp at h1
  · simp only [Value.slice.injEq, Option.some.injEq, Addr.mk.injEq, and_true] at h1
    obtain ⟨rfl, _, rfl⟩ := h1
    refine .inr ⟨g, cap, cur, by rw [List.length_take, Nat.min_eq_left hi], r1, r2, by rw [List.length_take]; omega, r4, r5, ?_⟩
    rw [List.length_take, Nat.min_eq_left hi, ← flat_take, ← r6, List.take_take]
    congr 1
    have : i * 13 ≤ ms.length * 13 := Nat.mul_le_mul_right _ hi
    omega

theorem box (w : World) (m : R) : (w.alloc m.obj).cell? ⟨w.heap.size, 0, none⟩ = some (.int .i64 m.id) ∧ (w.alloc m.obj).cell? ⟨w.heap.size, 1, none⟩ = some (.string m.mail) ∧ (w.alloc m.obj).cell? ⟨w.heap.size, 2, none⟩ = some (.bool m.ver) ∧ (w.alloc m.obj).cell? ⟨w.heap.size, 3, none⟩ = some (.string m.salt) ∧ (w.alloc m.obj).cell? ⟨w.heap.size, 4, none⟩ = some (.string m.chk) ∧ (w.alloc m.obj).cell? ⟨w.heap.size, 5, none⟩ = some (.int .i64 m.vers) ∧ (w.alloc m.obj).cell? ⟨w.heap.size, 6, none⟩ = some (.int .i64 m.miss) ∧ (w.alloc m.obj).cell? ⟨w.heap.size, 7, none⟩ = some (.int .i64 m.lock) ∧ (w.alloc m.obj).cell? ⟨w.heap.size, 8, none⟩ = some (.string m.c0) ∧ (w.alloc m.obj).cell? ⟨w.heap.size, 9, none⟩ = some (.string m.c1) ∧ (w.alloc m.obj).cell? ⟨w.heap.size, 10, none⟩ = some (.string m.c2) ∧ (w.alloc m.obj).cell? ⟨w.heap.size, 11, none⟩ = some (.string m.c3) ∧ (w.alloc m.obj).cell? ⟨w.heap.size, 12, none⟩ = some (.string m.c4) := by
  refine ⟨?_, ?_, ?_, ?_, ?_, ?_, ?_, ?_, ?_, ?_, ?_, ?_, ?_⟩ <;> rw [Lib.cell_of_heap (heap_new w m.obj)] <;> rfl
theorem box_free (w : World) (m : R) (j : Nat) : (w.alloc m.obj).frozen? ⟨w.heap.size, j, none⟩ = false := by
  simp only [World.frozen?, heap_new w m.obj]
  simp [R.obj]
theorem box_later {w w2 : World} (m : R) (b : Below (w.alloc m.obj).heap.size (w.alloc m.obj) w2) : (w2.cell? ⟨w.heap.size, 0, none⟩ = some (.int .i64 m.id) ∧ w2.cell? ⟨w.heap.size, 1, none⟩ = some (.string m.mail) ∧ w2.cell? ⟨w.heap.size, 2, none⟩ = some (.bool m.ver) ∧ w2.cell? ⟨w.heap.size, 3, none⟩ = some (.string m.salt) ∧ w2.cell? ⟨w.heap.size, 4, none⟩ = some (.string m.chk) ∧ w2.cell? ⟨w.heap.size, 5, none⟩ = some (.int .i64 m.vers) ∧ w2.cell? ⟨w.heap.size, 6, none⟩ = some (.int .i64 m.miss) ∧ w2.cell? ⟨w.heap.size, 7, none⟩ = some (.int .i64 m.lock) ∧ w2.cell? ⟨w.heap.size, 8, none⟩ = some (.string m.c0) ∧ w2.cell? ⟨w.heap.size, 9, none⟩ = some (.string m.c1) ∧ w2.cell? ⟨w.heap.size, 10, none⟩ = some (.string m.c2) ∧ w2.cell? ⟨w.heap.size, 11, none⟩ = some (.string m.c3) ∧ w2.cell? ⟨w.heap.size, 12, none⟩ = some (.string m.c4)) ∧ ∀ j, w2.frozen? ⟨w.heap.size, j, none⟩ = false := by
  have hl : w.heap.size < (w.alloc m.obj).heap.size := by simp
  obtain ⟨z0, z1, z2, z3, z4, z5, z6, z7, z8, z9, z10, z11, z12⟩ := box w m
  exact ⟨⟨(b.cell (p := ⟨w.heap.size, 0, none⟩) hl).trans z0, (b.cell (p := ⟨w.heap.size, 1, none⟩) hl).trans z1, (b.cell (p := ⟨w.heap.size, 2, none⟩) hl).trans z2, (b.cell (p := ⟨w.heap.size, 3, none⟩) hl).trans z3, (b.cell (p := ⟨w.heap.size, 4, none⟩) hl).trans z4, (b.cell (p := ⟨w.heap.size, 5, none⟩) hl).trans z5, (b.cell (p := ⟨w.heap.size, 6, none⟩) hl).trans z6, (b.cell (p := ⟨w.heap.size, 7, none⟩) hl).trans z7, (b.cell (p := ⟨w.heap.size, 8, none⟩) hl).trans z8, (b.cell (p := ⟨w.heap.size, 9, none⟩) hl).trans z9, (b.cell (p := ⟨w.heap.size, 10, none⟩) hl).trans z10, (b.cell (p := ⟨w.heap.size, 11, none⟩) hl).trans z11, (b.cell (p := ⟨w.heap.size, 12, none⟩) hl).trans z12⟩, fun j => (b.frozen (p := ⟨w.heap.size, j, none⟩) hl).trans (box_free w m j)⟩

/-- The block g begins with the cells of m. -/
def At (w2 : World) (g : Nat) (m : R) : Prop := w2.cell? ⟨g, 0, none⟩ = some (.int .i64 m.id) ∧ w2.cell? ⟨g, 1, none⟩ = some (.string m.mail) ∧ w2.cell? ⟨g, 2, none⟩ = some (.bool m.ver) ∧ w2.cell? ⟨g, 3, none⟩ = some (.string m.salt) ∧ w2.cell? ⟨g, 4, none⟩ = some (.string m.chk) ∧ w2.cell? ⟨g, 5, none⟩ = some (.int .i64 m.vers) ∧ w2.cell? ⟨g, 6, none⟩ = some (.int .i64 m.miss) ∧ w2.cell? ⟨g, 7, none⟩ = some (.int .i64 m.lock) ∧ w2.cell? ⟨g, 8, none⟩ = some (.string m.c0) ∧ w2.cell? ⟨g, 9, none⟩ = some (.string m.c1) ∧ w2.cell? ⟨g, 10, none⟩ = some (.string m.c2) ∧ w2.cell? ⟨g, 11, none⟩ = some (.string m.c3) ∧ w2.cell? ⟨g, 12, none⟩ = some (.string m.c4)
theorem At.of_heap {w2 : World} {g : Nat} {m : R} (h : w2.heap[g]? = some m.obj) : At w2 g m := by
  refine ⟨?_, ?_, ?_, ?_, ?_, ?_, ?_, ?_, ?_, ?_, ?_, ?_, ?_⟩ <;> rw [Lib.cell_of_heap h] <;> rfl
theorem At.below {w w2 : World} {g B : Nat} {m : R} (h : At w g m) (b : Below B w w2) (hl : g < B) : At w2 g m := by
  obtain ⟨z0, z1, z2, z3, z4, z5, z6, z7, z8, z9, z10, z11, z12⟩ := h
  exact ⟨(b.cell (p := ⟨g, 0, none⟩) hl).trans z0, (b.cell (p := ⟨g, 1, none⟩) hl).trans z1, (b.cell (p := ⟨g, 2, none⟩) hl).trans z2, (b.cell (p := ⟨g, 3, none⟩) hl).trans z3, (b.cell (p := ⟨g, 4, none⟩) hl).trans z4, (b.cell (p := ⟨g, 5, none⟩) hl).trans z5, (b.cell (p := ⟨g, 6, none⟩) hl).trans z6, (b.cell (p := ⟨g, 7, none⟩) hl).trans z7, (b.cell (p := ⟨g, 8, none⟩) hl).trans z8, (b.cell (p := ⟨g, 9, none⟩) hl).trans z9, (b.cell (p := ⟨g, 10, none⟩) hl).trans z10, (b.cell (p := ⟨g, 11, none⟩) hl).trans z11, (b.cell (p := ⟨g, 12, none⟩) hl).trans z12⟩
theorem At.set {w : World} {g b k : Nat} {m : R} (h : At w g m) (hb : b ≠ g) (v : Value) : At (w.setCell ⟨b, k, none⟩ v) g m := by
  obtain ⟨z0, z1, z2, z3, z4, z5, z6, z7, z8, z9, z10, z11, z12⟩ := h
  exact ⟨(cell_far hb).trans z0, (cell_far hb).trans z1, (cell_far hb).trans z2, (cell_far hb).trans z3, (cell_far hb).trans z4, (cell_far hb).trans z5, (cell_far hb).trans z6, (cell_far hb).trans z7, (cell_far hb).trans z8, (cell_far hb).trans z9, (cell_far hb).trans z10, (cell_far hb).trans z11, (cell_far hb).trans z12⟩
theorem set_flat : ∀ (ms : List R) (i : Nat) (m : R), i < ms.length → (((((((((((((flat ms).set (i * 13) (.int .i64 m.id)).set (i * 13 + 1) (.string m.mail)).set (i * 13 + 2) (.bool m.ver)).set (i * 13 + 3) (.string m.salt)).set (i * 13 + 4) (.string m.chk)).set (i * 13 + 5) (.int .i64 m.vers)).set (i * 13 + 6) (.int .i64 m.miss)).set (i * 13 + 7) (.int .i64 m.lock)).set (i * 13 + 8) (.string m.c0)).set (i * 13 + 9) (.string m.c1)).set (i * 13 + 10) (.string m.c2)).set (i * 13 + 11) (.string m.c3)).set (i * 13 + 12) (.string m.c4) = flat (ms.set i m)
  | [], i, m, h => by simp at h
  | x :: ms, 0, m, h => by
    simp only [List.set_cons_zero, flat_cons, R.cells, Nat.zero_mul, Nat.zero_add, List.cons_append, List.nil_append, List.set_cons_succ]
  | x :: ms, i + 1, m, h => by
    have ih := set_flat ms i m (by simpa using h)
    rw [List.set_cons_succ, flat_cons, flat_cons, ← ih]
    have hl : x.cells.length = 13 := rfl
    rw [List.set_append_right _ _ (by omega), List.set_append_right _ _ (by omega), List.set_append_right _ _ (by omega), List.set_append_right _ _ (by omega), List.set_append_right _ _ (by omega), List.set_append_right _ _ (by omega), List.set_append_right _ _ (by omega), List.set_append_right _ _ (by omega), List.set_append_right _ _ (by omega), List.set_append_right _ _ (by omega), List.set_append_right _ _ (by omega), List.set_append_right _ _ (by omega), List.set_append_right _ _ (by omega)]
    rw [hl, show (i + 1) * 13 - 13 = i * 13 by omega, show (i + 1) * 13 + 1 - 13 = i * 13 + 1 by omega, show (i + 1) * 13 + 2 - 13 = i * 13 + 2 by omega, show (i + 1) * 13 + 3 - 13 = i * 13 + 3 by omega, show (i + 1) * 13 + 4 - 13 = i * 13 + 4 by omega, show (i + 1) * 13 + 5 - 13 = i * 13 + 5 by omega, show (i + 1) * 13 + 6 - 13 = i * 13 + 6 by omega, show (i + 1) * 13 + 7 - 13 = i * 13 + 7 by omega, show (i + 1) * 13 + 8 - 13 = i * 13 + 8 by omega, show (i + 1) * 13 + 9 - 13 = i * 13 + 9 by omega, show (i + 1) * 13 + 10 - 13 = i * 13 + 10 by omega, show (i + 1) * 13 + 11 - 13 = i * 13 + 11 by omega, show (i + 1) * 13 + 12 - 13 = i * 13 + 12 by omega]
theorem owns.put {w : World} {B c g n : Nat} {ms : List R} (h : owns w B (.slice (some ⟨g, 0, none⟩) n c) ms) (hn : ms.length = n) (i : Nat) (hi : i < ms.length) (x : R) :
    owns ((((((((((((((w).setCell ⟨g, i * 13, none⟩ (.int .i64 x.id)).setCell ⟨g, i * 13 + 1, none⟩ (.string x.mail)).setCell ⟨g, i * 13 + 2, none⟩ (.bool x.ver)).setCell ⟨g, i * 13 + 3, none⟩ (.string x.salt)).setCell ⟨g, i * 13 + 4, none⟩ (.string x.chk)).setCell ⟨g, i * 13 + 5, none⟩ (.int .i64 x.vers)).setCell ⟨g, i * 13 + 6, none⟩ (.int .i64 x.miss)).setCell ⟨g, i * 13 + 7, none⟩ (.int .i64 x.lock)).setCell ⟨g, i * 13 + 8, none⟩ (.string x.c0)).setCell ⟨g, i * 13 + 9, none⟩ (.string x.c1)).setCell ⟨g, i * 13 + 10, none⟩ (.string x.c2)).setCell ⟨g, i * 13 + 11, none⟩ (.string x.c3)).setCell ⟨g, i * 13 + 12, none⟩ (.string x.c4)) B (.slice (some ⟨g, 0, none⟩) n c) (ms.set i x) := by
  unfold owns
  rw [List.length_set, ← set_flat ms i x hi]
  subst hn
  have hl := flat_len ms
  unfold owns at h
  have k : ∀ j, j < 13 → i * 13 + j < ms.length * 13 := fun j hj => by omega
  have h0 := ownsRow_put h (k := i * 13) (by rw [hl]; exact k 0 (by omega)) (.int .i64 x.id)
  have h1 := ownsRow_put h0 (k := i * 13 + 1) (by simp only [List.length_set, hl]; exact k 1 (by omega)) (.string x.mail)
  have h2 := ownsRow_put h1 (k := i * 13 + 2) (by simp only [List.length_set, hl]; exact k 2 (by omega)) (.bool x.ver)
  have h3 := ownsRow_put h2 (k := i * 13 + 3) (by simp only [List.length_set, hl]; exact k 3 (by omega)) (.string x.salt)
  have h4 := ownsRow_put h3 (k := i * 13 + 4) (by simp only [List.length_set, hl]; exact k 4 (by omega)) (.string x.chk)
  have h5 := ownsRow_put h4 (k := i * 13 + 5) (by simp only [List.length_set, hl]; exact k 5 (by omega)) (.int .i64 x.vers)
  have h6 := ownsRow_put h5 (k := i * 13 + 6) (by simp only [List.length_set, hl]; exact k 6 (by omega)) (.int .i64 x.miss)
  have h7 := ownsRow_put h6 (k := i * 13 + 7) (by simp only [List.length_set, hl]; exact k 7 (by omega)) (.int .i64 x.lock)
  have h8 := ownsRow_put h7 (k := i * 13 + 8) (by simp only [List.length_set, hl]; exact k 8 (by omega)) (.string x.c0)
  have h9 := ownsRow_put h8 (k := i * 13 + 9) (by simp only [List.length_set, hl]; exact k 9 (by omega)) (.string x.c1)
  have h10 := ownsRow_put h9 (k := i * 13 + 10) (by simp only [List.length_set, hl]; exact k 10 (by omega)) (.string x.c2)
  have h11 := ownsRow_put h10 (k := i * 13 + 11) (by simp only [List.length_set, hl]; exact k 11 (by omega)) (.string x.c3)
  exact ownsRow_put h11 (k := i * 13 + 12) (by simp only [List.length_set, hl]; exact k 12 (by omega)) (.string x.c4)
theorem set1_flat : ∀ (ms : List R) (i k : Nat) (v : Value) (y : R), i < ms.length → k < 13 → y.cells = (ms[i]?.getD zero).cells.set k v → (flat ms).set (i * 13 + k) v = flat (ms.set i y)
  | [], i, k, v, y, h, _, _ => by simp at h
  | x :: ms, 0, k, v, y, h, hk, hy => by
    simp only [List.getElem?_cons_zero, Option.getD_some] at hy
    rw [List.set_cons_zero, flat_cons, flat_cons, hy, Nat.zero_mul, Nat.zero_add, List.set_append_left _ _ (by simp [R.cells]; omega)]
  | x :: ms, i + 1, k, v, y, h, hk, hy => by
    have ih := set1_flat ms i k v y (by simpa using h) hk (by simpa using hy)
    have hl : x.cells.length = 13 := rfl
    rw [List.set_cons_succ, flat_cons, flat_cons, ← ih, List.set_append_right _ _ (by omega)]
    rw [hl, show (i + 1) * 13 + k - 13 = i * 13 + k by omega]
theorem owns.put1 {w : World} {B c g n : Nat} {ms : List R} (h : owns w B (.slice (some ⟨g, 0, none⟩) n c) ms) (i k : Nat) (hi : i < ms.length) (hk : k < 13) (v : Value) (y : R) (hy : y.cells = (ms[i]?.getD zero).cells.set k v) :
    owns (w.setCell ⟨g, i * 13 + k, none⟩ v) B (.slice (some ⟨g, 0, none⟩) n c) (ms.set i y) := by
  have hn : n = ms.length := by
    rcases h.2 with ⟨e1, _⟩ | ⟨g', cap', cur, e1, r⟩
    · simp at e1
    · simp only [Value.slice.injEq] at e1
      exact e1.2.1
  subst hn
  unfold owns
  rw [List.length_set, ← set1_flat ms i k v y hi hk hy]
  exact ownsRow_put h (by rw [flat_len]; have := Nat.mul_le_mul_right 13 (show i + 1 ≤ ms.length from hi); omega) v
theorem set_at (ms : List R) (i : Nat) (y : R) (hi : i < ms.length) : (ms.set i y)[i]?.getD zero = y := by
  rw [List.getElem?_eq_getElem (by simpa using hi)]
  simp
theorem below_put {B g o : Nat} {w W : World} (b : Below B w W) (hg : B ≤ g) (v0 v1 v2 v3 v4 v5 v6 v7 v8 v9 v10 v11 v12 : Value) : Below B w ((((((((((((((W).setCell ⟨g, o, none⟩ v0).setCell ⟨g, o + 1, none⟩ v1).setCell ⟨g, o + 2, none⟩ v2).setCell ⟨g, o + 3, none⟩ v3).setCell ⟨g, o + 4, none⟩ v4).setCell ⟨g, o + 5, none⟩ v5).setCell ⟨g, o + 6, none⟩ v6).setCell ⟨g, o + 7, none⟩ v7).setCell ⟨g, o + 8, none⟩ v8).setCell ⟨g, o + 9, none⟩ v9).setCell ⟨g, o + 10, none⟩ v10).setCell ⟨g, o + 11, none⟩ v11).setCell ⟨g, o + 12, none⟩ v12) :=
  (((((((((((((b).setCell hg _).setCell hg _).setCell hg _).setCell hg _).setCell hg _).setCell hg _).setCell hg _).setCell hg _).setCell hg _).setCell hg _).setCell hg _).setCell hg _).setCell hg _

theorem info : (Tryz.prog.info? 34).map (fun i => (i.zero, i.size, i.bytes)) = some (some (.agg #[.int .i64 0, .string ⟨#[]⟩, .bool false, .string ⟨#[]⟩, .string ⟨#[]⟩, .int .i64 0, .int .i64 0, .int .i64 0, .string ⟨#[]⟩, .string ⟨#[]⟩, .string ⟨#[]⟩, .string ⟨#[]⟩, .string ⟨#[]⟩]), 13, 168) := by kernel_rfl
theorem slice_not_nil (a : Addr) (n c : Nat) (w : World) : (binOp .eql 22 (.slice (some a) n c) (.slice none 0 0)).run Tryz.prog w = .ok (.bool false) w := by kernel_rfl
theorem slice_nil (n c : Nat) (w : World) : (binOp .eql 22 (.slice none n c) (.slice none 0 0)).run Tryz.prog w = .ok (.bool true) w := by kernel_rfl
end Go.Proofs.YtkihleecjgoipaaGreatDoor.Per
