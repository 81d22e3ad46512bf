/- Rows of homecoming/api.Session: what they hold; slices.Clone; one put anew. Written by wip/tools/rowlib.py. -/
import Derived.Test.YtkihleecjgoipaaDoorRws
namespace Go.Proofs.YtkihleecjgoipaaDoor.Ses
open Go.RowKit Go.Maps Go.Proofs.YtkihleecjgoipaaDoorW.PrintWords Go.Proofs.YtkihleecjgoipaaDoor Go.Proofs.YtkihleecjgoipaaDoor.Rw

structure R where
  dig : ByteArray
  acc : Int
  exp : Int
def R.cells (l : R) : List Value := [.string l.dig, .int .i64 l.acc, .int .i64 l.exp]
def R.agg (l : R) : Value := .agg #[.string l.dig, .int .i64 l.acc, .int .i64 l.exp]
def R.obj (l : R) : Obj := .cells #[.string l.dig, .int .i64 l.acc, .int .i64 l.exp] 47
def zero : R := ⟨⟨#[]⟩, 0, 0⟩
def flat (ls : List R) : List Value := ls.flatMap R.cells
theorem flat_nil : flat [] = [] := rfl
theorem flat_cons (l : R) (ls : List R) : flat (l :: ls) = l.cells ++ flat ls := by simp [flat]
theorem flat_append (a b : List R) : flat (a ++ b) = flat a ++ flat b := by simp [flat]
theorem flat_len : ∀ ls : List R, (flat ls).length = ls.length * 3
  | [] => rfl
  | l :: ls => by rw [flat_cons, List.length_append, flat_len ls]; simp [R.cells]; omega
theorem flat_drop : ∀ (k : Nat) (ls : List R), (flat ls).drop (k * 3) = flat (ls.drop k)
  | 0, ls => by simp
  | k + 1, [] => by simp [flat_nil]
  | k + 1, l :: ls => by
    rw [flat_cons, List.drop_succ_cons, ← flat_drop k ls, show (k + 1) * 3 = l.cells.length + k * 3 by simp [R.cells]; omega, List.drop_append, Nat.add_sub_cancel_left, List.drop_eq_nil_of_le (Nat.le_add_right _ _), List.nil_append]
theorem flat_take : ∀ (k : Nat) (ls : List R), (flat ls).take (k * 3) = flat (ls.take k)
  | 0, ls => by simp [flat_nil]
  | k + 1, [] => by simp [flat_nil]
  | k + 1, l :: ls => by
    rw [flat_cons, List.take_succ_cons, flat_cons, ← flat_take k ls, show (k + 1) * 3 = l.cells.length + k * 3 by simp [R.cells]; omega, List.take_append, Nat.add_sub_cancel_left, List.take_of_length_le (Nat.le_add_right _ _)]
theorem flat_at : ∀ (i j : Nat) (ls : List R) (l : R), ls[i]? = some l → j < 3 → (flat ls)[i * 3 + j]? = l.cells[j]?
  | 0, j, [], l, h, _ => by simp at h
  | 0, j, l' :: ls, l, h, hj => by
    simp at h
    subst h
    rw [flat_cons, List.getElem?_append_left (by simp [R.cells]; omega)]
    simp
  | i + 1, j, [], l, h, _ => by simp at h
  | i + 1, j, l' :: ls, l, h, hj => by
    rw [flat_cons, List.getElem?_append_right (by simp [R.cells]; omega)]
    rw [show (i + 1) * 3 + j - l'.cells.length = i * 3 + j by simp [R.cells]; omega]
    exact flat_at i j ls l (by simpa using h) hj
theorem cells_one (l : R) : ∀ u ∈ l.cells, u.oneCell' = true := by
  intro u hl
  simp [R.cells] at hl
  rcases hl with rfl | rfl | rfl <;> rfl
theorem flat_one (ls : List R) : ∀ u ∈ flat ls, u.oneCell' = true := by
  intro u hu
  obtain ⟨l, _, hl⟩ := List.mem_flatMap.1 hu
  exact cells_one l u hl

/-- The row lies in what the slice v owns, from block B on. -/
def owns (w : World) (B : Nat) (v : Value) (ms : List R) : Prop := w.ownsRow B 47 3 v ms.length (flat ms)
theorem owns.nil (w : World) (B : Nat) : owns w B (.slice none 0 0) [] := World.ownsRow_nil _ _ _ _
theorem owns.below {w w' : World} {B : Nat} {v : Value} {ms : List R} (h : owns w B v ms) (b : Below w.heap.size w w') : owns w' B v ms := by
  have hg : w.grownBy w' none := ⟨b.os, b.tape, b.output, b.size, fun k hk _ => b.block k hk⟩
  refine World.ownsRow.kept h hg ?_
  cases hb : v.ownBlock with
  | none => exact .inl rfl
  | some g => exact .inr (by simp)
theorem owns.mono {w : World} {B B' : Nat} {v : Value} {ms : List R} (h : owns w B v ms) (hB : B' ≤ B) : owns w B' v ms := by
  refine ⟨h.1, ?_⟩
  rcases h.2 with x | ⟨g, cap, cur, e1, r1, r⟩
  · exact .inl x
  · exact .inr ⟨g, cap, cur, e1, Nat.le_trans hB r1, r⟩
theorem owns.form {w : World} {B : Nat} {v : Value} {ms : List R} (h : owns w B v ms) : ∃ a c, v = .slice a ms.length c ∧ ms.length ≤ c ∧ c ≤ 9223372036854775807 := by
  rcases h.2 with ⟨e1, e2⟩ | ⟨g, cap, cur, e1, r⟩
  · exact ⟨none, 0, by rw [e1, e2], by omega, by omega⟩
  · exact ⟨some ⟨g, 0, none⟩, cap, e1, r.2.2.1, by have := r.2.2.2.1; unfold maxLen at this; exact this⟩
theorem owns.at {w : World} {B c : Nat} {a : Option Addr} {n : Nat} {ms : List R} (h : owns w B (.slice a n c) ms) : ∀ j, j < ms.length → ∃ g, a = some ⟨g, 0, none⟩ ∧ B ≤ g ∧ g < w.heap.size ∧ ∀ i v, (ms[j]?.getD zero).cells[i]? = some v → w.cell? ⟨g, j * 3 + i, none⟩ = some v := fun j hj => by
  rcases h.2 with ⟨e1, e2⟩ | ⟨g, cap, cur, e1, r⟩
  · omega
  · cases e1
    have hg1 : ms[j]? = some ms[j] := List.getElem?_eq_getElem hj
    have hlt := (World.ownsRow.lt h g rfl)
    refine ⟨g, rfl, hlt.1, hlt.2, fun i v hv => ?_⟩
    rw [hg1] at hv
    have hi : i < 3 := by
      rcases Nat.lt_or_ge i 3 with x | x
      · exact x
      · rw [List.getElem?_eq_none (by simp [R.cells]; omega)] at hv
        cases hv
    have e1 := World.ownsRow.cells h (g := g) rfl (j * 3 + i) v (by rw [flat_at j i ms ms[j] hg1 hi]; exact hv)
    rwa [addM, Nat.zero_add] at e1
theorem owns.all {w : World} {B c : Nat} {a : Option Addr} {n : Nat} {ms : List R} (h : owns w B (.slice a n c) ms) (j : Nat) (hj : j < ms.length) : ∃ g, a = some ⟨g, 0, none⟩ ∧ B ≤ g ∧ g < w.heap.size ∧ w.cell? ⟨g, j * 3, none⟩ = some (.string (ms[j]?.getD zero).dig) ∧ w.cell? ⟨g, j * 3 + 1, none⟩ = some (.int .i64 (ms[j]?.getD zero).acc) ∧ w.cell? ⟨g, j * 3 + 2, none⟩ = some (.int .i64 (ms[j]?.getD zero).exp) := by
  obtain ⟨g, e1, e2, e3, e4⟩ := h.at j hj
  exact ⟨g, e1, e2, e3, e4 0 _ rfl, e4 1 _ rfl, e4 2 _ rfl⟩
theorem owns.apart {w : World} {B b k : Nat} {v : Value} {ms : List R} (h : owns w B v ms) (hb : b < B) (x : Value) : owns (w.setCell ⟨b, k, none⟩ x) B v ms :=
  ownsRow_setCell_other h (fun e => by have := (World.ownsRow.lt h b e).1; omega) x
theorem owns.apartT {w : World} {B b : Nat} {v : Value} {ms : List R} {cs : Array Value} {T : TypeId} (h : owns w B v ms) (hb : w.heap[b]? = some (.cells cs T)) (ne : T ≠ 47) (k1 k2 : Nat) (x1 x2 : Value) : owns ((w.setCell ⟨b, k1, none⟩ x1).setCell ⟨b, k2, none⟩ x2) B v ms := by
  have e : v.ownBlock ≠ some b := fun e => by
    rcases h.2 with ⟨e1, _⟩ | ⟨g, cap, cur, e1, r1, r2, _⟩
    · rw [e1] at e
      cases e
    · rw [e1] at e
      simp only [Value.ownBlock, Option.some.injEq] at e
      subst e
      rw [r2] at hb
      injection hb with hb
      injection hb with _ hb
      exact ne hb.symm
  exact ownsRow_setCell_other (ownsRow_setCell_other h e x1) e x2
theorem owns.free {w : World} {B c g : Nat} {n : Nat} {ms : List R} (h : owns w B (.slice (some ⟨g, 0, none⟩) n c) ms) (j : Nat) : w.frozen? ⟨g, j, none⟩ = false := by
  rcases h.2 with ⟨e1, e2⟩ | ⟨g', cap, cur, e1, r1, r2, r⟩
  · cases e1
  · cases e1
    simp [World.frozen?, r2]
theorem owns.cap {w : World} {B n cap g : Nat} {ms : List R} (h : owns w B (.slice (some ⟨g, 0, none⟩) n cap) ms) : n ≤ cap ∧ cap ≤ maxLen := by
  rcases h.2 with ⟨e1, _⟩ | ⟨g', cap', cur, e1, r1, r2, r3, r4, r5, r6⟩
  · simp at e1
  · simp only [Value.slice.injEq, Option.some.injEq, Addr.mk.injEq, and_true] at e1
    obtain ⟨_, _, rfl⟩ := e1
    exact ⟨by omega, r4⟩
theorem owns.head {w : World} {B n cap g i : Nat} {ms : List R} (h : owns w B (.slice (some ⟨g, 0, none⟩) n cap) ms) (hi : i ≤ ms.length) : owns w B (.slice (some ⟨g, 0, none⟩) i cap) (ms.take i) := by
  have hl := h.1
  refine ⟨flat_len _, ?_⟩
  rcases h.2 with ⟨h1, _⟩ | ⟨g', cap', cur, h1, r1, r2, r3, r4, r5, r6⟩
  · simp at h1
  · simp only [Value.slice.injEq, Option.some.injEq, Addr.mk.injEq, and_true] at h1
    obtain ⟨rfl, _, rfl⟩ := h1
    refine .inr ⟨g, cap, cur, by rw [List.length_take, Nat.min_eq_left hi], r1, r2, by rw [List.length_take]; omega, r4, r5, ?_⟩
    rw [List.length_take, Nat.min_eq_left hi, ← flat_take, ← r6, List.take_take]
    congr 1
    have : i * 3 ≤ ms.length * 3 := Nat.mul_le_mul_right _ hi
    omega

theorem box (w : World) (m : R) : (w.alloc m.obj).cell? ⟨w.heap.size, 0, none⟩ = some (.string m.dig) ∧ (w.alloc m.obj).cell? ⟨w.heap.size, 1, none⟩ = some (.int .i64 m.acc) ∧ (w.alloc m.obj).cell? ⟨w.heap.size, 2, none⟩ = some (.int .i64 m.exp) := by
  refine ⟨?_, ?_, ?_⟩ <;> rw [Lib.cell_of_heap (heap_new w m.obj)] <;> rfl
theorem box_free (w : World) (m : R) (j : Nat) : (w.alloc m.obj).frozen? ⟨w.heap.size, j, none⟩ = false := by
  simp only [World.frozen?, heap_new w m.obj]
  simp [R.obj]
theorem box_later {w w2 : World} (m : R) (b : Below (w.alloc m.obj).heap.size (w.alloc m.obj) w2) : (w2.cell? ⟨w.heap.size, 0, none⟩ = some (.string m.dig) ∧ w2.cell? ⟨w.heap.size, 1, none⟩ = some (.int .i64 m.acc) ∧ w2.cell? ⟨w.heap.size, 2, none⟩ = some (.int .i64 m.exp)) ∧ ∀ j, w2.frozen? ⟨w.heap.size, j, none⟩ = false := by
  have hl : w.heap.size < (w.alloc m.obj).heap.size := by simp
  obtain ⟨z0, z1, z2⟩ := box w m
  exact ⟨⟨(b.cell (p := ⟨w.heap.size, 0, none⟩) hl).trans z0, (b.cell (p := ⟨w.heap.size, 1, none⟩) hl).trans z1, (b.cell (p := ⟨w.heap.size, 2, none⟩) hl).trans z2⟩, fun j => (b.frozen (p := ⟨w.heap.size, j, none⟩) hl).trans (box_free w m j)⟩

/-- The block g begins with the cells of m. -/
def At (w2 : World) (g : Nat) (m : R) : Prop := w2.cell? ⟨g, 0, none⟩ = some (.string m.dig) ∧ w2.cell? ⟨g, 1, none⟩ = some (.int .i64 m.acc) ∧ w2.cell? ⟨g, 2, none⟩ = some (.int .i64 m.exp)
theorem At.of_heap {w2 : World} {g : Nat} {m : R} (h : w2.heap[g]? = some m.obj) : At w2 g m := by
  refine ⟨?_, ?_, ?_⟩ <;> rw [Lib.cell_of_heap h] <;> rfl
theorem At.below {w w2 : World} {g B : Nat} {m : R} (h : At w g m) (b : Below B w w2) (hl : g < B) : At w2 g m := by
  obtain ⟨z0, z1, z2⟩ := h
  exact ⟨(b.cell (p := ⟨g, 0, none⟩) hl).trans z0, (b.cell (p := ⟨g, 1, none⟩) hl).trans z1, (b.cell (p := ⟨g, 2, none⟩) hl).trans z2⟩
theorem At.set {w : World} {g b k : Nat} {m : R} (h : At w g m) (hb : b ≠ g) (v : Value) : At (w.setCell ⟨b, k, none⟩ v) g m := by
  obtain ⟨z0, z1, z2⟩ := h
  exact ⟨(cell_far hb).trans z0, (cell_far hb).trans z1, (cell_far hb).trans z2⟩
theorem set_flat : ∀ (ms : List R) (i : Nat) (m : R), i < ms.length → (((flat ms).set (i * 3) (.string m.dig)).set (i * 3 + 1) (.int .i64 m.acc)).set (i * 3 + 2) (.int .i64 m.exp) = flat (ms.set i m)
  | [], i, m, h => by simp at h
  | x :: ms, 0, m, h => by
    simp only [List.set_cons_zero, flat_cons, R.cells, Nat.zero_mul, Nat.zero_add, List.cons_append, List.nil_append, List.set_cons_succ]
  | x :: ms, i + 1, m, h => by
    have ih := set_flat ms i m (by simpa using h)
    rw [List.set_cons_succ, flat_cons, flat_cons, ← ih]
    have hl : x.cells.length = 3 := rfl
    rw [List.set_append_right _ _ (by omega), List.set_append_right _ _ (by omega), List.set_append_right _ _ (by omega)]
    rw [hl, show (i + 1) * 3 - 3 = i * 3 by omega, show (i + 1) * 3 + 1 - 3 = i * 3 + 1 by omega, show (i + 1) * 3 + 2 - 3 = i * 3 + 2 by omega]
theorem owns.put {w : World} {B c g n : Nat} {ms : List R} (h : owns w B (.slice (some ⟨g, 0, none⟩) n c) ms) (hn : ms.length = n) (i : Nat) (hi : i < ms.length) (x : R) :
    owns ((((w).setCell ⟨g, i * 3, none⟩ (.string x.dig)).setCell ⟨g, i * 3 + 1, none⟩ (.int .i64 x.acc)).setCell ⟨g, i * 3 + 2, none⟩ (.int .i64 x.exp)) B (.slice (some ⟨g, 0, none⟩) n c) (ms.set i x) := by
  unfold owns
  rw [List.length_set, ← set_flat ms i x hi]
  subst hn
  have hl := flat_len ms
  unfold owns at h
  have k : ∀ j, j < 3 → i * 3 + j < ms.length * 3 := fun j hj => by omega
  have h0 := ownsRow_put h (k := i * 3) (by rw [hl]; exact k 0 (by omega)) (.string x.dig)
  have h1 := ownsRow_put h0 (k := i * 3 + 1) (by simp only [List.length_set, hl]; exact k 1 (by omega)) (.int .i64 x.acc)
  exact ownsRow_put h1 (k := i * 3 + 2) (by simp only [List.length_set, hl]; exact k 2 (by omega)) (.int .i64 x.exp)
theorem set1_flat : ∀ (ms : List R) (i k : Nat) (v : Value) (y : R), i < ms.length → k < 3 → y.cells = (ms[i]?.getD zero).cells.set k v → (flat ms).set (i * 3 + k) v = flat (ms.set i y)
  | [], i, k, v, y, h, _, _ => by simp at h
  | x :: ms, 0, k, v, y, h, hk, hy => by
    simp only [List.getElem?_cons_zero, Option.getD_some] at hy
    rw [List.set_cons_zero, flat_cons, flat_cons, hy, Nat.zero_mul, Nat.zero_add, List.set_append_left _ _ (by simp [R.cells]; omega)]
  | x :: ms, i + 1, k, v, y, h, hk, hy => by
    have ih := set1_flat ms i k v y (by simpa using h) hk (by simpa using hy)
    have hl : x.cells.length = 3 := rfl
    rw [List.set_cons_succ, flat_cons, flat_cons, ← ih, List.set_append_right _ _ (by omega)]
    rw [hl, show (i + 1) * 3 + k - 3 = i * 3 + k by omega]
theorem owns.put1 {w : World} {B c g n : Nat} {ms : List R} (h : owns w B (.slice (some ⟨g, 0, none⟩) n c) ms) (i k : Nat) (hi : i < ms.length) (hk : k < 3) (v : Value) (y : R) (hy : y.cells = (ms[i]?.getD zero).cells.set k v) :
    owns (w.setCell ⟨g, i * 3 + k, none⟩ v) B (.slice (some ⟨g, 0, none⟩) n c) (ms.set i y) := by
  have hn : n = ms.length := by
    rcases h.2 with ⟨e1, _⟩ | ⟨g', cap', cur, e1, r⟩
    · simp at e1
    · simp only [Value.slice.injEq] at e1
      exact e1.2.1
  subst hn
  unfold owns
  rw [List.length_set, ← set1_flat ms i k v y hi hk hy]
  exact ownsRow_put h (by rw [flat_len]; have := Nat.mul_le_mul_right 3 (show i + 1 ≤ ms.length from hi); omega) v
theorem set_at (ms : List R) (i : Nat) (y : R) (hi : i < ms.length) : (ms.set i y)[i]?.getD zero = y := by
  rw [List.getElem?_eq_getElem (by simpa using hi)]
  simp
theorem below_put {B g o : Nat} {w W : World} (b : Below B w W) (hg : B ≤ g) (v0 v1 v2 : Value) : Below B w ((((W).setCell ⟨g, o, none⟩ v0).setCell ⟨g, o + 1, none⟩ v1).setCell ⟨g, o + 2, none⟩ v2) :=
  (((b).setCell hg _).setCell hg _).setCell hg _

theorem info : (Tryd.prog.info? 47).map (fun i => (i.zero, i.size, i.bytes)) = some (some (.agg #[.string ⟨#[]⟩, .int .i64 0, .int .i64 0]), 3, 32) := by kernel_rfl
theorem slice_not_nil (a : Addr) (n c : Nat) (w : World) : (binOp .eql 25 (.slice (some a) n c) (.slice none 0 0)).run Tryd.prog w = .ok (.bool false) w := by kernel_rfl
theorem slice_nil (n c : Nat) (w : World) : (binOp .eql 25 (.slice none n c) (.slice none 0 0)).run Tryd.prog w = .ok (.bool true) w := by kernel_rfl
end Go.Proofs.YtkihleecjgoipaaDoor.Ses
