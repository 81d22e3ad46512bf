/- CasesRipe: the four arrays beside the row. -/
import Derived.Test.YtcidllckmidkoaaDoorCriP
import Derived.OneCell
import Derived.Deep.MidRow
namespace Go.Proofs.YtcidllckmidkoaaDoor
open Go.RowKit Go.Maps

/-- The arrays open, at, need, by lie in the blocks b0 to b3. -/
structure AR4 (w : World) (b0 b1 b2 b3 : Nat) (O : Nat → Bool) (T N : Nat → Int) (Y : Nat → Nat → Bool) : Prop where
  l0 : b0 < w.heap.size
  l1 : b1 < w.heap.size
  l2 : b2 < w.heap.size
  l3 : b3 < w.heap.size
  ne : b0 ≠ b1 ∧ b0 ≠ b2 ∧ b0 ≠ b3 ∧ b1 ≠ b2 ∧ b1 ≠ b3 ∧ b2 ≠ b3
  o : ∀ k, k < 13 → w.cell? ⟨b0, k, none⟩ = some (.bool (O k))
  t : ∀ k, k < 13 → w.cell? ⟨b1, k, none⟩ = some (.int .i64 (T k))
  n : ∀ k, k < 13 → w.cell? ⟨b2, k, none⟩ = some (.int .i64 (N k))
  y : ∀ k j, k < 13 → j < 8 → w.cell? ⟨b3, k * 8 + j, none⟩ = some (.bool (Y k j))
  f0 : ∀ j, w.frozen? ⟨b0, j, none⟩ = false
  f1 : ∀ j, w.frozen? ⟨b1, j, none⟩ = false
  f2 : ∀ j, w.frozen? ⟨b2, j, none⟩ = false
  f3 : ∀ j, w.frozen? ⟨b3, j, none⟩ = false
section
variable {w w' : World} {b0 b1 b2 b3 : Nat} {O : Nat → Bool} {T N : Nat → Int} {Y : Nat → Nat → Bool}
theorem AR4.below (h : AR4 w b0 b1 b2 b3 O T N Y) (bl : Below w.heap.size w w') : AR4 w' b0 b1 b2 b3 O T N Y :=
  ⟨Nat.lt_of_lt_of_le h.l0 bl.size, Nat.lt_of_lt_of_le h.l1 bl.size, Nat.lt_of_lt_of_le h.l2 bl.size, Nat.lt_of_lt_of_le h.l3 bl.size, h.ne,
   fun k hk => (bl.cell (p := ⟨b0, k, none⟩) h.l0).trans (h.o k hk), fun k hk => (bl.cell (p := ⟨b1, k, none⟩) h.l1).trans (h.t k hk), fun k hk => (bl.cell (p := ⟨b2, k, none⟩) h.l2).trans (h.n k hk), fun k j hk hj => (bl.cell (p := ⟨b3, k * 8 + j, none⟩) h.l3).trans (h.y k j hk hj),
   fun j => (bl.frozen (p := ⟨b0, j, none⟩) h.l0).trans (h.f0 j), fun j => (bl.frozen (p := ⟨b1, j, none⟩) h.l1).trans (h.f1 j), fun j => (bl.frozen (p := ⟨b2, j, none⟩) h.l2).trans (h.f2 j), fun j => (bl.frozen (p := ⟨b3, j, none⟩) h.l3).trans (h.f3 j)⟩
theorem far_cell (w : World) {b c : Nat} (k j : Nat) (v : Value) (h : b ≠ c) : (w.setCell ⟨b, k, none⟩ v).cell? ⟨c, j, none⟩ = w.cell? ⟨c, j, none⟩ := by
  refine World.cell?_setCell_other _ _ _ _ ?_
  intro q
  exact h (by injection q)
theorem off_cell (w : World) {b k j : Nat} (v : Value) (h : k ≠ j) : (w.setCell ⟨b, k, none⟩ v).cell? ⟨b, j, none⟩ = w.cell? ⟨b, j, none⟩ := by
  refine World.cell?_setCell_other _ _ _ _ ?_
  intro q
  exact h (by injection q)
theorem size_setCell (w : World) (a : Addr) (v : Value) : (w.setCell a v).heap.size = w.heap.size := by simp [World.setCell]
theorem AR4.setO (h : AR4 w b0 b1 b2 b3 O T N Y) (k : Nat) (hk : k < 13) (v : Bool) : AR4 (w.setCell ⟨b0, k, none⟩ (.bool v)) b0 b1 b2 b3 (upd O k v) T N Y := by
  obtain ⟨n1, n2, n3, n4, n5, n6⟩ := h.ne
  refine ⟨by rw [size_setCell]; exact h.l0, by rw [size_setCell]; exact h.l1, by rw [size_setCell]; exact h.l2, by rw [size_setCell]; exact h.l3, h.ne, fun j hj => ?_, fun j hj => by rw [far_cell _ _ _ _ n1]; exact h.t j hj, fun j hj => by rw [far_cell _ _ _ _ n2]; exact h.n j hj, fun i j hi hj => by rw [far_cell _ _ _ _ n3]; exact h.y i j hi hj, fun j => by rw [World.frozen?_setCell]; exact h.f0 j, fun j => by rw [World.frozen?_setCell]; exact h.f1 j, fun j => by rw [World.frozen?_setCell]; exact h.f2 j, fun j => by rw [World.frozen?_setCell]; exact h.f3 j⟩
  by_cases e : j = k
  · subst e; rw [upd_same]; exact World.cell?_setCell_same _ _ _ (h.o j hj)
  · rw [upd_other O _ e, off_cell _ _ (Ne.symm e)]; exact h.o j hj
theorem AR4.setT (h : AR4 w b0 b1 b2 b3 O T N Y) (k : Nat) (hk : k < 13) (v : Int) : AR4 (w.setCell ⟨b1, k, none⟩ (.int .i64 v)) b0 b1 b2 b3 O (upd T k v) N Y := by
  obtain ⟨n1, n2, n3, n4, n5, n6⟩ := h.ne
  refine ⟨by rw [size_setCell]; exact h.l0, by rw [size_setCell]; exact h.l1, by rw [size_setCell]; exact h.l2, by rw [size_setCell]; exact h.l3, h.ne, fun j hj => by rw [far_cell _ _ _ _ (Ne.symm n1)]; exact h.o j hj, fun j hj => ?_, fun j hj => by rw [far_cell _ _ _ _ n4]; exact h.n j hj, fun i j hi hj => by rw [far_cell _ _ _ _ n5]; exact h.y i j hi hj, fun j => by rw [World.frozen?_setCell]; exact h.f0 j, fun j => by rw [World.frozen?_setCell]; exact h.f1 j, fun j => by rw [World.frozen?_setCell]; exact h.f2 j, fun j => by rw [World.frozen?_setCell]; exact h.f3 j⟩
  by_cases e : j = k
  · subst e; rw [upd_same]; exact World.cell?_setCell_same _ _ _ (h.t j hj)
  · rw [upd_other T _ e, off_cell _ _ (Ne.symm e)]; exact h.t j hj
theorem AR4.setN (h : AR4 w b0 b1 b2 b3 O T N Y) (k : Nat) (hk : k < 13) (v : Int) : AR4 (w.setCell ⟨b2, k, none⟩ (.int .i64 v)) b0 b1 b2 b3 O T (upd N k v) Y := by
  obtain ⟨n1, n2, n3, n4, n5, n6⟩ := h.ne
  refine ⟨by rw [size_setCell]; exact h.l0, by rw [size_setCell]; exact h.l1, by rw [size_setCell]; exact h.l2, by rw [size_setCell]; exact h.l3, h.ne, fun j hj => by rw [far_cell _ _ _ _ (Ne.symm n2)]; exact h.o j hj, fun j hj => by rw [far_cell _ _ _ _ (Ne.symm n4)]; exact h.t j hj, fun j hj => ?_, fun i j hi hj => by rw [far_cell _ _ _ _ n6]; exact h.y i j hi hj, fun j => by rw [World.frozen?_setCell]; exact h.f0 j, fun j => by rw [World.frozen?_setCell]; exact h.f1 j, fun j => by rw [World.frozen?_setCell]; exact h.f2 j, fun j => by rw [World.frozen?_setCell]; exact h.f3 j⟩
  by_cases e : j = k
  · subst e; rw [upd_same]; exact World.cell?_setCell_same _ _ _ (h.n j hj)
  · rw [upd_other N _ e, off_cell _ _ (Ne.symm e)]; exact h.n j hj
theorem AR4.setY (h : AR4 w b0 b1 b2 b3 O T N Y) (k i : Nat) (hk : k < 13) (hi : i < 8) (v : Bool) : AR4 (w.setCell ⟨b3, k * 8 + i, none⟩ (.bool v)) b0 b1 b2 b3 O T N (upd Y k (upd (Y k) i v)) := by
  obtain ⟨n1, n2, n3, n4, n5, n6⟩ := h.ne
  refine ⟨by rw [size_setCell]; exact h.l0, by rw [size_setCell]; exact h.l1, by rw [size_setCell]; exact h.l2, by rw [size_setCell]; exact h.l3, h.ne, fun j hj => by rw [far_cell _ _ _ _ (Ne.symm n3)]; exact h.o j hj, fun j hj => by rw [far_cell _ _ _ _ (Ne.symm n5)]; exact h.t j hj, fun j hj => by rw [far_cell _ _ _ _ (Ne.symm n6)]; exact h.n j hj, fun m j hm hj => ?_, fun j => by rw [World.frozen?_setCell]; exact h.f0 j, fun j => by rw [World.frozen?_setCell]; exact h.f1 j, fun j => by rw [World.frozen?_setCell]; exact h.f2 j, fun j => by rw [World.frozen?_setCell]; exact h.f3 j⟩
  by_cases e : m = k
  · subst e
    rw [upd_same]
    by_cases e2 : j = i
    · subst e2; rw [upd_same]; exact World.cell?_setCell_same _ _ _ (h.y m j hm hj)
    · rw [upd_other _ _ e2, off_cell _ _ (by omega)]; exact h.y m j hm hj
  · rw [upd_other _ _ e, off_cell _ _ (by omega)]; exact h.y m j hm hj
theorem AR4.congrY {Y2 : Nat → Nat → Bool} (h : AR4 w b0 b1 b2 b3 O T N Y) (e : ∀ k j, k < 13 → j < 8 → Y k j = Y2 k j) : AR4 w b0 b1 b2 b3 O T N Y2 :=
  ⟨h.l0, h.l1, h.l2, h.l3, h.ne, h.o, h.t, h.n, fun k j hk hj => by rw [← e k j hk hj]; exact h.y k j hk hj, h.f0, h.f1, h.f2, h.f3⟩
theorem AR4.clrY (h : AR4 w b0 b1 b2 b3 O T N Y) (k : Nat) (hk : k < 13) : AR4 ((((((((w.setCell ⟨b3, k * 8, none⟩ (.bool false)).setCell ⟨b3, k * 8 + 1, none⟩ (.bool false)).setCell ⟨b3, k * 8 + 2, none⟩ (.bool false)).setCell ⟨b3, k * 8 + 3, none⟩ (.bool false)).setCell ⟨b3, k * 8 + 4, none⟩ (.bool false)).setCell ⟨b3, k * 8 + 5, none⟩ (.bool false)).setCell ⟨b3, k * 8 + 6, none⟩ (.bool false)).setCell ⟨b3, k * 8 + 7, none⟩ (.bool false)) b0 b1 b2 b3 O T N (upd Y k (fun _ => false)) := by
  refine ((((((((h.setY k 0 hk (by omega) false).setY k 1 hk (by omega) false).setY k 2 hk (by omega) false).setY k 3 hk (by omega) false).setY k 4 hk (by omega) false).setY k 5 hk (by omega) false).setY k 6 hk (by omega) false).setY k 7 hk (by omega) false).congrY fun m j hm hj => ?_
  by_cases e : m = k
  · subst e
    have hc : j = 0 ∨ j = 1 ∨ j = 2 ∨ j = 3 ∨ j = 4 ∨ j = 5 ∨ j = 6 ∨ j = 7 := by omega
    rcases hc with rfl | rfl | rfl | rfl | rfl | rfl | rfl | rfl <;> simp [upd]
  · simp [upd, e]
end
/-- A row that stands behind the arrays keeps through their stores. -/
theorem mowns.set {w : World} {B b k : Nat} {v : Value} {L : List Cas} (h : mowns w B v L) (hb : b < B) (x : Value) : mowns (w.setCell ⟨b, k, none⟩ x) B v L :=
  ownsRow_setCell_other h (fun e => by have := (World.ownsRow.lt h b e).1; omega) x

/-- Eight marks taken away at once. -/
theorem set8 (w : World) (b o : Nat) : w.setCells b o (#[.bool false, .bool false, .bool false, .bool false, .bool false, .bool false, .bool false, .bool false] : Array Value).toList = (((((((w.setCell ⟨b, o, none⟩ (.bool false)).setCell ⟨b, o + 1, none⟩ (.bool false)).setCell ⟨b, o + 2, none⟩ (.bool false)).setCell ⟨b, o + 3, none⟩ (.bool false)).setCell ⟨b, o + 4, none⟩ (.bool false)).setCell ⟨b, o + 5, none⟩ (.bool false)).setCell ⟨b, o + 6, none⟩ (.bool false)).setCell ⟨b, o + 7, none⟩ (.bool false) := rfl
theorem AR4.there {w : World} {b0 b1 b2 b3 : Nat} {O : Nat → Bool} {T N : Nat → Int} {Y : Nat → Nat → Bool} (h : AR4 w b0 b1 b2 b3 O T N Y) (k : Nat) (hk : k < 13) : w.there b3 (k * 8) 8 :=
  fun j hj => ⟨by rw [h.y k j hk hj]; rfl, h.f3 _⟩
theorem AR4.clr8 {w : World} {b0 b1 b2 b3 : Nat} {O : Nat → Bool} {T N : Nat → Int} {Y : Nat → Nat → Bool} (h : AR4 w b0 b1 b2 b3 O T N Y) (k : Nat) (hk : k < 13) : AR4 (w.setCells b3 (k * 8) (#[.bool false, .bool false, .bool false, .bool false, .bool false, .bool false, .bool false, .bool false] : Array Value).toList) b0 b1 b2 b3 O T N (upd Y k (fun _ => false)) := by
  rw [set8]
  exact h.clrY k hk
theorem mowns.set8 {w : World} {B b o : Nat} {v : Value} {L : List Cas} (h : mowns w B v L) (hb : b < B) : mowns (w.setCells b o (#[.bool false, .bool false, .bool false, .bool false, .bool false, .bool false, .bool false, .bool false] : Array Value).toList) B v L := by
  rw [Go.Proofs.YtcidllckmidkoaaDoor.set8]
  exact ((((((((h.set hb _).set hb _).set hb _).set hb _).set hb _).set hb _).set hb _).set hb _)
theorem below_set8 {B b o : Nat} {w w' : World} (h : Below B w w') (hb : B ≤ b) : Below B w (w'.setCells b o (#[.bool false, .bool false, .bool false, .bool false, .bool false, .bool false, .bool false, .bool false] : Array Value).toList) := by
  rw [set8]
  exact (((((((h.setCell hb _).setCell hb _).setCell hb _).setCell hb _).setCell hb _).setCell hb _).setCell hb _).setCell hb _
end Go.Proofs.YtcidllckmidkoaaDoor
