/- What rows of structs share, whatever their type. -/
import Derived.Test.YtkihleecjgoipaaGreatDoorSmall
import Derived.Test.YtkihleecjgoipaaGreatDoorWWords
import Derived.Maps.AppendAt
import Derived.Maps.OwnSet
import Derived.Deep.RegionLaw
import Derived.Laws.OwnMore
import Derived.Lib.AppendZeros
import Derived.OneCell
namespace Go.Proofs.YtkihleecjgoipaaGreatDoor.Rw
open Go.RowKit Go.Maps Go.Proofs.YtkihleecjgoipaaGreatDoorW.PrintWords Go.Proofs.YtkihleecjgoipaaGreatDoor

theorem addM (b o j : Nat) : (⟨b, o, none⟩ : Addr).add j = ⟨b, o + j, none⟩ := by
  unfold Addr.add
  split
  · rename_i h; subst h; rfl
  · rfl
theorem grown_bel {w w' : World} {row : Option Nat} (g : w.grownBy w' row) (h : ∀ k, row = some k → w.heap.size ≤ k) : Below w.heap.size w w' :=
  ⟨g.os, g.tape, g.output, g.size, fun k hk => g.block k hk (fun e => by have := h k e.symm; omega)⟩
theorem ownsRow_put {w : World} {B size n cap g k : Nat} {xs : List Value} {T : TypeId} (h : w.ownsRow B T size (.slice (some ⟨g, 0, none⟩) n cap) n xs) (hk : k < xs.length) (v : Value) : (w.setCell ⟨g, k, none⟩ v).ownsRow B T size (.slice (some ⟨g, 0, none⟩) n cap) n (xs.set k v) := by
  refine ⟨by rw [List.length_set]; exact h.1, ?_⟩
  rcases h.2 with ⟨e1, _⟩ | ⟨g', cap', cur, e1, r1, r2, r3, r4, r5, r6⟩
  · simp at e1
  · cases e1
    refine .inr ⟨g, cap, cur.setIfInBounds k v, rfl, r1, heap_setCell_same w g k cur T v r2, r3, r4, by simpa using r5, ?_⟩
    have hk2 : k < n * size := by rw [← h.1]; exact hk
    rw [← r6, Array.toList_setIfInBounds, List.take_set]
theorem grown_refl (w : World) (r : Option Nat) : w.grownBy w r := ⟨rfl, rfl, rfl, Nat.le_refl _, fun _ _ _ => rfl⟩
theorem grown_set (w : World) (g k : Nat) (v : Value) : w.grownBy (w.setCell ⟨g, k, none⟩ v) (some g) :=
  ⟨rfl, rfl, rfl, by simp [World.setCell], fun j _ hj => by
    simp only [World.setCell]
    rw [Array.getElem?_modify, if_neg (fun e => hj (by rw [e]))]⟩
theorem grown_of {w w' : World} {r : Option Nat} (b : Below w.heap.size w w') : w.grownBy w' r := ⟨b.os, b.tape, b.output, b.size, fun k hk _ => b.block k hk⟩
theorem grown_cell {w w' : World} {g b o : Nat} (h : w.grownBy w' (some g)) (hb : b < w.heap.size) (hne : b ≠ g) : w'.cell? ⟨b, o, none⟩ = w.cell? ⟨b, o, none⟩ := by
  have e := h.block b hb (by simpa using hne)
  simp only [World.cell?]
  rw [e]
theorem grown_below {w w' : World} {g B : Nat} (h : w.grownBy w' (some g)) (hg : B ≤ g) (hB : B ≤ w.heap.size) : Below B w w' :=
  ⟨h.os, h.tape, h.output, h.size, fun k hk => h.block k (by omega) (by simp; omega)⟩
theorem cell_far {w : World} {b c k j : Nat} {v : Value} (h : b ≠ c) : (w.setCell ⟨b, k, none⟩ v).cell? ⟨c, j, none⟩ = w.cell? ⟨c, j, none⟩ := by
  refine World.cell?_setCell_other _ _ _ _ ?_
  intro q
  exact h (by injection q)
theorem step_append_at {P : Program} {ops : Array Oper} {o : Oper} {a : Act} {w : World} {K : Act → World → Prop} {Q : Exit → Act → World → Prop} {E : Prop} (hg : o.guard = none) (d x : Operand) (t : TypeId)
    (hop : o.op = Op.call { callee := Callee.builtin Builtin.append, args := #[d, x], argTypes := #[t, t] }) (v1 v2 v' : Value) (h1 : a.eval d = v1) (h2 : a.eval x = v2) (w' : World)
    (hr : (Builtin.append_ #[t, t] o.type #[v1, v2]).run P w = .ok v' w') (hK : K (a.put o.dst v') w') : if Region.wanted o (yielded ops a.tmps) = true then Oper.wp P o a w K Q else E := by
  have hw : Region.wanted o (yielded ops a.tmps) = true := by simp [Region.wanted, hg]
  rw [if_pos hw]
  unfold Oper.wp
  simp [execOp, hop, resolve, invoke, builtin, h1, h2, hr, Result.andThen]
  exact hK

/-- Where the first lies that P answers; below 0, if there is none. -/
def idx {α : Type} (L : List α) (P : α → Bool) : Int := if L.findIdx P < L.length then (L.findIdx P : Int) else -1
section
variable {α : Type} {L : List α} {P : α → Bool} {d : α}
theorem pos_hit {k : Nat} (hk : k < L.length) (h : ∀ j, j < k → P (L[j]?.getD d) = false) (hh : P (L[k]?.getD d) = true) : L.findIdx P = k := by
  rw [List.findIdx_eq hk]
  rw [List.getElem?_eq_getElem hk] at hh
  refine ⟨hh, fun j hj => ?_⟩
  have := h j hj
  rw [List.getElem?_eq_getElem (by omega)] at this
  exact this
theorem pos_none (h : ∀ j, j < L.length → P (L[j]?.getD d) = false) : L.findIdx P = L.length := by
  rw [List.findIdx_eq_length]
  intro x hx
  obtain ⟨j, hj, rfl⟩ := List.mem_iff_getElem.1 hx
  have := h j hj
  rw [List.getElem?_eq_getElem hj] at this
  exact this
theorem any_idx (L : List α) (P : α → Bool) : L.any P = decide (0 ≤ idx L P) := by
  unfold idx
  by_cases h : L.findIdx P < L.length
  · rw [if_pos h, decide_eq_true (by omega), List.any_eq_true]
    exact ⟨_, List.getElem_mem h, List.findIdx_getElem (w := h)⟩
  · rw [if_neg h, decide_eq_false (by omega)]
    have h1 := List.findIdx_eq_length.1 (show L.findIdx P = L.length by have := List.findIdx_le_length (xs := L) (p := P); omega)
    rw [List.any_eq_false]
    intro x hx
    rw [h1 x hx]
    decide
/-- A row of which the first j were looked at, and i kept. -/
structure DF (L : List α) (P : α → Bool) (j i : Nat) (ms : List α) : Prop where
  len : ms.length = L.length
  lt : i < j
  le : j ≤ L.length
  tk : ms.take i = (L.take j).filter (fun x => !P x)
  dr : ms.drop j = L.drop j
theorem DF.at {ms : List α} {j i : Nat} (h : DF L P j i ms) (d : α) (hj : j < L.length) : ms[j]?.getD d = L[j] := by
  have e := congrArg (fun l => l[0]?) h.dr
  simp only [List.getElem?_drop, Nat.add_zero] at e
  rw [e, List.getElem?_eq_getElem hj]
  rfl
theorem DF.keep {ms : List α} {j i : Nat} (h : DF L P j i ms) (hj : j < L.length) (hk : P L[j] = false) : DF L P (j + 1) (i + 1) (ms.set i L[j]) := by
  have hl := h.len
  have ht := h.lt
  refine ⟨by rw [List.length_set]; exact h.len, by omega, by omega, ?_, ?_⟩
  · rw [List.take_succ_eq_append_getElem (by rw [List.length_set]; omega), List.getElem_set_self, List.take_set_of_le (by omega), h.tk, List.take_succ_eq_append_getElem hj, List.filter_append]
    congr 1
    simp [hk]
  · rw [List.drop_set_of_lt (by omega)]
    have e := congrArg (List.drop 1) h.dr
    rw [List.drop_drop, List.drop_drop] at e
    exact e
theorem DF.go {ms : List α} {j i : Nat} (h : DF L P j i ms) (hj : j < L.length) (hk : P L[j] = true) : DF L P (j + 1) i ms := by
  have ht := h.lt
  refine ⟨h.len, by omega, by omega, ?_, ?_⟩
  · rw [h.tk, List.take_succ_eq_append_getElem hj, List.filter_append]
    simp [hk]
  · have e := congrArg (List.drop 1) h.dr
    rw [List.drop_drop, List.drop_drop] at e
    exact e
theorem pos_lt (h : L.findIdx P < L.length) : P L[L.findIdx P] = true ∧ ∀ j (hj : j < L.findIdx P), P (L[j]'(by omega)) = false := by
  refine ⟨List.findIdx_getElem (w := h), fun j hj => ?_⟩
  have := List.not_of_lt_findIdx (p := P) (xs := L) hj
  simpa using this
theorem take_all_kept : ∀ k, (hk : k ≤ L.length) → (∀ j (hj : j < k), P (L[j]'(by omega)) = false) → (L.take k).filter (fun x => !P x) = L.take k
  | k, hk, h => by
    rw [List.filter_eq_self]
    intro x hx
    obtain ⟨j, hj, rfl⟩ := List.mem_iff_getElem.1 hx
    rw [List.length_take] at hj
    rw [List.getElem_take, h j (by omega)]
    rfl
theorem DF.begin (h : L.findIdx P < L.length) : DF L P (L.findIdx P + 1) (L.findIdx P) L := by
  obtain ⟨h1, h2⟩ := pos_lt h
  refine ⟨rfl, by omega, by omega, ?_, rfl⟩
  rw [List.take_succ_eq_append_getElem h, List.filter_append, take_all_kept _ (by omega) h2]
  simp [h1]
theorem filter_none (h : ¬ L.findIdx P < L.length) : L.filter (fun x => !P x) = L := by
  have h1 := List.findIdx_eq_length.1 (show L.findIdx P = L.length by have := List.findIdx_le_length (xs := L) (p := P); omega)
  rw [List.filter_eq_self]
  intro x hx
  rw [h1 x hx]
  rfl
end
end Go.Proofs.YtkihleecjgoipaaGreatDoor.Rw
