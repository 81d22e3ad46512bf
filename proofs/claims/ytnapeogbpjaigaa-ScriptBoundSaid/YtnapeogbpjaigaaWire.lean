/- What a request's kind has, whether a request may be, and its bytes. -/
import Derived.Test.YtnapeogbpjaigaaPack
import Derived.Laws.Tables
namespace Go.Proofs.Ytnapeogbpjaigaa
open Go.RowKit

def b5 (a b c d e : Bool) : Value := .agg #[.bool a, .bool b, .bool c, .bool d, .bool e]
/-- The row of the kinds, cell by cell. -/
def kindCells : Array Value := (
  [false, false, false, false, false,  true, false, false, true, false,  true, false, true, false, false,  true, false, false, false, true,
   true, false, true, false, false,  true, false, true, false, false,  true, false, true, true, false,  true, false, false, true, false,
   false, true, true, false, false,  true, true, true, false, false,  true, true, false, true, false,  false, true, true, false, false,
   true, false, false, false, false,  true, true, true, false, false,  false, false, true, false, false,  true, false, false, true, false,
   false, false, true, false, false].map Value.bool).toArray
def noKinds : Array Value := (List.replicate 85 (Value.bool false)).toArray
theorem zeroKinds (w : World) : (zeroValue 70).run Try.prog w = .ok (.agg noKinds) w := by kernel_rfl
theorem wpList_build_to {P : Program} {ops : Array Oper} {rest : List Oper} {o : Oper} {a : Act} {w : World} {Q : Exit → Act → World → Prop} (hg : o.guard = none) (t : TypeId) (parts : Array (Nat × Operand)) (ho : o.op = .build t parts)
    (cells : Array Value) (hf : P.built t (parts.map fun (i, x) => (i, a.eval x)).toList = some cells)
    (h : wpList P ops Q rest (a.put o.dst (.agg cells)) w) : wpList P ops Q (o :: rest) a w :=
  wpList_build hg t parts ho (by rw [hf]; rfl) (by rw [hf]; exact h)

theorem wpList_store_kinds {ops : Array Oper} {rest : List Oper} {o : Oper} {a : Act} {W : World} {Q : Exit → Act → World → Prop} (hgd : o.guard = none) (x y : Operand) (ho : o.op = .store 70 x y)
    (hx : a.eval x = .pointer (some ⟨W.heap.size, 0, none⟩)) (hy : a.eval y = .agg kindCells)
    (h : ∀ w2 : World, (∀ j, w2.cell? ⟨W.heap.size, j, none⟩ = kindCells[j]?) → Below W.heap.size W w2 → wpList Try.prog ops Q rest (a.put o.dst undef) w2) :
    wpList Try.prog ops Q (o :: rest) a (W.alloc (.cells noKinds 70)) := by
  have hg : (W.alloc (.cells noKinds 70)).heap[W.heap.size]? = some (.cells noKinds 70 (0, 0)) := by
    show (W.heap.push _)[W.heap.size]? = _
    simp
  refine wpList_store_row hgd 70 x y ho _ kindCells hx hy _ _ hg (by kernel_rfl) (by rfl) (by kernel_rfl) ?_
  refine h _ (fun j => cell_setRow_same _ _ _ _ _ _ _ hg) ?_
  refine ⟨rfl, rfl, rfl, by simp, fun k hk => ?_⟩
  rw [setRow_other _ _ _ _ (by omega), Lib.alloc_old W _ k hk]

set_option maxHeartbeats 4000000 in
set_option maxRecDepth 100000 in
theorem of_some (k : Nat) (hk : 1 ≤ k ∧ k ≤ 16) (a b c d e : Bool) (h0 : kindCells[k * 5]? = some (.bool a)) (h1 : kindCells[k * 5 + 1]? = some (.bool b)) (h2 : kindCells[k * 5 + 2]? = some (.bool c)) (h3 : kindCells[k * 5 + 3]? = some (.bool d)) (h4 : kindCells[k * 5 + 4]? = some (.bool e)) (w : World) :
    Calls Try.prog 27 #[.int .i64 k] w fun e' w' => e' = .returned (.tuple #[b5 a b c d e, .bool true]) ∧ Below w.heap.size w w' := by
  have hz := zeroKinds
  have h0' := Lib.hid h0
  have h1' := Lib.hid h1
  have h2' := Lib.hid h2
  have h3' := Lib.hid h3
  have h4' := Lib.hid h4
  have ha : ¬ ((k : Int) < 1) := by omega
  have hb : ¬ (17 ≤ (k : Int)) := by omega
  clear h0 h1 h2 h3 h4
  go_enter Try.func27, Try.ntmps27
  go_wp2_with (first | (refine wpList_build_to rfl 70 _ rfl kindCells (by kernel_rfl) ?_) | (with_reducible refine wpList_store_kinds ?ha (.tmp 10) (.tmp 34) rfl ?hx ?hy ?_))
  all_goals try rfl
  intro w2 hcl hbl
  have c0 : w2.cell? ⟨w.heap.size + 1 + 1 + 1 + 1 + 1 + 1 + 1, k * 5, none⟩ = some (.bool a) := (hcl _).trans h0'.out
  have c1 : w2.cell? ⟨w.heap.size + 1 + 1 + 1 + 1 + 1 + 1 + 1, k * 5 + 1, none⟩ = some (.bool b) := (hcl _).trans h1'.out
  have c2 : w2.cell? ⟨w.heap.size + 1 + 1 + 1 + 1 + 1 + 1 + 1, k * 5 + 2, none⟩ = some (.bool c) := (hcl _).trans h2'.out
  have c3 : w2.cell? ⟨w.heap.size + 1 + 1 + 1 + 1 + 1 + 1 + 1, k * 5 + 3, none⟩ = some (.bool d) := (hcl _).trans h3'.out
  have c4 : w2.cell? ⟨w.heap.size + 1 + 1 + 1 + 1 + 1 + 1 + 1, k * 5 + 4, none⟩ = some (.bool e) := (hcl _).trans h4'.out
  have r0 : w2.cell? ⟨w.heap.size, 0, none⟩ = some (.bool false) := (hbl.cell (p := ⟨w.heap.size, 0, none⟩) (by show w.heap.size < _; omega)).trans (by go_simp)
  have r1 : w2.cell? ⟨w.heap.size, 1, none⟩ = some (.bool false) := (hbl.cell (p := ⟨w.heap.size, 1, none⟩) (by show w.heap.size < _; omega)).trans (by go_simp)
  have r2 : w2.cell? ⟨w.heap.size, 2, none⟩ = some (.bool false) := (hbl.cell (p := ⟨w.heap.size, 2, none⟩) (by show w.heap.size < _; omega)).trans (by go_simp)
  have r3 : w2.cell? ⟨w.heap.size, 3, none⟩ = some (.bool false) := (hbl.cell (p := ⟨w.heap.size, 3, none⟩) (by show w.heap.size < _; omega)).trans (by go_simp)
  have r4 : w2.cell? ⟨w.heap.size, 4, none⟩ = some (.bool false) := (hbl.cell (p := ⟨w.heap.size, 4, none⟩) (by show w.heap.size < _; omega)).trans (by go_simp)
  have f0 : w2.frozen? ⟨w.heap.size, 0, none⟩ = false := (hbl.frozen (p := ⟨w.heap.size, 0, none⟩) (by show w.heap.size < _; omega)).trans (by go_simp)
  have f1 : w2.frozen? ⟨w.heap.size, 1, none⟩ = false := (hbl.frozen (p := ⟨w.heap.size, 1, none⟩) (by show w.heap.size < _; omega)).trans (by go_simp)
  have f2 : w2.frozen? ⟨w.heap.size, 2, none⟩ = false := (hbl.frozen (p := ⟨w.heap.size, 2, none⟩) (by show w.heap.size < _; omega)).trans (by go_simp)
  have f3 : w2.frozen? ⟨w.heap.size, 3, none⟩ = false := (hbl.frozen (p := ⟨w.heap.size, 3, none⟩) (by show w.heap.size < _; omega)).trans (by go_simp)
  have f4 : w2.frozen? ⟨w.heap.size, 4, none⟩ = false := (hbl.frozen (p := ⟨w.heap.size, 4, none⟩) (by show w.heap.size < _; omega)).trans (by go_simp)
  have hz2 : w.heap.size + 1 ≤ w2.heap.size := by have := hbl.size; simp at this; omega
  have HB := Lib.hid hbl
  clear hcl hbl h0' h1' h2' h3' h4'
  go_wp2
  refine bodyPost_ret (v := .tuple #[b5 a b c d e, .bool true]) (by simp [results, Try.results27, go_sem, b5, r0, r1, r2, r3, r4]) rfl ⟨rfl, ?_⟩
  have hbw : Below w.heap.size w w2 := Below.trans (below_alloc (below_alloc (below_alloc (below_alloc (below_alloc (below_alloc (below_alloc (Below.refl _ w) _) _) _) _) _) _) _) (HB.out.mono (by omega))
  exact below_set (below_set (below_set (below_set (below_set hbw _ 0 (Nat.le_refl _) _) _ 1 (Nat.le_refl _) _) _ 2 (Nat.le_refl _) _) _ 3 (Nat.le_refl _) _) _ 4 (Nat.le_refl _) _
end Go.Proofs.Ytnapeogbpjaigaa
