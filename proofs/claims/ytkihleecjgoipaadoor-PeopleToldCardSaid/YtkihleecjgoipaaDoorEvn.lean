/- api.Event by value: what its cells hold. -/
import Derived.Test.YtkihleecjgoipaaDoorSmall
namespace Go.Proofs.YtkihleecjgoipaaDoor
open Go.RowKit Go.Maps

structure Evn where
  kind : Int
  acc : Int
  pur : Int
  at_ : Int
  num : Int
  a : ByteArray
  b : ByteArray
  c : ByteArray
def Evn.agg (e : Evn) : Value := .agg #[.int .i64 e.kind, .int .i64 e.acc, .int .i64 e.pur, .int .i64 e.at_, .int .i64 e.num, .string e.a, .string e.b, .string e.c]
def Evn.obj (e : Evn) : Obj := .cells #[.int .i64 e.kind, .int .i64 e.acc, .int .i64 e.pur, .int .i64 e.at_, .int .i64 e.num, .string e.a, .string e.b, .string e.c] 29
/-- The block g holds the event. -/
def EvAt (w : World) (g : Nat) (e : Evn) : Prop := w.cell? ⟨g, 0, none⟩ = some (.int .i64 e.kind) ∧ w.cell? ⟨g, 1, none⟩ = some (.int .i64 e.acc) ∧ w.cell? ⟨g, 2, none⟩ = some (.int .i64 e.pur) ∧ w.cell? ⟨g, 3, none⟩ = some (.int .i64 e.at_) ∧
    w.cell? ⟨g, 4, none⟩ = some (.int .i64 e.num) ∧ w.cell? ⟨g, 5, none⟩ = some (.string e.a) ∧ w.cell? ⟨g, 6, none⟩ = some (.string e.b) ∧ w.cell? ⟨g, 7, none⟩ = some (.string e.c)
theorem EvAt.of {w : World} {g : Nat} {e : Evn} (h : w.heap[g]? = some e.obj) : EvAt w g e := by
  refine ⟨?_, ?_, ?_, ?_, ?_, ?_, ?_, ?_⟩ <;> rw [Lib.cell_of_heap h] <;> rfl
theorem EvAt.new (w : World) (e : Evn) : EvAt (w.alloc e.obj) w.heap.size e := EvAt.of (heap_new w e.obj)
theorem EvAt.below {w w2 : World} {g : Nat} {e : Evn} (h : EvAt w g e) {B : Nat} (b : Below B w w2) (hl : g < B) : EvAt w2 g e := by
  obtain ⟨z0, z1, z2, z3, z4, z5, z6, z7⟩ := h
  exact ⟨(b.cell (p := ⟨g, 0, none⟩) hl).trans z0, (b.cell (p := ⟨g, 1, none⟩) hl).trans z1, (b.cell (p := ⟨g, 2, none⟩) hl).trans z2, (b.cell (p := ⟨g, 3, none⟩) hl).trans z3, (b.cell (p := ⟨g, 4, none⟩) hl).trans z4, (b.cell (p := ⟨g, 5, none⟩) hl).trans z5, (b.cell (p := ⟨g, 6, none⟩) hl).trans z6, (b.cell (p := ⟨g, 7, none⟩) hl).trans z7⟩
end Go.Proofs.YtkihleecjgoipaaDoor
