/- A script of law14's steps that came in: each step's eleven cells. -/
import Derived.Test.YtleobnfmbhobgaaDoorAwk14
import Derived.Lib.SmallJoins
import Derived.Deep.Slices
import Derived.WalkKit
import Derived.ProofKit
import Derived.OpenShut
namespace Go.Proofs.YtleobnfmbhobgaaDoor
open Go.RowKit Go.Maps

structure OpV where
  kind : Int
  n : Int
  size : Int
  ticks : Int
  raw : Bool
  id : Nat
  dest : ByteArray
  body : ByteArray
  att : Int
  due : Int
  dead : Bool
def OpV.cells (o : OpV) : List Value := [.int .i64 o.kind, .int .i64 o.n, .int .i64 o.size, .int .i64 o.ticks, .bool o.raw, .int .u64 o.id, .string o.dest, .string o.body, .int .i64 o.att, .int .i64 o.due, .bool o.dead]
structure OpAt (w : World) (b q : Nat) (o : OpV) : Prop where
  c0 : w.cell? ⟨b, q, none⟩ = some (.int .i64 o.kind)
  c1 : w.cell? ⟨b, q + 1, none⟩ = some (.int .i64 o.n)
  c2 : w.cell? ⟨b, q + 2, none⟩ = some (.int .i64 o.size)
  c3 : w.cell? ⟨b, q + 3, none⟩ = some (.int .i64 o.ticks)
  c4 : w.cell? ⟨b, q + 4, none⟩ = some (.bool o.raw)
  c5 : w.cell? ⟨b, q + 5, none⟩ = some (.int .u64 o.id)
  c6 : w.cell? ⟨b, q + 6, none⟩ = some (.string o.dest)
  c7 : w.cell? ⟨b, q + 7, none⟩ = some (.string o.body)
  c8 : w.cell? ⟨b, q + 8, none⟩ = some (.int .i64 o.att)
  c9 : w.cell? ⟨b, q + 9, none⟩ = some (.int .i64 o.due)
  c10 : w.cell? ⟨b, q + 10, none⟩ = some (.bool o.dead)
theorem OpAt.below {B : Nat} {W w : World} {b q : Nat} {o : OpV} (h : OpAt W b q o) (bl : Below B W w) (hb : b < B) : OpAt w b q o :=
  ⟨(bl.cell (p := ⟨b, q, none⟩) hb).trans h.c0, (bl.cell (p := ⟨b, q + 1, none⟩) hb).trans h.c1, (bl.cell (p := ⟨b, q + 2, none⟩) hb).trans h.c2, (bl.cell (p := ⟨b, q + 3, none⟩) hb).trans h.c3, (bl.cell (p := ⟨b, q + 4, none⟩) hb).trans h.c4, (bl.cell (p := ⟨b, q + 5, none⟩) hb).trans h.c5, (bl.cell (p := ⟨b, q + 6, none⟩) hb).trans h.c6, (bl.cell (p := ⟨b, q + 7, none⟩) hb).trans h.c7, (bl.cell (p := ⟨b, q + 8, none⟩) hb).trans h.c8, (bl.cell (p := ⟨b, q + 9, none⟩) hb).trans h.c9, (bl.cell (p := ⟨b, q + 10, none⟩) hb).trans h.c10⟩

section
open Go.ChangeShapes Go.WideShapes Go.Joins Go.Deep
theorem list11 {α : Type} {l : List α} (h : l.length = 11) : ∃ c0 c1 c2 c3 c4 c5 c6 c7 c8 c9 c10, l = [c0, c1, c2, c3, c4, c5, c6, c7, c8, c9, c10] := by
  match l, h with
  | [c0, c1, c2, c3, c4, c5, c6, c7, c8, c9, c10], _ => exact ⟨c0, c1, c2, c3, c4, c5, c6, c7, c8, c9, c10, rfl⟩
theorem six_list {α : Type} {l : List α} (h : l.length = 6) : ∃ c0 c1 c2 c3 c4 c5, l = [c0, c1, c2, c3, c4, c5] := by
  match l, h with
  | [c0, c1, c2, c3, c4, c5], _ => exact ⟨c0, c1, c2, c3, c4, c5, rfl⟩
theorem trod_struct6 {H : Type} {enc : TypeId × Value → H} {P : Program} {w : World} {base : Nat} {spare : Nat → Bool} {held : Bool} {t : TypeId} {f0 f1 f2 f3 f4 f5 : Field} {fuel : Nat} {cs : List Value} {x : DataW H × List MemPlace} (ht : P.underlying t = some (.struct #[f0, f1, f2, f3, f4, f5])) (h : DataW.trod enc P w base spare held fuel t cs = some x) :
    ∃ y0 y1 y2 y3 y4 y5 n, DataW.trod enc P w base spare held n f0.type ((cs.drop f0.offset).take (P.cellsOf f0.type)) = some y0 ∧ DataW.trod enc P w base spare held n f1.type ((cs.drop f1.offset).take (P.cellsOf f1.type)) = some y1 ∧ DataW.trod enc P w base spare held n f2.type ((cs.drop f2.offset).take (P.cellsOf f2.type)) = some y2 ∧
      DataW.trod enc P w base spare held n f3.type ((cs.drop f3.offset).take (P.cellsOf f3.type)) = some y3 ∧ DataW.trod enc P w base spare held n f4.type ((cs.drop f4.offset).take (P.cellsOf f4.type)) = some y4 ∧ DataW.trod enc P w base spare held n f5.type ((cs.drop f5.offset).take (P.cellsOf f5.type)) = some y5 := by
  obtain ⟨xs, n, _, _, _, hlen, hf⟩ := DataW.trod_struct ht h
  obtain ⟨y0, y1, y2, y3, y4, y5, rfl⟩ := six_list (by simpa using hlen)
  exact ⟨y0, y1, y2, y3, y4, y5, n, by simpa using hf 0 f0 rfl, by simpa using hf 1 f1 rfl, by simpa using hf 2 f2 rfl, by simpa using hf 3 f3 rfl, by simpa using hf 4 f4 rfl, by simpa using hf 5 f5 rfl⟩
theorem cells_op : Tryd.prog.cellsOf 29 = 11 := by kernel_rfl
theorem cells_msg : Tryd.prog.cellsOf 27 = 6 := by kernel_rfl
theorem cells_i : Tryd.prog.cellsOf 3 = 1 := by kernel_rfl
theorem cells_i64 : Tryd.prog.cellsOf 2 = 1 := by kernel_rfl
theorem cells_u64 : Tryd.prog.cellsOf 25 = 1 := by kernel_rfl
theorem cells_b : Tryd.prog.cellsOf 4 = 1 := by kernel_rfl
theorem cells_s : Tryd.prog.cellsOf 9 = 1 := by kernel_rfl

theorem read_op {H : Type} {enc : TypeId × Value → H} {W : World} {base : Nat} {sp : Nat → Bool} {held : Bool} {n : Nat} {cs : List Value} {x : DataW H × List MemPlace}
    (h : DataW.trod enc Tryd.prog W base sp held n 29 cs = some x) : ∃ o : OpV, cs = o.cells ∧ o.id < 2 ^ 64 := by
  have hl := (DataW.trod_struct Tryd.underlying29 h)
  obtain ⟨y0, y1, y2, y3, y4, y5, k, t0, t1, t2, t3, t4, t5⟩ := trod_struct6 Tryd.underlying29 h
  have hlen : cs.length = 11 := by
    obtain ⟨xs, n, _, _, hc, _, _⟩ := hl
    rw [cells_op] at hc
    exact hc
  obtain ⟨c0, c1, c2, c3, c4, c5, c6, c7, c8, c9, c10, rfl⟩ := list11 hlen
  simp only [cells_msg, cells_i, cells_b, List.drop_succ_cons, List.drop_zero, List.take_succ_cons, List.take_zero] at t0 t1 t2 t3 t4 t5
  obtain ⟨z0, z1, z2, z3, z4, z5, k2, m0, m1, m2, m3, m4, m5⟩ := trod_struct6 Tryd.underlying27 t5
  simp only [cells_u64, cells_s, cells_i, cells_i64, cells_b, List.drop_succ_cons, List.drop_zero, List.take_succ_cons, List.take_zero] at m0 m1 m2 m3 m4 m5
  obtain ⟨a0, e0, _, _⟩ := DataW.trod_int Tryd.underlying3 t0
  obtain ⟨a1, e1, _, _⟩ := DataW.trod_int Tryd.underlying3 t1
  obtain ⟨a2, e2, _, _⟩ := DataW.trod_int Tryd.underlying3 t2
  obtain ⟨a3, e3, _, _⟩ := DataW.trod_int Tryd.underlying3 t3
  obtain ⟨a4, e4, _⟩ := DataW.trod_bool Tryd.underlying4 t4
  obtain ⟨a5, e5, _, w0⟩ := DataW.trod_int Tryd.underlying25 m0
  obtain ⟨a6, e6, _, _⟩ := DataW.trod_string Tryd.underlying9 m1
  obtain ⟨a7, e7, _, _⟩ := DataW.trod_string Tryd.underlying9 m2
  obtain ⟨a8, e8, _, _⟩ := DataW.trod_int Tryd.underlying3 m3
  obtain ⟨a9, e9, _, _⟩ := DataW.trod_int Tryd.underlying2 m4
  obtain ⟨a10, e10, _⟩ := DataW.trod_bool Tryd.underlying4 m5
  simp only [List.cons.injEq, and_true] at e0 e1 e2 e3 e4 e5 e6 e7 e8 e9 e10
  subst e0 e1 e2 e3 e4 e5 e6 e7 e8 e9 e10
  have hw : (0 : Int) ≤ a5 ∧ a5 ≤ 18446744073709551615 := by
    have q1 : IntKind.u64.min = 0 := by decide
    have q2 : IntKind.u64.max = 18446744073709551615 := by decide
    simp [Lit.wf, q1, q2] at w0
    exact w0
  refine ⟨⟨a0, a1, a2, a3, a4, a5.toNat, a6, a7, a8, a9, a10⟩, ?_, by show a5.toNat < 2 ^ 64; omega⟩
  simp [OpV.cells, Int.toNat_of_nonneg hw.1]
theorem add_twice (a : Addr) (i j : Nat) : (a.add i).add j = a.add (i + j) := by
  unfold Addr.add
  by_cases hj : j = 0
  · subst hj; simp
  · by_cases hi : i = 0
    · subst hi; simp
    · simp [hi, hj, Nat.add_assoc]
theorem read_ops {H : Type} {enc : TypeId × Value → H} {W : World} {a0 : Option Addr} {len cap : Nat} {d : DataW H} {p : List MemPlace}
    (h : DataW.Trod enc Tryd.prog W 0 (fun _ => true) true 22 (.slice a0 len cap) d p) :
    ∀ i, i < len → ∃ b off o, a0 = some ⟨b, off, none⟩ ∧ b < W.heap.size ∧ OpAt W b (off + i * 11) o ∧ o.id < 2 ^ 64 := by
  obtain ⟨fuel, hf⟩ := h
  rcases open_slice Tryd.underlying22 hf with ⟨hc, _⟩ | ⟨a, len', cap', m, k, D, Pl, hc, _, hl, hm, hmm, _, hall⟩
  · simp [Value.cells] at hc
    obtain ⟨_, rfl, _⟩ := hc
    exact fun i hi => by omega
  · simp [Value.cells] at hc
    obtain ⟨rfl, rfl, rfl⟩ := hc
    simp only [if_true] at hmm
    rw [cells_op] at hall
    have hR : ∀ i, i < len → ∃ o : OpV, o.id < 2 ^ 64 ∧ ∀ j v, o.cells[j]? = some v → W.cell? (a.add (i * 11 + j)) = some v := fun i hi => by
      obtain ⟨cs', h1, h2⟩ := hall i (by omega)
      obtain ⟨o, rfl, ho⟩ := read_op h2
      obtain ⟨_, _, hcell⟩ := World.cells?_some h1
      refine ⟨o, ho, fun j v hv => ?_⟩
      have hj := (List.getElem?_eq_some_iff.1 hv).1
      have e := hcell j (by simpa [OpV.cells] using hj)
      rw [add_twice] at e
      rw [e]
      exact hv
    intro i hi
    obtain ⟨b, off, sp⟩ := a
    have hsp : sp = none := by
      obtain ⟨o, _, h0⟩ := hR 0 (by omega)
      have h00 := h0 0 _ rfl
      cases sp with
      | none => rfl
      | some s =>
        have e : W.cell? ⟨b, off, some s⟩ = none := by
          unfold World.cell?
          split <;> simp
        have e2 : ((⟨b, off, some s⟩ : Addr).add (0 * 11 + 0)) = ⟨b, off, some s⟩ := by simp [Addr.add]
        rw [e2, e] at h00
        cases h00
    subst hsp
    obtain ⟨o, ho, hc⟩ := hR i hi
    have c : ∀ j v, o.cells[j]? = some v → W.cell? ⟨b, off + i * 11 + j, none⟩ = some v := fun j v hv => by
      have e := hc j v hv
      rwa [addM, ← Nat.add_assoc] at e
    exact ⟨b, off, o, rfl, World.block_lt_of_cell? W _ (c 0 _ rfl), ⟨c 0 _ rfl, c 1 _ rfl, c 2 _ rfl, c 3 _ rfl, c 4 _ rfl, c 5 _ rfl, c 6 _ rfl, c 7 _ rfl, c 8 _ rfl, c 9 _ rfl, c 10 _ rfl⟩, ho⟩
end
end Go.Proofs.YtleobnfmbhobgaaDoor
