/- A row of homecoming/api.Person that came in: each one's cells. Written by wip/tools/mkread.py. -/
import Derived.Test.YtkihleecjgoipaaGreatDoorPer
import Derived.Lib.SmallJoins
import Derived.Deep.Slices
import Derived.WalkKit
import Derived.ProofKit
import Derived.OpenShut
import Derived.Test.YtkihleecjgoipaaGreatDoorMg1
section
namespace Go.Proofs.YtkihleecjgoipaaGreatDoor.Per
open Go.RowKit Go.Maps Go.Proofs.YtkihleecjgoipaaGreatDoor Go.Proofs.YtkihleecjgoipaaGreatDoor.Rw Go.ChangeShapes Go.WideShapes Go.Joins Go.Deep

theorem list_13 {α : Type} {l : List α} (h : l.length = 13) : ∃ c0 c1 c2 c3 c4 c5 c6 c7 c8 c9 c10 c11 c12, l = [c0, c1, c2, c3, c4, c5, c6, c7, c8, c9, c10, c11, c12] := by
  match l, h with
  | [c0, c1, c2, c3, c4, c5, c6, c7, c8, c9, c10, c11, c12], _ => exact ⟨c0, c1, c2, c3, c4, c5, c6, c7, c8, c9, c10, c11, c12, rfl⟩
theorem list_9 {α : Type} {l : List α} (h : l.length = 9) : ∃ c0 c1 c2 c3 c4 c5 c6 c7 c8, l = [c0, c1, c2, c3, c4, c5, c6, c7, c8] := by
  match l, h with
  | [c0, c1, c2, c3, c4, c5, c6, c7, c8], _ => exact ⟨c0, c1, c2, c3, c4, c5, c6, c7, c8, rfl⟩
theorem list_5 {α : Type} {l : List α} (h : l.length = 5) : ∃ c0 c1 c2 c3 c4, l = [c0, c1, c2, c3, c4] := by
  match l, h with
  | [c0, c1, c2, c3, c4], _ => exact ⟨c0, c1, c2, c3, c4, rfl⟩
theorem trod_fs {H : Type} {enc : TypeId × Value → H} {P : Program} {w : World} {base : Nat} {spare : Nat → Bool} {held : Bool} {t : TypeId} {f0 f1 f2 f3 f4 f5 f6 f7 f8 : Field} {fuel : Nat} {cs : List Value} {x : DataW H × List MemPlace} (ht : P.underlying t = some (.struct #[f0, f1, f2, f3, f4, f5, f6, f7, f8])) (h : DataW.trod enc P w base spare held fuel t cs = some x) :
    ∃ y0 y1 y2 y3 y4 y5 y6 y7 y8 n, cs.length = P.cellsOf t ∧ DataW.trod enc P w base spare held n f0.type ((cs.drop f0.offset).take (P.cellsOf f0.type)) = some y0 ∧ DataW.trod enc P w base spare held n f1.type ((cs.drop f1.offset).take (P.cellsOf f1.type)) = some y1 ∧ DataW.trod enc P w base spare held n f2.type ((cs.drop f2.offset).take (P.cellsOf f2.type)) = some y2 ∧ DataW.trod enc P w base spare held n f3.type ((cs.drop f3.offset).take (P.cellsOf f3.type)) = some y3 ∧ DataW.trod enc P w base spare held n f4.type ((cs.drop f4.offset).take (P.cellsOf f4.type)) = some y4 ∧ DataW.trod enc P w base spare held n f5.type ((cs.drop f5.offset).take (P.cellsOf f5.type)) = some y5 ∧ DataW.trod enc P w base spare held n f6.type ((cs.drop f6.offset).take (P.cellsOf f6.type)) = some y6 ∧ DataW.trod enc P w base spare held n f7.type ((cs.drop f7.offset).take (P.cellsOf f7.type)) = some y7 ∧ DataW.trod enc P w base spare held n f8.type ((cs.drop f8.offset).take (P.cellsOf f8.type)) = some y8 := by
  obtain ⟨xs, n, _, _, hc, hlen, hf⟩ := DataW.trod_struct ht h
  obtain ⟨y0, y1, y2, y3, y4, y5, y6, y7, y8, rfl⟩ := list_9 (by simpa using hlen)
  exact ⟨y0, y1, y2, y3, y4, y5, y6, y7, y8, n, hc, by simpa using hf 0 f0 rfl, by simpa using hf 1 f1 rfl, by simpa using hf 2 f2 rfl, by simpa using hf 3 f3 rfl, by simpa using hf 4 f4 rfl, by simpa using hf 5 f5 rfl, by simpa using hf 6 f6 rfl, by simpa using hf 7 f7 rfl, by simpa using hf 8 f8 rfl⟩
theorem cells_row : Tryz.prog.cellsOf 34 = 13 := by kernel_rfl
theorem cells_i : Tryz.prog.cellsOf 3 = 1 := by kernel_rfl
theorem cells_s : Tryz.prog.cellsOf 9 = 1 := by kernel_rfl
theorem cells_b : Tryz.prog.cellsOf 4 = 1 := by kernel_rfl
theorem cells_l : Tryz.prog.cellsOf 2 = 1 := by kernel_rfl
theorem cells_v : Tryz.prog.cellsOf 32 = 5 := by kernel_rfl
set_option maxRecDepth 100000 in
theorem read_one {H : Type} {enc : TypeId × Value → H} {W : World} {base : Nat} {sp : Nat → Bool} {held : Bool} {n : Nat} {cs : List Value} {x : DataW H × List MemPlace}
    (h : DataW.trod enc Tryz.prog W base sp held n 34 cs = some x) : ∃ o : R, cs = o.cells := by
  obtain ⟨y0, y1, y2, y3, y4, y5, y6, y7, y8, k, hlen, t0, t1, t2, t3, t4, t5, t6, t7, t8⟩ := trod_fs Tryz.underlying34 h
  rw [cells_row] at hlen
  obtain ⟨c0, c1, c2, c3, c4, c5, c6, c7, c8, c9, c10, c11, c12, rfl⟩ := list_13 hlen
  simp only [cells_i, cells_s, cells_b, cells_l, cells_v, List.drop_succ_cons, List.drop_zero, List.take_succ_cons, List.take_zero] at t0 t1 t2 t3 t4 t5 t6 t7 t8
  obtain ⟨a0, e0, _, _⟩ := DataW.trod_int Tryz.underlying3 t0
  obtain ⟨a1, e1, _, _⟩ := DataW.trod_string Tryz.underlying9 t1
  obtain ⟨a2, e2, _⟩ := DataW.trod_bool Tryz.underlying4 t2
  obtain ⟨a3, e3, _, _⟩ := DataW.trod_string Tryz.underlying9 t3
  obtain ⟨a4, e4, _, _⟩ := DataW.trod_string Tryz.underlying9 t4
  obtain ⟨a5, e5, _, _⟩ := DataW.trod_int Tryz.underlying2 t5
  obtain ⟨a6, e6, _, _⟩ := DataW.trod_int Tryz.underlying3 t6
  obtain ⟨a7, e7, _, _⟩ := DataW.trod_int Tryz.underlying2 t7
  obtain ⟨zs, q, _, _, _, hzl, ha⟩ := DataW.trod_array Tryz.underlying32 t8
  obtain ⟨z0, z1, z2, z3, z4, rfl⟩ := list_5 hzl
  have u0 := ha 0 (by decide)
  have u1 := ha 1 (by decide)
  have u2 := ha 2 (by decide)
  have u3 := ha 3 (by decide)
  have u4 := ha 4 (by decide)
  simp only [cells_s, Nat.mul_one, List.drop_succ_cons, List.drop_zero, List.take_succ_cons, List.take_zero, List.getElem?_cons_zero, List.getElem?_cons_succ] at u0 u1 u2 u3 u4
  obtain ⟨a8, e8, _, _⟩ := DataW.trod_string Tryz.underlying9 u0
  obtain ⟨a9, e9, _, _⟩ := DataW.trod_string Tryz.underlying9 u1
  obtain ⟨a10, e10, _, _⟩ := DataW.trod_string Tryz.underlying9 u2
  obtain ⟨a11, e11, _, _⟩ := DataW.trod_string Tryz.underlying9 u3
  obtain ⟨a12, e12, _, _⟩ := DataW.trod_string Tryz.underlying9 u4
  simp only [List.cons.injEq, and_true] at e0 e1 e2 e3 e4 e5 e6 e7 e8 e9 e10 e11 e12
  subst e0 e1 e2 e3 e4 e5 e6 e7 e8 e9 e10 e11 e12
  exact ⟨⟨a0, a1, a2, a3, a4, a5, a6, a7, a8, a9, a10, a11, a12⟩, rfl⟩
theorem add_twice (a : Addr) (i j : Nat) : (a.add i).add j = a.add (i + j) := by
  unfold Addr.add
  by_cases hj : j = 0
  · subst hj; simp
  · by_cases hi : i = 0
    · subst hi; simp
    · simp [hi, hj, Nat.add_assoc]
/-- The rows' struct o lies at the place q of the block b. -/
def In (w : World) (b q : Nat) (o : R) : Prop := ∀ j v, o.cells[j]? = some v → w.cell? ⟨b, q + j, none⟩ = some v
theorem In.below {B : Nat} {W w : World} {b q : Nat} {o : R} (h : In W b q o) (bl : Below B W w) (hb : b < B) : In w b q o := fun j v hv => (bl.cell (p := ⟨b, q + j, none⟩) hb).trans (h j v hv)
theorem read_rows {H : Type} {enc : TypeId × Value → H} {W : World} {a0 : Option Addr} {len cap : Nat} {x : DataW H × List MemPlace} {fuel : Nat}
    (hf : DataW.trod enc Tryz.prog W 0 (fun _ => true) true fuel 22 [.slice a0 len cap] = some x) :
    ∀ i, i < len → ∃ b off o, a0 = some ⟨b, off, none⟩ ∧ b < W.heap.size ∧ In W b (off + i * 13) o := by
  rcases open_slice Tryz.underlying22 hf with ⟨hc, _⟩ | ⟨a, len', cap', m, k, D, Pl, hc, _, hl, hm, hmm, _, hall⟩
  · simp at hc
    obtain ⟨_, rfl, _⟩ := hc
    exact fun i hi => by omega
  · simp at hc
    obtain ⟨rfl, rfl, rfl⟩ := hc
    simp only [if_true] at hmm
    rw [cells_row] at hall
    have hR : ∀ i, i < len → ∃ o : R, ∀ j v, o.cells[j]? = some v → W.cell? (a.add (i * 13 + j)) = some v := fun i hi => by
      obtain ⟨cs', h1, h2⟩ := hall i (by omega)
      obtain ⟨o, rfl⟩ := read_one h2
      obtain ⟨_, _, hcell⟩ := World.cells?_some h1
      refine ⟨o, fun j v hv => ?_⟩
      have hj := (List.getElem?_eq_some_iff.1 hv).1
      have e := hcell j (by simpa [R.cells] using hj)
      rw [add_twice] at e
      rw [e]
      exact hv
    intro i hi
    obtain ⟨b, off, sp⟩ := a
    have hsp : sp = none := by
      obtain ⟨o, h0⟩ := hR 0 (by omega)
      have h00 := h0 0 _ rfl
      cases sp with
      | none => rfl
      | some s =>
        have e : W.cell? ⟨b, off, some s⟩ = none := by
          unfold World.cell?
          split <;> simp
        have e2 : ((⟨b, off, some s⟩ : Addr).add (0 * 13 + 0)) = ⟨b, off, some s⟩ := by simp [Addr.add]
        rw [e2, e] at h00
        cases h00
    subst hsp
    obtain ⟨o, hc⟩ := hR i hi
    have c : In W b (off + i * 13) o := fun j v hv => by
      have e := hc j v hv
      rwa [addM, ← Nat.add_assoc] at e
    exact ⟨b, off, o, rfl, World.block_lt_of_cell? W _ (c 0 _ rfl), c⟩
end Go.Proofs.YtkihleecjgoipaaGreatDoor.Per
end
/- A row of homecoming/api.Session that came in: each one's cells. Written by wip/tools/mkread.py. -/
section
namespace Go.Proofs.YtkihleecjgoipaaGreatDoor.Ses
open Go.RowKit Go.Maps Go.Proofs.YtkihleecjgoipaaGreatDoor Go.Proofs.YtkihleecjgoipaaGreatDoor.Rw Go.ChangeShapes Go.WideShapes Go.Joins Go.Deep

theorem list_3 {α : Type} {l : List α} (h : l.length = 3) : ∃ c0 c1 c2, l = [c0, c1, c2] := by
  match l, h with
  | [c0, c1, c2], _ => exact ⟨c0, c1, c2, rfl⟩
theorem trod_fs {H : Type} {enc : TypeId × Value → H} {P : Program} {w : World} {base : Nat} {spare : Nat → Bool} {held : Bool} {t : TypeId} {f0 f1 f2 : Field} {fuel : Nat} {cs : List Value} {x : DataW H × List MemPlace} (ht : P.underlying t = some (.struct #[f0, f1, f2])) (h : DataW.trod enc P w base spare held fuel t cs = some x) :
    ∃ y0 y1 y2 n, cs.length = P.cellsOf t ∧ DataW.trod enc P w base spare held n f0.type ((cs.drop f0.offset).take (P.cellsOf f0.type)) = some y0 ∧ DataW.trod enc P w base spare held n f1.type ((cs.drop f1.offset).take (P.cellsOf f1.type)) = some y1 ∧ DataW.trod enc P w base spare held n f2.type ((cs.drop f2.offset).take (P.cellsOf f2.type)) = some y2 := by
  obtain ⟨xs, n, _, _, hc, hlen, hf⟩ := DataW.trod_struct ht h
  obtain ⟨y0, y1, y2, rfl⟩ := list_3 (by simpa using hlen)
  exact ⟨y0, y1, y2, n, hc, by simpa using hf 0 f0 rfl, by simpa using hf 1 f1 rfl, by simpa using hf 2 f2 rfl⟩
theorem cells_row : Tryz.prog.cellsOf 37 = 3 := by kernel_rfl
theorem cells_s : Tryz.prog.cellsOf 9 = 1 := by kernel_rfl
theorem cells_i : Tryz.prog.cellsOf 3 = 1 := by kernel_rfl
theorem cells_l : Tryz.prog.cellsOf 2 = 1 := by kernel_rfl
set_option maxRecDepth 100000 in
theorem read_one {H : Type} {enc : TypeId × Value → H} {W : World} {base : Nat} {sp : Nat → Bool} {held : Bool} {n : Nat} {cs : List Value} {x : DataW H × List MemPlace}
    (h : DataW.trod enc Tryz.prog W base sp held n 37 cs = some x) : ∃ o : R, cs = o.cells := by
  obtain ⟨y0, y1, y2, k, hlen, t0, t1, t2⟩ := trod_fs Tryz.underlying37 h
  rw [cells_row] at hlen
  obtain ⟨c0, c1, c2, rfl⟩ := list_3 hlen
  simp only [cells_s, cells_i, cells_l, List.drop_succ_cons, List.drop_zero, List.take_succ_cons, List.take_zero] at t0 t1 t2
  obtain ⟨a0, e0, _, _⟩ := DataW.trod_string Tryz.underlying9 t0
  obtain ⟨a1, e1, _, _⟩ := DataW.trod_int Tryz.underlying3 t1
  obtain ⟨a2, e2, _, _⟩ := DataW.trod_int Tryz.underlying2 t2
  simp only [List.cons.injEq, and_true] at e0 e1 e2
  subst e0 e1 e2
  exact ⟨⟨a0, a1, a2⟩, rfl⟩
theorem add_twice (a : Addr) (i j : Nat) : (a.add i).add j = a.add (i + j) := by
  unfold Addr.add
  by_cases hj : j = 0
  · subst hj; simp
  · by_cases hi : i = 0
    · subst hi; simp
    · simp [hi, hj, Nat.add_assoc]
/-- The rows' struct o lies at the place q of the block b. -/
def In (w : World) (b q : Nat) (o : R) : Prop := ∀ j v, o.cells[j]? = some v → w.cell? ⟨b, q + j, none⟩ = some v
theorem In.below {B : Nat} {W w : World} {b q : Nat} {o : R} (h : In W b q o) (bl : Below B W w) (hb : b < B) : In w b q o := fun j v hv => (bl.cell (p := ⟨b, q + j, none⟩) hb).trans (h j v hv)
theorem read_rows {H : Type} {enc : TypeId × Value → H} {W : World} {a0 : Option Addr} {len cap : Nat} {x : DataW H × List MemPlace} {fuel : Nat}
    (hf : DataW.trod enc Tryz.prog W 0 (fun _ => true) true fuel 23 [.slice a0 len cap] = some x) :
    ∀ i, i < len → ∃ b off o, a0 = some ⟨b, off, none⟩ ∧ b < W.heap.size ∧ In W b (off + i * 3) o := by
  rcases open_slice Tryz.underlying23 hf with ⟨hc, _⟩ | ⟨a, len', cap', m, k, D, Pl, hc, _, hl, hm, hmm, _, hall⟩
  · simp at hc
    obtain ⟨_, rfl, _⟩ := hc
    exact fun i hi => by omega
  · simp at hc
    obtain ⟨rfl, rfl, rfl⟩ := hc
    simp only [if_true] at hmm
    rw [cells_row] at hall
    have hR : ∀ i, i < len → ∃ o : R, ∀ j v, o.cells[j]? = some v → W.cell? (a.add (i * 3 + j)) = some v := fun i hi => by
      obtain ⟨cs', h1, h2⟩ := hall i (by omega)
      obtain ⟨o, rfl⟩ := read_one h2
      obtain ⟨_, _, hcell⟩ := World.cells?_some h1
      refine ⟨o, fun j v hv => ?_⟩
      have hj := (List.getElem?_eq_some_iff.1 hv).1
      have e := hcell j (by simpa [R.cells] using hj)
      rw [add_twice] at e
      rw [e]
      exact hv
    intro i hi
    obtain ⟨b, off, sp⟩ := a
    have hsp : sp = none := by
      obtain ⟨o, h0⟩ := hR 0 (by omega)
      have h00 := h0 0 _ rfl
      cases sp with
      | none => rfl
      | some s =>
        have e : W.cell? ⟨b, off, some s⟩ = none := by
          unfold World.cell?
          split <;> simp
        have e2 : ((⟨b, off, some s⟩ : Addr).add (0 * 3 + 0)) = ⟨b, off, some s⟩ := by simp [Addr.add]
        rw [e2, e] at h00
        cases h00
    subst hsp
    obtain ⟨o, hc⟩ := hR i hi
    have c : In W b (off + i * 3) o := fun j v hv => by
      have e := hc j v hv
      rwa [addM, ← Nat.add_assoc] at e
    exact ⟨b, off, o, rfl, World.block_lt_of_cell? W _ (c 0 _ rfl), c⟩
end Go.Proofs.YtkihleecjgoipaaGreatDoor.Ses
end
