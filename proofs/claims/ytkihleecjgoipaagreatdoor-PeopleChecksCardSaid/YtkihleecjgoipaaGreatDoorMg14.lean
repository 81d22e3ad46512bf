/- A script of a law's numbers that came in: each one's cells. Written by wip/tools/mknum.py. -/
import Derived.Test.YtkihleecjgoipaaGreatDoorEv16
import Derived.Lib.SmallJoins
import Derived.Deep.Slices
import Derived.WalkKit
import Derived.ProofKit
import Derived.OpenShut
import Derived.Test.YtkihleecjgoipaaGreatDoorMg5
import Derived.Test.YtkihleecjgoipaaGreatDoorMg10
section
namespace Go.Proofs.YtkihleecjgoipaaGreatDoor
open Go.RowKit Go.Maps Go.Proofs.YtkihleecjgoipaaGreatDoor.Rw

structure NumAt (w : World) (b q : Nat) (o : Nm) : Prop where
  c0 : w.cell? ⟨b, q, none⟩ = some (.int .i64 o.kind)
  c1 : w.cell? ⟨b, q + 1, none⟩ = some (.int .i64 o.who)
  c2 : w.cell? ⟨b, q + 2, none⟩ = some (.int .i64 o.mail)
  c3 : w.cell? ⟨b, q + 3, none⟩ = some (.int .i64 o.salt)
  c4 : w.cell? ⟨b, q + 4, none⟩ = some (.int .i64 o.chk)
  c5 : w.cell? ⟨b, q + 5, none⟩ = some (.int .i64 o.at_)
  c6 : w.cell? ⟨b, q + 6, none⟩ = some (.int .i64 o.n)
theorem NumAt.below {B : Nat} {W w : World} {b q : Nat} {o : Nm} (h : NumAt W b q o) (bl : Below B W w) (hb : b < B) : NumAt w b q o :=
  ⟨(bl.cell (p := ⟨b, q, none⟩) hb).trans h.c0, (bl.cell (p := ⟨b, q + 1, none⟩) hb).trans h.c1, (bl.cell (p := ⟨b, q + 2, none⟩) hb).trans h.c2, (bl.cell (p := ⟨b, q + 3, none⟩) hb).trans h.c3, (bl.cell (p := ⟨b, q + 4, none⟩) hb).trans h.c4, (bl.cell (p := ⟨b, q + 5, none⟩) hb).trans h.c5, (bl.cell (p := ⟨b, q + 6, none⟩) hb).trans h.c6⟩
section
open Go.ChangeShapes Go.WideShapes Go.Joins Go.Deep
theorem list_seven {α : Type} {l : List α} (h : l.length = 7) : ∃ c0 c1 c2 c3 c4 c5 c6, l = [c0, c1, c2, c3, c4, c5, c6] := by
  match l, h with
  | [c0, c1, c2, c3, c4, c5, c6], _ => exact ⟨c0, c1, c2, c3, c4, c5, c6, rfl⟩
theorem trod_seven {H : Type} {enc : TypeId × Value → H} {P : Program} {w : World} {base : Nat} {spare : Nat → Bool} {held : Bool} {t : TypeId} {f0 f1 f2 f3 f4 f5 f6 : Field} {fuel : Nat} {cs : List Value} {x : DataW H × List MemPlace} (ht : P.underlying t = some (.struct #[f0, f1, f2, f3, f4, f5, f6])) (h : DataW.trod enc P w base spare held fuel t cs = some x) :
    ∃ y0 y1 y2 y3 y4 y5 y6 n, DataW.trod enc P w base spare held n f0.type ((cs.drop f0.offset).take (P.cellsOf f0.type)) = some y0 ∧ DataW.trod enc P w base spare held n f1.type ((cs.drop f1.offset).take (P.cellsOf f1.type)) = some y1 ∧ DataW.trod enc P w base spare held n f2.type ((cs.drop f2.offset).take (P.cellsOf f2.type)) = some y2 ∧ DataW.trod enc P w base spare held n f3.type ((cs.drop f3.offset).take (P.cellsOf f3.type)) = some y3 ∧ DataW.trod enc P w base spare held n f4.type ((cs.drop f4.offset).take (P.cellsOf f4.type)) = some y4 ∧ DataW.trod enc P w base spare held n f5.type ((cs.drop f5.offset).take (P.cellsOf f5.type)) = some y5 ∧ DataW.trod enc P w base spare held n f6.type ((cs.drop f6.offset).take (P.cellsOf f6.type)) = some y6 := by
  obtain ⟨xs, n, _, _, _, hlen, hf⟩ := DataW.trod_struct ht h
  obtain ⟨y0, y1, y2, y3, y4, y5, y6, rfl⟩ := list_seven (by simpa using hlen)
  exact ⟨y0, y1, y2, y3, y4, y5, y6, n, by simpa using hf 0 f0 rfl, by simpa using hf 1 f1 rfl, by simpa using hf 2 f2 rfl, by simpa using hf 3 f3 rfl, by simpa using hf 4 f4 rfl, by simpa using hf 5 f5 rfl, by simpa using hf 6 f6 rfl⟩
theorem cells_num : Tryz.prog.cellsOf 50 = 7 := by kernel_rfl
theorem cells_i : Tryz.prog.cellsOf 3 = 1 := by kernel_rfl
theorem read_num {H : Type} {enc : TypeId × Value → H} {W : World} {base : Nat} {sp : Nat → Bool} {held : Bool} {n : Nat} {cs : List Value} {x : DataW H × List MemPlace}
    (h : DataW.trod enc Tryz.prog W base sp held n 50 cs = some x) : ∃ o : Nm, cs = o.cells := by
  have hl := (DataW.trod_struct Tryz.underlying50 h)
  obtain ⟨y0, y1, y2, y3, y4, y5, y6, k, t0, t1, t2, t3, t4, t5, t6⟩ := trod_seven Tryz.underlying50 h
  have hlen : cs.length = 7 := by
    obtain ⟨xs, n, _, _, hc, _, _⟩ := hl
    rw [cells_num] at hc
    exact hc
  obtain ⟨c0, c1, c2, c3, c4, c5, c6, rfl⟩ := list_seven hlen
  simp only [cells_i, List.drop_succ_cons, List.drop_zero, List.take_succ_cons, List.take_zero] at t0 t1 t2 t3 t4 t5 t6
  obtain ⟨a0, e0, _, _⟩ := DataW.trod_int Tryz.underlying3 t0
  obtain ⟨a1, e1, _, _⟩ := DataW.trod_int Tryz.underlying3 t1
  obtain ⟨a2, e2, _, _⟩ := DataW.trod_int Tryz.underlying3 t2
  obtain ⟨a3, e3, _, _⟩ := DataW.trod_int Tryz.underlying3 t3
  obtain ⟨a4, e4, _, _⟩ := DataW.trod_int Tryz.underlying3 t4
  obtain ⟨a5, e5, _, _⟩ := DataW.trod_int Tryz.underlying3 t5
  obtain ⟨a6, e6, _, _⟩ := DataW.trod_int Tryz.underlying3 t6
  simp only [List.cons.injEq, and_true] at e0 e1 e2 e3 e4 e5 e6
  subst e0 e1 e2 e3 e4 e5 e6
  exact ⟨⟨a0, a1, a2, a3, a4, a5, a6⟩, rfl⟩
theorem add_twice (a : Addr) (i j : Nat) : (a.add i).add j = a.add (i + j) := by
  unfold Addr.add
  by_cases hj : j = 0
  · subst hj; simp
  · by_cases hi : i = 0
    · subst hi; simp
    · simp [hi, hj, Nat.add_assoc]
theorem read_nums {H : Type} {enc : TypeId × Value → H} {W : World} {a0 : Option Addr} {len cap : Nat} {d : DataW H} {p : List MemPlace}
    (h : DataW.Trod enc Tryz.prog W 0 (fun _ => true) true 26 (.slice a0 len cap) d p) :
    ∀ i, i < len → ∃ b off o, a0 = some ⟨b, off, none⟩ ∧ b < W.heap.size ∧ NumAt W b (off + i * 7) o := by
  obtain ⟨fuel, hf⟩ := h
  rcases open_slice Tryz.underlying26 hf with ⟨hc, _⟩ | ⟨a, len', cap', m, k, D, Pl, hc, _, hl, hm, hmm, _, hall⟩
  · simp [Value.cells] at hc
    obtain ⟨_, rfl, _⟩ := hc
    exact fun i hi => by omega
  · simp [Value.cells] at hc
    obtain ⟨rfl, rfl, rfl⟩ := hc
    simp only [if_true] at hmm
    rw [cells_num] at hall
    have hR : ∀ i, i < len → ∃ o : Nm, ∀ j v, o.cells[j]? = some v → W.cell? (a.add (i * 7 + j)) = some v := fun i hi => by
      obtain ⟨cs', h1, h2⟩ := hall i (by omega)
      obtain ⟨o, rfl⟩ := read_num h2
      obtain ⟨_, _, hcell⟩ := World.cells?_some h1
      refine ⟨o, fun j v hv => ?_⟩
      have hj := (List.getElem?_eq_some_iff.1 hv).1
      have e := hcell j (by simpa [Nm.cells] using hj)
      rw [add_twice] at e
      rw [e]
      exact hv
    intro i hi
    obtain ⟨b, off, sp⟩ := a
    have hsp : sp = none := by
      obtain ⟨o, h0⟩ := hR 0 (by omega)
      have h00 := h0 0 _ rfl
      cases sp with
      | none => rfl
      | some s =>
        have e : W.cell? ⟨b, off, some s⟩ = none := by
          unfold World.cell?
          split <;> simp
        have e2 : ((⟨b, off, some s⟩ : Addr).add (0 * 7 + 0)) = ⟨b, off, some s⟩ := by simp [Addr.add]
        rw [e2, e] at h00
        cases h00
    subst hsp
    obtain ⟨o, hc⟩ := hR i hi
    have c : ∀ j v, o.cells[j]? = some v → W.cell? ⟨b, off + i * 7 + j, none⟩ = some v := fun j v hv => by
      have e := hc j v hv
      rwa [addM, ← Nat.add_assoc] at e
    exact ⟨b, off, o, rfl, World.block_lt_of_cell? W _ (c 0 _ rfl), ⟨c 0 _ rfl, c 1 _ rfl, c 2 _ rfl, c 3 _ rfl, c 4 _ rfl, c 5 _ rfl, c 6 _ rfl⟩⟩
end
end Go.Proofs.YtkihleecjgoipaaGreatDoor
end
/- What each law of layer 16 that reads a script leans on. -/
section
namespace Go.Proofs.YtkihleecjgoipaaGreatDoor
open Go.RowKit Go.Maps Go.Proofs.YtkihleecjgoipaaGreatDoor.Rw

theorem ev_set {w : World} {b : Nat} {e0 : Evn} (h : w.heap[b]? = some e0.obj) (e : Evn) : ((((((((w.setCell ⟨b, 0, none⟩ (.int .i64 e.kind)).setCell ⟨b, 1, none⟩ (.int .i64 e.acc)).setCell ⟨b, 2, none⟩ (.int .i64 e.pur)).setCell ⟨b, 3, none⟩ (.int .i64 e.at_)).setCell ⟨b, 4, none⟩ (.int .i64 e.num)).setCell ⟨b, 5, none⟩ (.string e.a)).setCell ⟨b, 6, none⟩ (.string e.b)).setCell ⟨b, 7, none⟩ (.string e.c)).heap[b]? = some e.obj := by
  unfold Evn.obj at h
  have h0 := heap_setCell_same w b 0 _ 46 (.int .i64 e.kind) h
  have h1 := heap_setCell_same _ b 1 _ 46 (.int .i64 e.acc) h0
  have h2 := heap_setCell_same _ b 2 _ 46 (.int .i64 e.pur) h1
  have h3 := heap_setCell_same _ b 3 _ 46 (.int .i64 e.at_) h2
  have h4 := heap_setCell_same _ b 4 _ 46 (.int .i64 e.num) h3
  have h5 := heap_setCell_same _ b 5 _ 46 (.string e.a) h4
  have h6 := heap_setCell_same _ b 6 _ 46 (.string e.b) h5
  have h7 := heap_setCell_same _ b 7 _ 46 (.string e.c) h6
  refine h7.trans ?_
  simp only [List.setIfInBounds_toArray, List.set_cons_zero, List.set_cons_succ, Evn.obj]
theorem below_ev {B g : Nat} {w W : World} (b : Below B w W) (hg : B ≤ g) (v0 v1 v2 v3 v4 v5 v6 v7 : Value) : Below B w ((((((((W.setCell ⟨g, 0, none⟩ v0).setCell ⟨g, 1, none⟩ v1).setCell ⟨g, 2, none⟩ v2).setCell ⟨g, 3, none⟩ v3).setCell ⟨g, 4, none⟩ v4).setCell ⟨g, 5, none⟩ v5).setCell ⟨g, 6, none⟩ v6).setCell ⟨g, 7, none⟩ v7) :=
  (((((((b.setCell hg _).setCell hg _).setCell hg _).setCell hg _).setCell hg _).setCell hg _).setCell hg _).setCell hg _
theorem mailN_size (m : Nat) (h : m < 16) : (mailN m).size ≤ 100 := by
  have hc : ∀ m : Fin 16, (mailN m.1).size ≤ 100 := by decide +kernel
  exact hc ⟨m, h⟩
theorem evN_ok (n : Nm) (p : Ppl) : EvOk (evN n p) := by
  refine ⟨?_, ?_, ?_⟩
  · show 0 ≤ n.at_ % 1024 ∧ n.at_ % 1024 ≤ 1023
    omega
  · show 0 ≤ n.n % 1024 ∧ n.n % 1024 ≤ 1023
    omega
  · exact mailN_size _ (by omega)
end Go.Proofs.YtkihleecjgoipaaGreatDoor
end
