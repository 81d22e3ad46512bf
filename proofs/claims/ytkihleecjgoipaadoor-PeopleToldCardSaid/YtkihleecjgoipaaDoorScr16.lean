/- What each law of layer 16 that reads a script leans on. -/
import Derived.Test.YtkihleecjgoipaaDoorNum16
import Derived.Test.YtkihleecjgoipaaDoorAwk16
import Derived.Test.YtkihleecjgoipaaDoorPpV
namespace Go.Proofs.YtkihleecjgoipaaDoor
open Go.RowKit Go.Maps Go.Proofs.YtkihleecjgoipaaDoor.Rw

theorem ev_set {w : World} {b : Nat} {e0 : Evn} (h : w.heap[b]? = some e0.obj) (e : Evn) : ((((((((w.setCell ⟨b, 0, none⟩ (.int .i64 e.kind)).setCell ⟨b, 1, none⟩ (.int .i64 e.acc)).setCell ⟨b, 2, none⟩ (.int .i64 e.pur)).setCell ⟨b, 3, none⟩ (.int .i64 e.at_)).setCell ⟨b, 4, none⟩ (.int .i64 e.num)).setCell ⟨b, 5, none⟩ (.string e.a)).setCell ⟨b, 6, none⟩ (.string e.b)).setCell ⟨b, 7, none⟩ (.string e.c)).heap[b]? = some e.obj := by
  unfold Evn.obj at h
  have h0 := heap_setCell_same w b 0 _ 29 (.int .i64 e.kind) h
  have h1 := heap_setCell_same _ b 1 _ 29 (.int .i64 e.acc) h0
  have h2 := heap_setCell_same _ b 2 _ 29 (.int .i64 e.pur) h1
  have h3 := heap_setCell_same _ b 3 _ 29 (.int .i64 e.at_) h2
  have h4 := heap_setCell_same _ b 4 _ 29 (.int .i64 e.num) h3
  have h5 := heap_setCell_same _ b 5 _ 29 (.string e.a) h4
  have h6 := heap_setCell_same _ b 6 _ 29 (.string e.b) h5
  have h7 := heap_setCell_same _ b 7 _ 29 (.string e.c) h6
  refine h7.trans ?_
  simp only [List.setIfInBounds_toArray, List.set_cons_zero, List.set_cons_succ, Evn.obj]
theorem below_ev {B g : Nat} {w W : World} (b : Below B w W) (hg : B ≤ g) (v0 v1 v2 v3 v4 v5 v6 v7 : Value) : Below B w ((((((((W.setCell ⟨g, 0, none⟩ v0).setCell ⟨g, 1, none⟩ v1).setCell ⟨g, 2, none⟩ v2).setCell ⟨g, 3, none⟩ v3).setCell ⟨g, 4, none⟩ v4).setCell ⟨g, 5, none⟩ v5).setCell ⟨g, 6, none⟩ v6).setCell ⟨g, 7, none⟩ v7) :=
  (((((((b.setCell hg _).setCell hg _).setCell hg _).setCell hg _).setCell hg _).setCell hg _).setCell hg _).setCell hg _
theorem mailN_size (m : Nat) (h : m < 16) : (mailN m).size ≤ 100 := by
  have hc : ∀ m : Fin 16, (mailN m.1).size ≤ 100 := by decide +kernel
  exact hc ⟨m, h⟩
theorem evN_ok (n : Nm) (p : Ppl) : EvOk (evN n p) := by
  refine ⟨?_, ?_, ?_⟩
  · show 0 ≤ n.at_ % 1024 ∧ n.at_ % 1024 ≤ 1023
    omega
  · show 0 ≤ n.n % 1024 ∧ n.n % 1024 ≤ 1023
    omega
  · exact mailN_size _ (by omega)
end Go.Proofs.YtkihleecjgoipaaDoor
