/- OutboxKeeps: the two arrays beside the row. -/
import Derived.Test.YtleobnfmbhobgaaDoorKeepP
import Derived.OneCell
namespace Go.Proofs.YtleobnfmbhobgaaDoor
open Go.RowKit Go.Maps

/-- The arrays tried and done lie in the blocks b and c. -/
structure AR (w : World) (b c : Nat) (T : Nat → Nat) (D : Nat → Bool) : Prop where
  lb : b < w.heap.size
  lc : c < w.heap.size
  ne : b ≠ c
  t : ∀ j, j < 21 → w.cell? ⟨b, j, none⟩ = some (.int .i64 (T j : Nat))
  d : ∀ j, j < 21 → w.cell? ⟨c, j, none⟩ = some (.bool (D j))
  tf : ∀ j, w.frozen? ⟨b, j, none⟩ = false
  df : ∀ j, w.frozen? ⟨c, j, none⟩ = false
theorem AR.below {w w' : World} {b c : Nat} {T : Nat → Nat} {D : Nat → Bool} (h : AR w b c T D) (bl : Below w.heap.size w w') : AR w' b c T D :=
  ⟨Nat.lt_of_lt_of_le h.lb bl.size, Nat.lt_of_lt_of_le h.lc bl.size, h.ne, fun j hj => (bl.cell (p := ⟨b, j, none⟩) h.lb).trans (h.t j hj), fun j hj => (bl.cell (p := ⟨c, j, none⟩) h.lc).trans (h.d j hj), fun j => (bl.frozen (p := ⟨b, j, none⟩) h.lb).trans (h.tf j), fun j => (bl.frozen (p := ⟨c, j, none⟩) h.lc).trans (h.df j)⟩
theorem size_setCell (w : World) (a : Addr) (v : Value) : (w.setCell a v).heap.size = w.heap.size := by simp [World.setCell]
theorem AR.setT {w : World} {b c : Nat} {T : Nat → Nat} {D : Nat → Bool} (h : AR w b c T D) (k : Nat) (hk : k < 21) (x : Nat) : AR (w.setCell ⟨b, k, none⟩ (.int .i64 x)) b c (upd T k x) D := by
  refine ⟨by rw [size_setCell]; exact h.lb, by rw [size_setCell]; exact h.lc, h.ne, fun j hj => ?_, fun j hj => ?_, fun j => by rw [World.frozen?_setCell]; exact h.tf j, fun j => by rw [World.frozen?_setCell]; exact h.df j⟩
  · by_cases e : j = k
    · subst e
      rw [upd_same]
      exact World.cell?_setCell_same _ _ _ (h.t j hj)
    · rw [upd_other T _ e]
      refine (World.cell?_setCell_other _ _ _ _ ?_).trans (h.t j hj)
      intro q
      exact e (by injection q with _ q2 _; exact q2.symm)
  · refine (World.cell?_setCell_other _ _ _ _ ?_).trans (h.d j hj)
    intro q
    exact h.ne (by injection q)
theorem AR.setD {w : World} {b c : Nat} {T : Nat → Nat} {D : Nat → Bool} (h : AR w b c T D) (k : Nat) (hk : k < 21) (x : Bool) : AR (w.setCell ⟨c, k, none⟩ (.bool x)) b c T (upd D k x) := by
  refine ⟨by rw [size_setCell]; exact h.lb, by rw [size_setCell]; exact h.lc, h.ne, fun j hj => ?_, fun j hj => ?_, fun j => by rw [World.frozen?_setCell]; exact h.tf j, fun j => by rw [World.frozen?_setCell]; exact h.df j⟩
  · refine (World.cell?_setCell_other _ _ _ _ ?_).trans (h.t j hj)
    intro q
    exact h.ne (by injection q with q1; exact q1.symm)
  · by_cases e : j = k
    · subst e
      rw [upd_same]
      exact World.cell?_setCell_same _ _ _ (h.d j hj)
    · rw [upd_other D _ e]
      refine (World.cell?_setCell_other _ _ _ _ ?_).trans (h.d j hj)
      intro q
      exact e (by injection q with _ q2 _; exact q2.symm)

/-- A row that stands apart from both arrays. -/
def OW (W w : World) (b c : Nat) (v : Value) (L : List Msg) : Prop := mowns w W.heap.size v L ∧ v.ownBlock ≠ some b ∧ v.ownBlock ≠ some c
theorem OW.later {W w w' : World} {b c : Nat} {v : Value} {L : List Msg} (h : OW W w b c v L) (bl : Below w.heap.size w w') : OW W w' b c v L := ⟨h.1.below bl, h.2⟩
theorem OW.setB {W w : World} {b c : Nat} {v : Value} {L : List Msg} (h : OW W w b c v L) (k : Nat) (x : Value) : OW W (w.setCell ⟨b, k, none⟩ x) b c v L := ⟨ownsRow_setCell_other h.1 h.2.1 x, h.2⟩
theorem OW.setC {W w : World} {b c : Nat} {v : Value} {L : List Msg} (h : OW W w b c v L) (k : Nat) (x : Value) : OW W (w.setCell ⟨c, k, none⟩ x) b c v L := ⟨ownsRow_setCell_other h.1 h.2.2 x, h.2⟩
theorem mowns.apart {w : World} {B g : Nat} {v : Value} {L : List Msg} (h : mowns w B v L) (hg : g < B) : v.ownBlock ≠ some g := fun e => by
  have := (World.ownsRow.lt h g e).1
  omega
/-- What the law holds between two steps. -/
structure KW (W : World) (b c : Nat) (T : Nat → Nat) (D : Nat → Bool) (w : World) : Prop where
  ar : AR w b c T D
  bel : Below W.heap.size W w
  gb : W.heap.size ≤ b
  gc : W.heap.size ≤ c
theorem KW.later {W w w' : World} {b c : Nat} {T : Nat → Nat} {D : Nat → Bool} (h : KW W b c T D w) (bl : Below w.heap.size w w') : KW W b c T D w' := ⟨h.ar.below bl, h.bel.trans (bl.mono h.bel.size), h.gb, h.gc⟩
theorem KW.setT {W w : World} {b c : Nat} {T : Nat → Nat} {D : Nat → Bool} (h : KW W b c T D w) (k : Nat) (hk : k < 21) (x : Nat) : KW W b c (upd T k x) D (w.setCell ⟨b, k, none⟩ (.int .i64 x)) := ⟨h.ar.setT k hk x, h.bel.setCell h.gb _, h.gb, h.gc⟩
theorem KW.setD {W w : World} {b c : Nat} {T : Nat → Nat} {D : Nat → Bool} (h : KW W b c T D w) (k : Nat) (hk : k < 21) (x : Bool) : KW W b c T (upd D k x) (w.setCell ⟨c, k, none⟩ (.bool x)) := ⟨h.ar.setD k hk x, h.bel.setCell h.gc _, h.gb, h.gc⟩
theorem KW.fresh {W w w' : World} {b c : Nat} {T : Nat → Nat} {D : Nat → Bool} {v : Value} {L : List Msg} (h : KW W b c T D w) (f : Fresh w w' v L) : KW W b c T D w' ∧ OW W w' b c v L :=
  ⟨h.later f.2, f.1.mono h.bel.size, f.1.apart h.ar.lb, f.1.apart h.ar.lc⟩
end Go.Proofs.YtleobnfmbhobgaaDoor
