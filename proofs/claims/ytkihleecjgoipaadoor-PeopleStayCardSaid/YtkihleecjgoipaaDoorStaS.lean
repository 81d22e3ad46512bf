/- people.Same. -/
import Derived.Test.YtkihleecjgoipaaDoorPerE
import Derived.Test.YtkihleecjgoipaaDoorSesE
import Derived.Test.YtkihleecjgoipaaDoorPpB
namespace Go.Proofs.YtkihleecjgoipaaDoor
open Go.RowKit Go.Maps Go.Proofs.YtkihleecjgoipaaDoor.Rw

def sameB (p q : Ppl) : Bool := Per.eqL p.ps q.ps && Ses.eqL p.ss q.ss
theorem sameB_iff (p q : Ppl) : sameB p q = true ↔ p = q := by
  unfold sameB
  rw [Bool.and_eq_true, Per.eqL_iff, Ses.eqL_iff]
  constructor
  · rintro ⟨h1, h2⟩
    cases p; cases q
    simp only at h1 h2
    rw [h1, h2]
  · rintro rfl
    exact ⟨rfl, rfl⟩
set_option maxHeartbeats 4000000 in
set_option maxRecDepth 100000 in
theorem same_any {B1 B2 : Nat} {v1 v2 : Value} {p q : Ppl} {w : World} (h1 : pown w B1 v1 p) (h2 : pown w B2 v2 q) (l1 : few p) (l2 : few q) :
    Calls Tryd.prog 20 #[v1, v2] w fun e w' => e = .returned (.bool (sameB p q)) ∧ Below w.heap.size w w' := by
  obtain ⟨a, c, a', c', rfl, o1, o2⟩ := h1
  obtain ⟨d, f, d', f', rfl, r1, r2⟩ := h2
  have hb : Below w.heap.size w ((w.alloc (pobj (.slice a p.ps.length c) (.slice a' p.ss.length c'))).alloc (pobj (.slice d q.ps.length f) (.slice d' q.ss.length f'))) := ((Below.refl _ _).alloc (Nat.le_refl _) _).alloc (by simp) _
  have z1 : (w.alloc (pobj (.slice a p.ps.length c) (.slice a' p.ss.length c'))).heap.size = w.heap.size + 1 := by simp
  have PA := fun w2 b => pbox_later (w := w) (w2 := w2) (.slice a p.ps.length c) (.slice a' p.ss.length c') (B := w.heap.size + 1) (Nat.lt_succ_self _) b
  have PB := fun w2 b => pbox_later (w := w.alloc (pobj (.slice a p.ps.length c) (.slice a' p.ss.length c'))) (w2 := w2) (.slice d q.ps.length f) (.slice d' q.ss.length f') (B := w.heap.size + 2) (by omega) b
  rw [z1] at PB
  have z2 : ((w.alloc (pobj (.slice a p.ps.length c) (.slice a' p.ss.length c'))).alloc (pobj (.slice d q.ps.length f) (.slice d' q.ss.length f'))).heap.size = w.heap.size + 2 := by simp
  have CX : Hid (∀ w2, Below (w.heap.size + 2) ((w.alloc (pobj (.slice a p.ps.length c) (.slice a' p.ss.length c'))).alloc (pobj (.slice d q.ps.length f) (.slice d' q.ss.length f'))) w2 → ((w2.cell? ⟨w.heap.size, 0, none⟩ = some (.slice a p.ps.length c) ∧ w2.cell? ⟨w.heap.size, 1, none⟩ = some (.slice a' p.ss.length c')) ∧ (w2.cell? ⟨w.heap.size + 1, 0, none⟩ = some (.slice d q.ps.length f) ∧ w2.cell? ⟨w.heap.size + 1, 1, none⟩ = some (.slice d' q.ss.length f'))) ∧ Below w.heap.size w w2) := Lib.hid (fun w2 b =>
    ⟨⟨PA w2 (((Below.refl _ _).alloc (by omega) _).trans (b.mono (by omega))), PB w2 b⟩, hb.trans (b.mono (by omega))⟩)
  have EP := Lib.hid (Per.equal_any (o1.below hb) (r1.below hb) (by have := l1.1; omega) (by have := l2.1; omega))
  have ES : Hid (∀ w2, Below (w.heap.size + 2) ((w.alloc (pobj (.slice a p.ps.length c) (.slice a' p.ss.length c'))).alloc (pobj (.slice d q.ps.length f) (.slice d' q.ss.length f'))) w2 → Calls Tryd.prog 41 #[.slice a' p.ss.length c', .slice d' q.ss.length f'] w2 fun e w' => e = .returned (.bool (Ses.eqL p.ss q.ss)) ∧ Below w2.heap.size w2 w') := Lib.hid (fun w2 b =>
    Ses.equal_any (o2.below (CX.out w2 b).2) (r2.below (CX.out w2 b).2) (by have := l1.2; omega) (by have := l2.2; omega))
  have SB : Hid (sameB p q = (Per.eqL p.ps q.ps && Ses.eqL p.ss q.ss)) := Lib.hid rfl
  have Z2 := Lib.hid z2
  obtain ⟨⟨⟨x0, x1⟩, ⟨y0, y1⟩⟩, _⟩ := CX.out _ (Below.refl _ _)
  generalize sameB p q = r at *
  generalize Per.eqL p.ps q.ps = q1 at *
  generalize Ses.eqL p.ss q.ss = q2 at *
  clear o1 o2 r1 r2 hb z1 z2 PA PB l1 l2
  unfold pobj at *
  cases q1
  · go_enter Tryd.func20, Tryd.ntmps20
    go_wp2_with (go_at_call 40; (with_reducible refine (EP.out).mono ?_); rintro z w3 ⟨rfl, b3⟩; rw [Z2.out] at b3; have B3 := Lib.hid b3; clear b3)
    go_ret
    exact ⟨ret_bool (by rw [SB.out]; rfl), (CX.out _ B3.out).2⟩
  · go_enter Tryd.func20, Tryd.ntmps20
    go_wp2_with (first
      | (go_at_call 40; (with_reducible refine (EP.out).mono ?_); rintro z w3 ⟨rfl, b3⟩; rw [Z2.out] at b3; have B3 := Lib.hid b3; clear b3; obtain ⟨⟨⟨g0, g1⟩, ⟨k0, k1⟩⟩, _⟩ := CX.out _ B3.out)
      | (go_at_call 41; (with_reducible refine (ES.out _ B3.out).mono ?_); rintro z w4 ⟨rfl, b4⟩; have B4 := Lib.hid (B3.out.trans (b4.mono (by have := B3.out.size; have := Z2.out; omega))); clear b4))
    go_ret
    exact ⟨ret_bool (by rw [SB.out]; rfl), (CX.out _ B4.out).2⟩
end Go.Proofs.YtkihleecjgoipaaDoor
