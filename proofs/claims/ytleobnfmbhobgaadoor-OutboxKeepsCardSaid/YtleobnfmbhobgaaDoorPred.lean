/- The predicates of outbox: alive, dead, Due's closure. -/
import Derived.Test.YtleobnfmbhobgaaDoorRight
namespace Go.Proofs.YtleobnfmbhobgaaDoor
open Go.RowKit Go.Maps

def alvB (m : Msg) : Bool := !m.dead
def dedB (m : Msg) : Bool := m.dead
def dueB (now : Int) (m : Msg) : Bool := !m.dead && decide (m.due ≤ now)

set_option maxRecDepth 100000 in
theorem alive_any (m : Msg) (w : World) : Calls Tryd.prog 29 #[m.agg] w fun e w' => e = .returned (.bool (alvB m)) ∧ Below w.heap.size w w' := by
  obtain ⟨c0, c1, c2, c3, c4, c5⟩ := msg_box w m
  have bl : Below w.heap.size w (w.alloc m.obj) := (Below.refl _ _).alloc (Nat.le_refl _) _
  unfold Msg.obj at *
  unfold Msg.agg alvB
  have BL := Lib.hid bl
  clear bl
  go_enter Tryd.func29, Tryd.ntmps29
  go_wp2_with fail
  go_ret
  exact ⟨rfl, BL.out⟩
set_option maxRecDepth 100000 in
theorem dead_any (m : Msg) (w : World) : Calls Tryd.prog 41 #[m.agg] w fun e w' => e = .returned (.bool (dedB m)) ∧ Below w.heap.size w w' := by
  obtain ⟨c0, c1, c2, c3, c4, c5⟩ := msg_box w m
  have bl : Below w.heap.size w (w.alloc m.obj) := (Below.refl _ _).alloc (Nat.le_refl _) _
  unfold Msg.obj at *
  unfold Msg.agg dedB
  have BL := Lib.hid bl
  clear bl
  go_enter Tryd.func41, Tryd.ntmps41
  go_wp2_with fail
  go_ret
  exact ⟨rfl, BL.out⟩
set_option maxRecDepth 100000 in
theorem due1_any (m : Msg) (now : Int) (B : Nat) (w : World) (hB : w.cell? ⟨B, 0, none⟩ = some (.int .i64 now)) (hlt : B < w.heap.size) : Calls Tryd.prog 28 #[m.agg, .pointer (some ⟨B, 0, none⟩)] w fun e w' => e = .returned (.bool (dueB now m)) ∧ Below w.heap.size w w' := by
  obtain ⟨c0, c1, c2, c3, c4, c5⟩ := msg_box w m
  have bl : Below w.heap.size w (w.alloc m.obj) := (Below.refl _ _).alloc (Nat.le_refl _) _
  have hl1 : w.heap.size < (w.alloc m.obj).heap.size := by simp
  have hB1 := (bl.cell (p := ⟨B, 0, none⟩) hlt).trans hB
  have hlt1 : B < (w.alloc m.obj).heap.size := by simp; omega
  have AL := alive_any m (w.alloc m.obj)
  obtain ⟨al, hal⟩ : ∃ al, alvB m = al := ⟨_, rfl⟩
  have hdu : dueB now m = (al && decide (m.due ≤ now)) := by rw [← hal]; rfl
  rw [hal] at AL
  rw [hdu]
  have AL := Lib.hid AL
  unfold Msg.obj at *
  unfold Msg.agg at *
  have BL := Lib.hid bl
  clear bl hB hdu hal
  cases al
  · rw [Bool.false_and]
    go_enter Tryd.func28, Tryd.ntmps28
    go_wp2_with (go_at_call 29; (with_reducible refine (AL.out).mono ?_); rintro e w2 ⟨rfl, b2⟩; have B2 := Lib.hid (BL.out.trans (b2.mono (Nat.le_of_lt hl1))); clear b2)
    go_ret
    exact ⟨rfl, B2.out⟩
  · rw [Bool.true_and]
    obtain ⟨d, hd⟩ : ∃ d, decide (m.due ≤ now) = d := ⟨_, rfl⟩
    rw [hd]
    go_enter Tryd.func28, Tryd.ntmps28
    go_wp2_with (go_at_call 29; (with_reducible refine (AL.out).mono ?_); rintro e w2 ⟨rfl, b2⟩; have k4 := (b2.cell (p := ⟨w.heap.size, 4, none⟩) hl1).trans c4; have kB := (b2.cell (p := ⟨B, 0, none⟩) hlt1).trans hB1; have B2 := Lib.hid (BL.out.trans (b2.mono (Nat.le_of_lt hl1))); clear b2)
    go_ret
    exact ⟨rfl, B2.out⟩
end Go.Proofs.YtleobnfmbhobgaaDoor
