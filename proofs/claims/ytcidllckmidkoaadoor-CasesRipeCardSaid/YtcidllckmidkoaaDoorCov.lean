/- cases.Over, cmp.Compare, at's closure, for any case. -/
import Derived.Test.YtcidllckmidkoaaDoorCins
import Derived.Test.YtcidllckmidkoaaDoorClk
namespace Go.Proofs.YtcidllckmidkoaaDoor
open Go.RowKit Go.Maps

def overB (c : Cas) (now : Int) : Bool := decide (clk c.opened 2000 ≤ now)
theorem cas_box (w : World) (m : Cas) : (w.alloc m.obj).cell? ⟨w.heap.size, 0, none⟩ = some (.int .i64 m.acc) ∧ (w.alloc m.obj).cell? ⟨w.heap.size, 1, none⟩ = some (.int .i64 m.opened) ∧ (w.alloc m.obj).cell? ⟨w.heap.size, 2, none⟩ = some (.int .i64 m.ripe) ∧ (w.alloc m.obj).cell? ⟨w.heap.size, 3, none⟩ = some (.int .i64 m.quorum) ∧
    (w.alloc m.obj).cell? ⟨w.heap.size, 4, none⟩ = some (.string m.v0) ∧ (w.alloc m.obj).cell? ⟨w.heap.size, 5, none⟩ = some (.string m.v1) ∧ (w.alloc m.obj).cell? ⟨w.heap.size, 6, none⟩ = some (.string m.v2) ∧ (w.alloc m.obj).cell? ⟨w.heap.size, 7, none⟩ = some (.string m.v3) ∧ (w.alloc m.obj).cell? ⟨w.heap.size, 8, none⟩ = some (.string m.v4) := by
  refine ⟨?_, ?_, ?_, ?_, ?_, ?_, ?_, ?_, ?_⟩ <;> rw [Lib.cell_of_heap (heap_new w m.obj)] <;> rfl

set_option maxRecDepth 100000 in
set_option maxHeartbeats 2000000 in
theorem over_any (c : Cas) (now : Int) (w : World) : Calls Tryd.prog 14 #[c.agg, .int .i64 now] w fun e w' => e = .returned (.bool (overB c now)) ∧ Below w.heap.size w w' := by
  obtain ⟨c0, c1, c2, c3, c4, c5, c6, c7, c8⟩ := cas_box w c
  have hb : Below w.heap.size w (w.alloc c.obj) := (Below.refl _ _).alloc (Nat.le_refl _) _
  have C := Lib.hid (fun w => clock_any c.opened 2000 w)
  unfold overB
  have HB := Lib.hid hb
  clear hb c0 c2 c3 c4 c5 c6 c7 c8
  generalize clk c.opened 2000 = r at *
  unfold Cas.obj at *
  unfold Cas.agg
  go_enter Tryd.func14, Tryd.ntmps14
  go_wp2_with ((go_at_call 26; (with_reducible refine (C.out _).mono ?_); rintro e w3 ⟨rfl, rfl⟩))
  go_ret
  exact ⟨rfl, HB.out⟩

def cmpI (a b : Int) : Int := if a < b then -1 else if b < a then 1 else 0
set_option maxRecDepth 100000 in
set_option maxHeartbeats 2000000 in
theorem cmp_any (a b : Int) (w : World) : Calls Tryd.prog 40 #[.int .i64 a, .int .i64 b] w fun e w' => e = .returned (.int .i64 (cmpI a b)) ∧ w' = w := by
  have N := Lib.hid (fun x w => Tryd.cmp_isNaN_int2 x w)
  by_cases h1 : a < b
  · have R : Hid (cmpI a b = -1) := Lib.hid (by unfold cmpI; rw [if_pos h1])
    go_enter Tryd.func40, Tryd.ntmps40
    go_wp2_with ((go_at_call 47; (with_reducible refine (N.out _ _).mono ?_); rintro e w3 ⟨rfl, rfl⟩))
    go_ret
    exact ⟨by rw [R.out]; rfl, rfl⟩
  · by_cases h2 : b < a
    · have R : Hid (cmpI a b = 1) := Lib.hid (by unfold cmpI; rw [if_neg h1, if_pos h2])
      go_enter Tryd.func40, Tryd.ntmps40
      go_wp2_with ((go_at_call 47; (with_reducible refine (N.out _ _).mono ?_); rintro e w3 ⟨rfl, rfl⟩))
      go_ret
      exact ⟨by rw [R.out]; rfl, rfl⟩
    · have R : Hid (cmpI a b = 0) := Lib.hid (by unfold cmpI; rw [if_neg h1, if_neg h2])
      go_enter Tryd.func40, Tryd.ntmps40
      go_wp2_with ((go_at_call 47; (with_reducible refine (N.out _ _).mono ?_); rintro e w3 ⟨rfl, rfl⟩))
      go_ret
      exact ⟨by rw [R.out]; rfl, rfl⟩
set_option maxRecDepth 100000 in
set_option maxHeartbeats 2000000 in
theorem atc_any (c : Cas) (id : Int) (w : World) : Calls Tryd.prog 39 #[c.agg, .int .i64 id] w fun e w' => e = .returned (.int .i64 (cmpI c.acc id)) ∧ Below w.heap.size w w' := by
  obtain ⟨c0, c1, c2, c3, c4, c5, c6, c7, c8⟩ := cas_box w c
  have hb : Below w.heap.size w (w.alloc c.obj) := (Below.refl _ _).alloc (Nat.le_refl _) _
  have C := Lib.hid (fun w => cmp_any c.acc id w)
  have HB := Lib.hid hb
  clear hb c1 c2 c3 c4 c5 c6 c7 c8
  generalize cmpI c.acc id = r at *
  unfold Cas.obj at *
  unfold Cas.agg
  go_enter Tryd.func39, Tryd.ntmps39
  go_wp2_with ((go_at_call 40; (with_reducible refine (C.out _).mono ?_); rintro e w3 ⟨rfl, rfl⟩))
  go_ret
  exact ⟨rfl, HB.out⟩
end Go.Proofs.YtcidllckmidkoaaDoor
