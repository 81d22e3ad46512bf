/- outbox.Right, for any message to an address of at most 4,000,000,000 bytes. -/
import Derived.Test.YtleobnfmbhobgaaDoorMsg
import Derived.Test.YtleobnfmbhobgaaDoorRet
namespace Go.Proofs.YtleobnfmbhobgaaDoor
open Go.RowKit Go.Maps

def rightB (m : Msg) : Bool := decide (1 ≤ m.id) && decide (m.id ≤ 1099511627776) && decide (kindOf m.dest ≠ 0) && !m.body.toList.isEmpty && decide (m.body.size ≤ 80) && decide (0 ≤ m.att) && decide (m.att ≤ 8) && decide (0 ≤ m.due) && decide (m.due ≤ 1099511627776) && (m.dead == gone m.att)
theorem msg_box (w : World) (m : Msg) : (w.alloc m.obj).cell? ⟨w.heap.size, 0, none⟩ = some (.int .u64 m.id) ∧ (w.alloc m.obj).cell? ⟨w.heap.size, 1, none⟩ = some (.string m.dest) ∧ (w.alloc m.obj).cell? ⟨w.heap.size, 2, none⟩ = some (.string m.body) ∧
    (w.alloc m.obj).cell? ⟨w.heap.size, 3, none⟩ = some (.int .i64 m.att) ∧ (w.alloc m.obj).cell? ⟨w.heap.size, 4, none⟩ = some (.int .i64 m.due) ∧ (w.alloc m.obj).cell? ⟨w.heap.size, 5, none⟩ = some (.bool m.dead) := by
  refine ⟨?_, ?_, ?_, ?_, ?_, ?_⟩ <;> rw [Lib.cell_of_heap (heap_new w m.obj)] <;> rfl

set_option maxRecDepth 100000 in
set_option maxHeartbeats 8000000 in
theorem right_any (m : Msg) (hs : m.dest.size ≤ 4000000000) (w : World) (hm : ML w) : Calls Tryd.prog 26 #[m.agg] w fun e w' => e = .returned (.bool (rightB m)) ∧ Below w.heap.size w w' := by
  obtain ⟨c0, c1, c2, c3, c4, c5⟩ := msg_box w m
  have hlt : w.heap.size < (w.alloc m.obj).heap.size := by simp
  have KD := Lib.hid (kind_any m.dest hs (w.alloc m.obj) (hm.below ((Below.refl _ _).alloc (Nat.le_refl _) _)))
  have RD := Lib.hid (fun w => rdead_any m.att w)
  unfold Msg.obj at *
  unfold Msg.agg
  clear hm
  by_cases a1 : 1 ≤ m.id
  · have x1 : ¬ ((m.id : Int) < 1) := by omega
    by_cases a2 : m.id ≤ 1099511627776
    · have x2 : ¬ (1099511627776 < (m.id : Int)) := by omega
      by_cases a3 : kindOf m.dest = 0
      · have z3 : ((kindOf m.dest : Nat) : Int) = 0 := by omega
        have z3' : (((kindOf m.dest : Nat) : Int) == 0) = true := by rw [z3]; rfl
        have RO : Hid (rightB m = false) := Lib.hid (by unfold rightB; simp [a3])
        go_enter Tryd.func26, Tryd.ntmps26
        go_wp2_with ((go_at_call 47; (with_reducible refine (KD.out).mono ?_); rintro e w2 ⟨rfl, hb⟩; have q0 := (hb.cell (p := ⟨w.heap.size, 0, none⟩) hlt).trans c0; have q1 := (hb.cell (p := ⟨w.heap.size, 1, none⟩) hlt).trans c1; have q2 := (hb.cell (p := ⟨w.heap.size, 2, none⟩) hlt).trans c2; have q3 := (hb.cell (p := ⟨w.heap.size, 3, none⟩) hlt).trans c3; have q4 := (hb.cell (p := ⟨w.heap.size, 4, none⟩) hlt).trans c4; have q5 := (hb.cell (p := ⟨w.heap.size, 5, none⟩) hlt).trans c5; have HB := Lib.hid (below_then ((Below.refl w.heap.size w).alloc (Nat.le_refl _) _) (Nat.le_of_lt hlt) hb); clear hb))
        go_ret
        exact ⟨ret_bool (by rw [RO.out]), HB.out⟩
      · have z3 : ¬ ((kindOf m.dest : Nat) : Int) = 0 := by omega
        have z3' : (((kindOf m.dest : Nat) : Int) == 0) = false := by simpa using z3
        cases a4 : m.body.toList.isEmpty
        · by_cases a5 : m.body.size ≤ 80
          · have x5 : ¬ (80 < (m.body.size : Int)) := by omega
            by_cases a6 : 0 ≤ m.att
            · have x6 : ¬ (m.att < 0) := by omega
              by_cases a7 : m.att ≤ 8
              · have x7 : ¬ (8 < m.att) := by omega
                by_cases a8 : 0 ≤ m.due
                · have x8 : ¬ (m.due < 0) := by omega
                  by_cases a9 : m.due ≤ 1099511627776
                  · have x9 : ¬ (1099511627776 < m.due) := by omega
                    have RO : Hid (rightB m = (m.dead == gone m.att)) := Lib.hid (by unfold rightB; simp [a1, a2, a3, a4, a5, a6, a7, a8, a9])
                    go_enter Tryd.func26, Tryd.ntmps26
                    go_wp2_with ((go_at_call 47; (with_reducible refine (KD.out).mono ?_); rintro e w2 ⟨rfl, hb⟩; have q0 := (hb.cell (p := ⟨w.heap.size, 0, none⟩) hlt).trans c0; have q1 := (hb.cell (p := ⟨w.heap.size, 1, none⟩) hlt).trans c1; have q2 := (hb.cell (p := ⟨w.heap.size, 2, none⟩) hlt).trans c2; have q3 := (hb.cell (p := ⟨w.heap.size, 3, none⟩) hlt).trans c3; have q4 := (hb.cell (p := ⟨w.heap.size, 4, none⟩) hlt).trans c4; have q5 := (hb.cell (p := ⟨w.heap.size, 5, none⟩) hlt).trans c5; have HB := Lib.hid (below_then ((Below.refl w.heap.size w).alloc (Nat.le_refl _) _) (Nat.le_of_lt hlt) hb); clear hb))
                    go_quiet ((go_at_call 24; exact Calls.quiet_of_same (RD.out _)))
                    go_wp2_with fail
                    go_ret
                    exact ⟨ret_bool (by rw [RO.out]), below_drewN HB.out _⟩
                  · have x9 : 1099511627776 < m.due := by omega
                    have RO : Hid (rightB m = false) := Lib.hid (by unfold rightB; simp [a9])
                    go_enter Tryd.func26, Tryd.ntmps26
                    go_wp2_with ((go_at_call 47; (with_reducible refine (KD.out).mono ?_); rintro e w2 ⟨rfl, hb⟩; have q0 := (hb.cell (p := ⟨w.heap.size, 0, none⟩) hlt).trans c0; have q1 := (hb.cell (p := ⟨w.heap.size, 1, none⟩) hlt).trans c1; have q2 := (hb.cell (p := ⟨w.heap.size, 2, none⟩) hlt).trans c2; have q3 := (hb.cell (p := ⟨w.heap.size, 3, none⟩) hlt).trans c3; have q4 := (hb.cell (p := ⟨w.heap.size, 4, none⟩) hlt).trans c4; have q5 := (hb.cell (p := ⟨w.heap.size, 5, none⟩) hlt).trans c5; have HB := Lib.hid (below_then ((Below.refl w.heap.size w).alloc (Nat.le_refl _) _) (Nat.le_of_lt hlt) hb); clear hb))
                    go_ret
                    exact ⟨ret_bool (by rw [RO.out]), HB.out⟩
                · have x8 : m.due < 0 := by omega
                  have RO : Hid (rightB m = false) := Lib.hid (by unfold rightB; simp [a8])
                  go_enter Tryd.func26, Tryd.ntmps26
                  go_wp2_with ((go_at_call 47; (with_reducible refine (KD.out).mono ?_); rintro e w2 ⟨rfl, hb⟩; have q0 := (hb.cell (p := ⟨w.heap.size, 0, none⟩) hlt).trans c0; have q1 := (hb.cell (p := ⟨w.heap.size, 1, none⟩) hlt).trans c1; have q2 := (hb.cell (p := ⟨w.heap.size, 2, none⟩) hlt).trans c2; have q3 := (hb.cell (p := ⟨w.heap.size, 3, none⟩) hlt).trans c3; have q4 := (hb.cell (p := ⟨w.heap.size, 4, none⟩) hlt).trans c4; have q5 := (hb.cell (p := ⟨w.heap.size, 5, none⟩) hlt).trans c5; have HB := Lib.hid (below_then ((Below.refl w.heap.size w).alloc (Nat.le_refl _) _) (Nat.le_of_lt hlt) hb); clear hb))
                  go_ret
                  exact ⟨ret_bool (by rw [RO.out]), HB.out⟩
              · have x7 : 8 < m.att := by omega
                have RO : Hid (rightB m = false) := Lib.hid (by unfold rightB; simp [a7])
                go_enter Tryd.func26, Tryd.ntmps26
                go_wp2_with ((go_at_call 47; (with_reducible refine (KD.out).mono ?_); rintro e w2 ⟨rfl, hb⟩; have q0 := (hb.cell (p := ⟨w.heap.size, 0, none⟩) hlt).trans c0; have q1 := (hb.cell (p := ⟨w.heap.size, 1, none⟩) hlt).trans c1; have q2 := (hb.cell (p := ⟨w.heap.size, 2, none⟩) hlt).trans c2; have q3 := (hb.cell (p := ⟨w.heap.size, 3, none⟩) hlt).trans c3; have q4 := (hb.cell (p := ⟨w.heap.size, 4, none⟩) hlt).trans c4; have q5 := (hb.cell (p := ⟨w.heap.size, 5, none⟩) hlt).trans c5; have HB := Lib.hid (below_then ((Below.refl w.heap.size w).alloc (Nat.le_refl _) _) (Nat.le_of_lt hlt) hb); clear hb))
                go_ret
                exact ⟨ret_bool (by rw [RO.out]), HB.out⟩
            · have x6 : m.att < 0 := by omega
              have RO : Hid (rightB m = false) := Lib.hid (by unfold rightB; simp [a6])
              go_enter Tryd.func26, Tryd.ntmps26
              go_wp2_with ((go_at_call 47; (with_reducible refine (KD.out).mono ?_); rintro e w2 ⟨rfl, hb⟩; have q0 := (hb.cell (p := ⟨w.heap.size, 0, none⟩) hlt).trans c0; have q1 := (hb.cell (p := ⟨w.heap.size, 1, none⟩) hlt).trans c1; have q2 := (hb.cell (p := ⟨w.heap.size, 2, none⟩) hlt).trans c2; have q3 := (hb.cell (p := ⟨w.heap.size, 3, none⟩) hlt).trans c3; have q4 := (hb.cell (p := ⟨w.heap.size, 4, none⟩) hlt).trans c4; have q5 := (hb.cell (p := ⟨w.heap.size, 5, none⟩) hlt).trans c5; have HB := Lib.hid (below_then ((Below.refl w.heap.size w).alloc (Nat.le_refl _) _) (Nat.le_of_lt hlt) hb); clear hb))
              go_ret
              exact ⟨ret_bool (by rw [RO.out]), HB.out⟩
          · have x5 : 80 < (m.body.size : Int) := by omega
            have RO : Hid (rightB m = false) := Lib.hid (by unfold rightB; simp [a5])
            go_enter Tryd.func26, Tryd.ntmps26
            go_wp2_with ((go_at_call 47; (with_reducible refine (KD.out).mono ?_); rintro e w2 ⟨rfl, hb⟩; have q0 := (hb.cell (p := ⟨w.heap.size, 0, none⟩) hlt).trans c0; have q1 := (hb.cell (p := ⟨w.heap.size, 1, none⟩) hlt).trans c1; have q2 := (hb.cell (p := ⟨w.heap.size, 2, none⟩) hlt).trans c2; have q3 := (hb.cell (p := ⟨w.heap.size, 3, none⟩) hlt).trans c3; have q4 := (hb.cell (p := ⟨w.heap.size, 4, none⟩) hlt).trans c4; have q5 := (hb.cell (p := ⟨w.heap.size, 5, none⟩) hlt).trans c5; have HB := Lib.hid (below_then ((Below.refl w.heap.size w).alloc (Nat.le_refl _) _) (Nat.le_of_lt hlt) hb); clear hb))
            go_ret
            exact ⟨ret_bool (by rw [RO.out]), HB.out⟩
        · have RO : Hid (rightB m = false) := Lib.hid (by unfold rightB; simp [a4])
          go_enter Tryd.func26, Tryd.ntmps26
          go_wp2_with ((go_at_call 47; (with_reducible refine (KD.out).mono ?_); rintro e w2 ⟨rfl, hb⟩; have q0 := (hb.cell (p := ⟨w.heap.size, 0, none⟩) hlt).trans c0; have q1 := (hb.cell (p := ⟨w.heap.size, 1, none⟩) hlt).trans c1; have q2 := (hb.cell (p := ⟨w.heap.size, 2, none⟩) hlt).trans c2; have q3 := (hb.cell (p := ⟨w.heap.size, 3, none⟩) hlt).trans c3; have q4 := (hb.cell (p := ⟨w.heap.size, 4, none⟩) hlt).trans c4; have q5 := (hb.cell (p := ⟨w.heap.size, 5, none⟩) hlt).trans c5; have HB := Lib.hid (below_then ((Below.refl w.heap.size w).alloc (Nat.le_refl _) _) (Nat.le_of_lt hlt) hb); clear hb))
          go_ret
          exact ⟨ret_bool (by rw [RO.out]), HB.out⟩
    · have x2 : 1099511627776 < (m.id : Int) := by omega
      have RO : Hid (rightB m = false) := Lib.hid (by unfold rightB; simp [a2])
      go_enter Tryd.func26, Tryd.ntmps26
      go_wp2_with fail
      go_ret
      exact ⟨ret_bool (by rw [RO.out]), (Below.refl w.heap.size w).alloc (Nat.le_refl _) _⟩
  · have x1 : (m.id : Int) < 1 := by omega
    have RO : Hid (rightB m = false) := Lib.hid (by unfold rightB; simp [a1])
    go_enter Tryd.func26, Tryd.ntmps26
    go_wp2_with fail
    go_ret
    exact ⟨ret_bool (by rw [RO.out]), (Below.refl w.heap.size w).alloc (Nat.le_refl _) _⟩
end Go.Proofs.YtleobnfmbhobgaaDoor
