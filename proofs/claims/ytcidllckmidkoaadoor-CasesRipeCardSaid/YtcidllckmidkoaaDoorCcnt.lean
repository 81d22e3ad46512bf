/- cases.Count, Has, for any case. -/
import Derived.Test.YtcidllckmidkoaaDoorCfind
namespace Go.Proofs.YtcidllckmidkoaaDoor
open Go.RowKit Go.Maps

def Cas.vs (c : Cas) : List ByteArray := [c.v0, c.v1, c.v2, c.v3, c.v4]
def nonE (v : ByteArray) : Bool := !v.toList.isEmpty
def cntB (c : Cas) : Nat := (c.vs.filter nonE).length
theorem cnt_step (c : Cas) (k : Nat) (v : ByteArray) (h : c.vs[k]? = some v) : ((c.vs.take (k + 1)).filter nonE).length = ((c.vs.take k).filter nonE).length + (if nonE v then 1 else 0) := by
  obtain ⟨hk, rfl⟩ := List.getElem?_eq_some_iff.1 h
  rw [List.take_succ_eq_append_getElem hk, List.filter_append, List.length_append, List.filter_cons]
  split <;> rfl
theorem idx0 (a b c d e : Value) (w : World) : (Instr.index 26 (.agg #[a, b, c, d, e]) (.int .i64 0)).run Tryd.prog w = .ok a w := by kernel_rfl
theorem idx1 (a b c d e : Value) (w : World) : (Instr.index 26 (.agg #[a, b, c, d, e]) (.int .i64 1)).run Tryd.prog w = .ok b w := by kernel_rfl
theorem idx2 (a b c d e : Value) (w : World) : (Instr.index 26 (.agg #[a, b, c, d, e]) (.int .i64 2)).run Tryd.prog w = .ok c w := by kernel_rfl
theorem idx3 (a b c d e : Value) (w : World) : (Instr.index 26 (.agg #[a, b, c, d, e]) (.int .i64 3)).run Tryd.prog w = .ok d w := by kernel_rfl
theorem idx4 (a b c d e : Value) (w : World) : (Instr.index 26 (.agg #[a, b, c, d, e]) (.int .i64 4)).run Tryd.prog w = .ok e w := by kernel_rfl
set_option maxRecDepth 100000 in
set_option maxHeartbeats 4000000 in
theorem count_any (c : Cas) (w : World) : Calls Tryd.prog 10 #[c.agg] w fun e w' => e = .returned (.int .i64 (cntB c : Nat)) ∧ Below w.heap.size w w' := by
  obtain ⟨c0, c1, c2, c3, c4, c5, c6, c7, c8⟩ := cas_box w c
  have hb : Below w.heap.size w (w.alloc c.obj) := (Below.refl _ _).alloc (Nat.le_refl _) _
  have HB := Lib.hid hb
  have ST := Lib.hid (cnt_step c)
  obtain ⟨F, hF⟩ : ∃ F : Nat → Nat, ∀ k, F k = ((c.vs.take k).filter nonE).length := ⟨_, fun _ => rfl⟩
  have HF := Lib.hid hF
  have HC : Hid (cntB c = F 5) := Lib.hid (by rw [hF]; rfl)
  clear hb c0 c1 c2 c3 hF
  unfold Cas.obj at *
  unfold Cas.agg
  go_enter Tryd.func10, Tryd.ntmps10
  go_wp2_with fail
  go_loop [3, 8] (fun n i => ∃ k : Nat, k ≤ 5 ∧ i = .int .i64 k ∧ n = .int .i64 (F k : Nat)) (fun _ i => 5 - (intOf i).toNat)
  case atStart => exact ⟨0, by omega, rfl, by rw [HF.out]; rfl⟩
  case round =>
    obtain ⟨k, hk, rfl, rfl⟩ := hrel
    have hle : F k ≤ 5 := by
      rw [HF.out]
      refine Nat.le_trans (List.length_filter_le _ _) ?_
      rw [List.length_take]
      exact Nat.le_trans (Nat.min_le_right _ _) (Nat.le_refl _)
    by_cases h5 : k = 5
    · subst h5
      go_wp2_with fail
      go_ret
      exact ⟨by rw [HC.out]; rfl, HB.out⟩
    · have hc : k = 0 ∨ k = 1 ∨ k = 2 ∨ k = 3 ∨ k = 4 := by omega
      clear h5 hk
      rcases hc with rfl | rfl | rfl | rfl | rfl
      · have S := ST.out 0 c.v0 rfl
        rw [← HF.out, ← HF.out] at S
        unfold nonE at S
        cases hv : c.v0.toList.isEmpty
        all_goals
          rw [hv] at S
          have SH := Lib.hid S
          clear S
          generalize F 0 = f0 at *
          go_wp2_with (simp only [idx0])
          go_round
          case rel => exact ⟨1, by omega, rfl, by rw [SH.out]; simp⟩
          case measure => simp [intOf]
      · have S := ST.out 1 c.v1 rfl
        rw [← HF.out, ← HF.out] at S
        unfold nonE at S
        cases hv : c.v1.toList.isEmpty
        all_goals
          rw [hv] at S
          have SH := Lib.hid S
          clear S
          generalize F 1 = f0 at *
          go_wp2_with (simp only [idx1])
          go_round
          case rel => exact ⟨2, by omega, rfl, by rw [SH.out]; simp⟩
          case measure => simp [intOf]
      · have S := ST.out 2 c.v2 rfl
        rw [← HF.out, ← HF.out] at S
        unfold nonE at S
        cases hv : c.v2.toList.isEmpty
        all_goals
          rw [hv] at S
          have SH := Lib.hid S
          clear S
          generalize F 2 = f0 at *
          go_wp2_with (simp only [idx2])
          go_round
          case rel => exact ⟨3, by omega, rfl, by rw [SH.out]; simp⟩
          case measure => simp [intOf]
      · have S := ST.out 3 c.v3 rfl
        rw [← HF.out, ← HF.out] at S
        unfold nonE at S
        cases hv : c.v3.toList.isEmpty
        all_goals
          rw [hv] at S
          have SH := Lib.hid S
          clear S
          generalize F 3 = f0 at *
          go_wp2_with (simp only [idx3])
          go_round
          case rel => exact ⟨4, by omega, rfl, by rw [SH.out]; simp⟩
          case measure => simp [intOf]
      · have S := ST.out 4 c.v4 rfl
        rw [← HF.out, ← HF.out] at S
        unfold nonE at S
        cases hv : c.v4.toList.isEmpty
        all_goals
          rw [hv] at S
          have SH := Lib.hid S
          clear S
          generalize F 4 = f0 at *
          go_wp2_with (simp only [idx4])
          go_round
          case rel => exact ⟨5, by omega, rfl, by rw [SH.out]; simp⟩
          case measure => simp [intOf]

/-- Has one vouched? -/
def hasB (c : Cas) (x : ByteArray) : Bool := nonE x && Lib.containsS c.vs x
theorem vs_cells (w : World) (c : Cas) : ∀ j, j < c.vs.length → (w.alloc c.obj).cell? ⟨w.heap.size, 4 + j, none⟩ = some (.string (c.vs.getD j ByteArray.empty)) := fun j hj => by
  obtain ⟨c0, c1, c2, c3, c4, c5, c6, c7, c8⟩ := cas_box w c
  have hj5 : j < 5 := hj
  have hc : j = 0 ∨ j = 1 ∨ j = 2 ∨ j = 3 ∨ j = 4 := by omega
  rcases hc with rfl | rfl | rfl | rfl | rfl
  · exact c4
  · exact c5
  · exact c6
  · exact c7
  · exact c8
set_option maxRecDepth 100000 in
set_option maxHeartbeats 4000000 in
theorem has_any (c : Cas) (x : ByteArray) (w : World) : Calls Tryd.prog 12 #[c.agg, .string x] w fun e w' => e = .returned (.bool (hasB c x)) ∧ Below w.heap.size w w' := by
  have hb : Below w.heap.size w (w.alloc c.obj) := (Below.refl _ _).alloc (Nat.le_refl _) _
  have HB := Lib.hid hb
  have CO := Lib.hid (Tryd.slices_Contains_string w.heap.size 4 5 5 c.vs x (w.alloc c.obj) (Nat.le_refl 5) (by omega) (vs_cells w c))
  have e5 : c.vs.take 5 = c.vs := rfl
  rw [e5] at CO
  have HH : Hid (hasB c x = (nonE x && Lib.containsS c.vs x)) := Lib.hid rfl
  obtain ⟨b, hbq⟩ : ∃ b, Lib.containsS c.vs x = b := ⟨_, rfl⟩
  rw [hbq] at CO HH
  unfold nonE at HH
  clear hb hbq e5
  unfold Cas.obj at *
  unfold Cas.agg
  cases hv : x.toList.isEmpty
  · rw [hv] at HH
    go_enter Tryd.func12, Tryd.ntmps12
    go_wp2_with ((go_at_call 25; (with_reducible refine (CO.out).mono ?_); rintro e w3 ⟨rfl, rfl⟩))
    go_ret
    exact ⟨by rw [HH.out]; rfl, HB.out⟩
  · rw [hv] at HH
    go_enter Tryd.func12, Tryd.ntmps12
    go_wp2_with fail
    go_ret
    exact ⟨by rw [HH.out]; rfl, HB.out⟩
end Go.Proofs.YtcidllckmidkoaaDoor
