/- clear of the letters behind a row of one's own: the row stays. -/
import Derived.Test.YtdoghnpmbpomcaaFront
namespace Go.Proofs.Ytdoghnpmbpomcaa
open Go.RowKit

def zeroLetter : Value := .agg #[.int .u64 0, .string ⟨#[]⟩, .string ⟨#[]⟩, .int .i64 0]
theorem zeroLetter_run (w : World) : (zeroValue 40).run Try.prog w = .ok zeroLetter w := by kernel_rfl
theorem zeros_one (k : Nat) : ∀ v ∈ (Builtin.zeroCells zeroLetter.cells k).toList, v.oneCell' = true := by
  intro v hv
  have h4 : ∀ x ∈ zeroLetter.cells.toList, x.oneCell' = true := by decide +kernel
  have hz : zeroLetter.cells.size = 4 := by kernel_rfl
  obtain ⟨j, hj, rfl⟩ := List.getElem_of_mem hv
  simp only [Array.getElem_toList, Builtin.zeroCells]
  refine h4 _ ?_
  simp only [Array.getElem_map, Array.getElem_range, Array.mem_toList_iff]
  have hlt : j % zeroLetter.cells.size < zeroLetter.cells.size := Nat.mod_lt _ (by omega)
  rw [getElem!_pos zeroLetter.cells (j % zeroLetter.cells.size) hlt]
  exact Array.getElem_mem hlt
theorem clear_tail {w : World} {B m k cap g : Nat} {xs : List Value} (h : w.ownsRow B 40 4 (.slice (some ⟨g, 0, none⟩) m cap) m xs) (hk : 0 < k) (hmk : m + k ≤ cap) (ty : TypeId) (c : Nat) :
    ∃ w', (Builtin.clear_ #[37] ty #[.slice (some ⟨g, m * 4, none⟩) k c]).run Try.prog w = .ok (.tuple #[]) w' ∧
      w'.ownsRow B 40 4 (.slice (some ⟨g, 0, none⟩) m cap) m xs ∧ w.grownBy w' (some g) := by
  have hl := h.1
  rcases h.2 with ⟨e1, _⟩ | ⟨g', cap', cur, e1, r1, r2, r3, r4, r5, r6⟩
  · simp at e1
  · simp only [Value.slice.injEq, Option.some.injEq, Addr.mk.injEq, and_true, true_and] at e1
    obtain ⟨rfl, rfl⟩ := e1
    have hz : zeroLetter.cells.size = 4 := by kernel_rfl
    have hzl : (Builtin.zeroCells zeroLetter.cells k).toList.length = k * 4 := by rw [Array.length_toList, size_zeroCells, hz]
    have hst := run_storeCells_at (P := Try.prog) g (m * 4) 40 (Builtin.zeroCells zeroLetter.cells k).toList 0 cur w r2 (by rw [hzl, r5]; omega) (zeros_one k)
    simp only [Nat.add_zero] at hst
    obtain ⟨k', rfl⟩ : ∃ k', k = k' + 1 := ⟨k - 1, by omega⟩
    obtain ⟨R, hR⟩ : ∃ R, R = (cur.toList.take (m * 4) ++ (Builtin.zeroCells zeroLetter.cells (k' + 1)).toList ++ cur.toList.drop (m * 4 + (Builtin.zeroCells zeroLetter.cells (k' + 1)).toList.length)).toArray := ⟨_, rfl⟩
    rw [← hR] at hst
    have hrun : (Builtin.clear_ #[37] ty #[.slice (some ⟨g, m * 4, none⟩) (k' + 1) c]).run Try.prog w = .ok (.tuple #[]) (w.setRow g R) := by
      simp [Builtin.clear_, run_underlying Try.underlying37]
      change ((storeCells ⟨g, m * 4, none⟩ (Builtin.zeroCells zeroLetter.cells (k' + 1)).toList).run Try.prog w).andThen _ = _
      rw [hst]
      rfl
    refine ⟨w.setRow g R, hrun, ⟨hl, .inr ⟨g, cap, R, rfl, r1, setRow_heap w g cur _ _ _ r2, r3, r4, ?_, ?_⟩⟩, ⟨rfl, rfl, rfl, by simp, fun j _ hj => setRow_other w g j _ (fun e => hj (by simp [e]))⟩⟩
    · rw [hR]
      simp only [List.size_toArray, List.length_append, List.length_take, List.length_drop, hzl]
      rw [Array.length_toList, r5]
      omega
    · have hlen : (cur.toList.take (m * 4)).length = m * 4 := by rw [r6]; exact hl
      rw [hR, ← r6, List.append_assoc]
      generalize (Builtin.zeroCells zeroLetter.cells (k' + 1)).toList ++ cur.toList.drop (m * 4 + (Builtin.zeroCells zeroLetter.cells (k' + 1)).toList.length) = Z
      generalize cur.toList.take (m * 4) = X at *
      have e := List.take_left (l₁ := X) (l₂ := Z)
      rw [hlen] at e
      exact e
end Go.Proofs.Ytdoghnpmbpomcaa
