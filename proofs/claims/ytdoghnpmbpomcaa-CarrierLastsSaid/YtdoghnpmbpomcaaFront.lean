/- What slices.Delete of a row's first letters asks: a row's head of no letters is the same block; clear of letters writes zeros. -/
import Derived.Test.YtdoghnpmbpomcaaDel
namespace Go.Proofs.Ytdoghnpmbpomcaa
open Go.RowKit

theorem addP (b o j : Nat) : (⟨b, o, none⟩ : Addr).add j = ⟨b, o + j, none⟩ := by
  unfold Addr.add
  split
  · rename_i h; subst h; rfl
  · rfl
theorem own_none {w : World} {B n cap g : Nat} {xs : List Value} (h : w.ownsRow B 40 4 (.slice (some ⟨g, 0, none⟩) n cap) n xs) : w.ownsRow B 40 4 (.slice (some ⟨g, 0, none⟩) 0 cap) 0 [] := by
  refine ⟨by simp, ?_⟩
  rcases h.2 with ⟨h1, _⟩ | ⟨g', cap', cur, h1, r1, r2, r3, r4, r5, r6⟩
  · simp at h1
  · simp only [Value.slice.injEq, Option.some.injEq, Addr.mk.injEq, and_true, true_and] at h1
    obtain ⟨rfl, rfl⟩ := h1
    exact .inr ⟨g, cap, cur, rfl, r1, r2, by omega, r4, r5, by simp⟩

theorem append_front {w : World} {B n k cap g : Nat} {xs : List Value} (h : w.ownsRow B 40 4 (.slice (some ⟨g, 0, none⟩) n cap) n xs) (hk : k ≤ n) (h1 : ∀ u ∈ xs, u.oneCell' = true) (ty : TypeId) (c : Nat) :
    ∃ w', (Builtin.append_ #[37, 37] ty #[.slice (some ⟨g, 0, none⟩) 0 cap, .slice (some ⟨g, k * 4, none⟩) (n - k) c]).run Try.prog w = .ok (.slice (some ⟨g, 0, none⟩) (n - k) cap) w' ∧
      w'.ownsRow B 40 4 (.slice (some ⟨g, 0, none⟩) (n - k) cap) (n - k) (xs.drop (k * 4)) ∧ w.grownBy w' (some g) := by
  obtain ⟨i0, hi, hz0, hz1, hz2⟩ := info_parts infoLetter
  have hcap : n ≤ cap := by
    rcases h.2 with ⟨e1, _⟩ | ⟨g', cap', cur, e1, r1, r2, r3, r4, r5, r6⟩
    · simp at e1
    · simp only [Value.slice.injEq, Option.some.injEq, Addr.mk.injEq, and_true, true_and] at e1
      obtain ⟨_, rfl⟩ := e1
      exact r3
  have hl := h.1
  obtain ⟨w', a, b, c'⟩ := run_append_fits (P := Try.prog) w B 37 ty 40 i0 4 Try.underlying37 hi hz1 g 0 cap [] (own_none h) ⟨g, k * 4, none⟩ (n - k) c (xs.drop (k * 4)) (by rw [List.length_drop, hl, Nat.sub_mul])
    (fun j u hj => by
      rw [List.getElem?_drop] at hj
      have := h.cells (g := g) rfl (k * 4 + j) u hj
      rw [addP] at this ⊢
      simpa using this)
    (fun u hu => h1 u (List.mem_of_mem_drop hu)) (by omega)
  refine ⟨w', ?_, ?_, c'⟩
  · rw [a, Nat.zero_add]
  · rw [Nat.zero_add] at b
    simpa using b
end Go.Proofs.Ytdoghnpmbpomcaa
