/- Proved: cases.Quorum of one to five contacts is more than half of them and never more than all; of a number below one it is nought, and of a hundred times as many it is five. Conditions: none, any int. -/
import Derived.Test.YtcidllckmidkoaaPCasesQuorumx1
namespace Go.Proofs.Ytcidllckmidkoaa.Pure
open Go.RowKit Go.Proofs.Ytcidllckmidkoaa.PCasesQuorum Go.Proofs.YtcidllckmidkoaaW.PrintWords Go.Proofs.YtcidllckmidkoaaW.PrintLast

theorem all_five : ∀ k ∈ [(1 : Int), 2, 3, 4, 5], ((cases_Quorum.f k).bind fun t106 => (if (wrap64 (2 * t106)) > k then (if t106 ≤ k then (if (wrap64 (2 * (wrap64 (t106 - 1)))) ≤ k then ((cases_Quorum.f (wrap64 (-k))).bind fun t107 => (if t107 = 0 then ((cases_Quorum.f (wrap64 (100 * k))).bind fun t108 => (some (t108 == 5))) else (some false))) else (some false)) else (some false)) else (some false))) = some true := by
  decide +kernel

theorem awake_true : homecominglaw17_awake.f = some true := by decide +kernel

theorem rest_five (a : Int) : ∃ k ∈ [(1 : Int), 2, 3, 4, 5], wrap64 (1 + (Int.tmod (wrap64 ((Int.tmod a 5) + 5)) 5)) = k := by
  have h1 : -5 < Int.tmod a 5 ∧ Int.tmod a 5 < 5 := ⟨by have := Int.lt_tmod_of_pos a (by decide : (0 : Int) < 5); omega, Int.tmod_lt_of_pos a (by decide)⟩
  have h2 : wrap64 (Int.tmod a 5 + 5) = Int.tmod a 5 + 5 := by unfold wrap64; omega
  rw [h2]
  have h3 : 0 ≤ Int.tmod (Int.tmod a 5 + 5) 5 := Int.tmod_nonneg 5 (by omega)
  have h4 : Int.tmod (Int.tmod a 5 + 5) 5 < 5 := Int.tmod_lt_of_pos _ (by decide)
  generalize Int.tmod (Int.tmod a 5 + 5) 5 = r at *
  have h5 : wrap64 (1 + r) = 1 + r := by unfold wrap64; omega
  rw [h5]
  refine ⟨1 + r, ?_, rfl⟩
  have : r = 0 ∨ r = 1 ∨ r = 2 ∨ r = 3 ∨ r = 4 := by omega
  rcases this with rfl | rfl | rfl | rfl | rfl <;> decide

theorem CasesQuorum : homecominglaw17_CasesQuorum.Pure := by
  intro a _
  obtain ⟨k, hk, e⟩ := rest_five a
  unfold homecominglaw17_CasesQuorum.f
  rw [e, awake_true]
  simp only [Option.bind_some, if_true]
  exact all_five k hk

end Go.Proofs.Ytcidllckmidkoaa.Pure
