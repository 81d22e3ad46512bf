/- slices.Insert at the end of a row of letters of one's own. -/
import Derived.Test.YtdoghnpmbpomcaaCarNew
import Derived.Test.YtdoghnpmbpomcaaWWords
import Derived.Maps.AppendAt
namespace Go.Proofs.Ytdoghnpmbpomcaa
open Go.RowKit Go.Proofs.YtdoghnpmbpomcaaW.PrintWords

theorem infoLetter : (Try.prog.info? 40).map (fun i => (i.zero, i.size, i.bytes)) = some (some (.agg #[.int .u64 0, .string ⟨#[]⟩, .string ⟨#[]⟩, .int .i64 0]), 4, 48) := by kernel_rfl
set_option maxHeartbeats 2000000 in
set_option maxRecDepth 100000 in
theorem insert_end (B n : Nat) (s : Value) (xs : List Value) (w : World) (hown : w.ownsRow B 40 4 s n xs) (vb : Nat) (id at_ : Int) (dest body : ByteArray)
    (hv : w.heap[vb]? = some (.cells #[.int .u64 id, .string dest, .string body, .int .i64 at_] 40 (0, 0))) (hB : B ≤ w.heap.size) (lim : n ≤ 1000000) :
    Calls Try.prog 33 #[s, .int .i64 n, .slice (some ⟨vb, 0, none⟩) 1 1] w fun e w' =>
      ∃ v', e = .returned v' ∧ w'.ownsRow B 40 4 v' (n + 1) (xs ++ [.int .u64 id, .string dest, .string body, .int .i64 at_]) ∧ w.grownBy w' s.ownBlock ∧ (v'.ownBlock = s.ownBlock ∨ v'.ownBlock = some w.heap.size) := by
  have hs : ∃ a c, s = .slice a n c ∧ n ≤ c ∧ c ≤ 9223372036854775807 := by
    rcases hown.2 with ⟨h1, h2⟩ | ⟨g, cap, cur, h1, r⟩
    · subst h2; exact ⟨none, 0, h1, by omega, by omega⟩
    · exact ⟨some ⟨g, 0, none⟩, cap, h1, r.2.2.1, by have := r.2.2.2.1; unfold maxLen at this; exact this⟩
  obtain ⟨a, c, rfl, hc1, hc2⟩ := hs
  obtain ⟨i0, hi, hz0, hz1, hz2⟩ := info_parts infoLetter
  have hc : ∀ (j : Nat) (u : Value), [Value.int .u64 id, .string dest, .string body, .int .i64 at_][j]? = some u → w.cell? ((⟨vb, 0, none⟩ : Addr).add j) = some u := by
    intro j u hj
    rw [add_plain, Lib.cell_of_heap hv]
    simpa using hj
  have hu : ∀ u ∈ [Value.int .u64 id, .string dest, .string body, .int .i64 at_], u.oneCell' = true := by intro u hu; simp at hu; rcases hu with rfl | rfl | rfl | rfl <;> rfl
  have h3 : n + 1 ≤ maxLen := by unfold maxLen; omega
  have h4 : (n + 1) * 48 ≤ 140737488355328 := by omega
  rcases Nat.eq_or_lt_of_le hc1 with h5 | h5
  · subst h5
    go_enter Try.func33, Try.ntmps33
    go_wp2_with (at_builtin; refine wpList_append_own_at _ rfl _ _ 37 rfl B 40 i0 _ 4 48 Try.underlying37 hi hz0 hz1 hz2 rfl (by decide) _ _ _ rfl hown ⟨vb, 0, none⟩ 1 1 [.int .u64 id, .string dest, .string body, .int .i64 at_] rfl rfl hc hu h3 h4 hB ?_)
    intro v5 w5 hown5 hgrow5 _ hat5
    go_wp2
    go_ret
    exact ⟨v5, rfl, hown5, hgrow5, hat5⟩
  · have h6 : ¬ c = n := by omega
    go_enter Try.func33, Try.ntmps33
    go_wp2_with (at_builtin; refine wpList_append_own_at _ rfl _ _ 37 rfl B 40 i0 _ 4 48 Try.underlying37 hi hz0 hz1 hz2 rfl (by decide) _ _ _ rfl hown ⟨vb, 0, none⟩ 1 1 [.int .u64 id, .string dest, .string body, .int .i64 at_] rfl rfl hc hu h3 h4 hB ?_)
    intro v5 w5 hown5 hgrow5 _ hat5
    go_wp2
    go_ret
    exact ⟨v5, rfl, hown5, hgrow5, hat5⟩
end Go.Proofs.Ytdoghnpmbpomcaa
