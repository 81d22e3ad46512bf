/- slices.Delete of no letter: the same row. -/
import Derived.Test.YtdoghnpmbpomcaaIns
namespace Go.Proofs.Ytdoghnpmbpomcaa
open Go.RowKit

set_option maxHeartbeats 2000000 in
set_option maxRecDepth 100000 in
theorem delete_none (a : Option Addr) (n c : Nat) (hn : n ≤ c) (w : World) :
    Calls Try.prog 27 #[.slice a n c, .int .i64 0, .int .i64 0] w fun e w' => e = .returned (.slice a n c) ∧ w' = w := by
  go_enter Try.func27, Try.ntmps27
  go_wp2_with fail
  go_ret
  exact ⟨rfl, rfl⟩
end Go.Proofs.Ytdoghnpmbpomcaa
