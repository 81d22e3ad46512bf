/- Of no carrier nothing comes: Hand, Arrive, Box, Under, Count of a nil pointer. -/
import Derived.Test.YtdoghnpmbpomcaaClk
namespace Go.Proofs.Ytdoghnpmbpomcaa
open Go.RowKit

set_option maxRecDepth 100000 in
theorem hand_nil (id k d : Int) (to body : ByteArray) (t : Int) (w : World) : Calls Try.prog 11 #[.pointer none, .agg #[.int .u64 id, .string to, .string body], .agg #[.int .i64 k, .int .i64 d], .int .i64 t] w fun e w' => e = .returned (.bool false) ∧ Below w.heap.size w w' := by
  go_enter Try.func11, Try.ntmps11
  go_wp2_with fail
  go_ret
  exact ⟨rfl, below_alloc (below_alloc (Below.refl _ w) _) _⟩
set_option maxRecDepth 100000 in
theorem arrive_nil (t : Int) (w : World) : Calls Try.prog 12 #[.pointer none, .int .i64 t] w fun e w' => e = .returned (.int .i64 0) ∧ Below w.heap.size w w' := by
  go_enter Try.func12, Try.ntmps12
  go_wp2_with fail
  go_ret
  exact ⟨rfl, below_alloc (Below.refl _ w) _⟩
set_option maxRecDepth 100000 in
theorem box_nil (s : ByteArray) (w : World) : Calls Try.prog 14 #[.pointer none, .string s] w fun e w' => e = .returned (.slice none 0 0) ∧ w' = w := by
  go_enter Try.func14, Try.ntmps14
  go_wp2_with fail
  go_ret
  exact ⟨rfl, rfl⟩
set_option maxRecDepth 100000 in
theorem under_nil (w : World) : Calls Try.prog 13 #[.pointer none] w fun e w' => e = .returned (.slice none 0 0) ∧ w' = w := by
  go_enter Try.func13, Try.ntmps13
  go_wp2_with fail
  go_ret
  exact ⟨rfl, rfl⟩
set_option maxRecDepth 100000 in
theorem count_nil (n : Int) (w : World) : Calls Try.prog 15 #[.pointer none, .int .u64 n] w fun e w' => e = .returned (.int .i64 0) ∧ w' = w := by
  go_enter Try.func15, Try.ntmps15
  go_wp2_with fail
  go_ret
  exact ⟨rfl, rfl⟩
end Go.Proofs.Ytdoghnpmbpomcaa
