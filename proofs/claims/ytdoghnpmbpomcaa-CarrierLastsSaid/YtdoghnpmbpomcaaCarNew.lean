/- carrier.New, and Last of a nil carrier. -/
import Derived.Test.YtdoghnpmbpomcaaCarNil
namespace Go.Proofs.Ytdoghnpmbpomcaa
open Go.RowKit

theorem makeBoxes (w : World) : (Instr.makeMap 59 none).run Try.prog w = .ok (.map (some w.heap.size)) (w.alloc (.map #[] 0)) := by kernel_rfl
theorem makeCount (w : World) : (Instr.makeMap 60 none).run Try.prog w = .ok (.map (some w.heap.size)) (w.alloc (.map #[] 0)) := by kernel_rfl
set_option maxRecDepth 100000 in
theorem new_any (w : World) : Calls Try.prog 9 #[] w fun e w' => e = .returned (.pointer (some ⟨w.heap.size + 1 + 1, 0, none⟩)) ∧
    w' = ((w.alloc (.map #[] 0)).alloc (.map #[] 0)).alloc (.cells #[.slice none 0 0, .map (some w.heap.size), .map (some (w.heap.size + 1))] 62) := by
  have h1 := makeBoxes
  have h2 := makeCount
  go_enter Try.func9, Try.ntmps9
  go_wp2_with fail
  go_ret
  exact ⟨rfl, rfl⟩
end Go.Proofs.Ytdoghnpmbpomcaa
