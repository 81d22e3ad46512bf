/- mint.Clock alone: for a seat that holds it and not the rest of mint. -/
import Derived.Test.YtkihleecjgoipaaDoorSmall
namespace Go.Proofs.YtkihleecjgoipaaDoor
open Go.RowKit

/-- A time, so many ticks on. -/
def clk (n t : Int) : Int := if n < 0 ∨ t < 0 then 0 else min (min n 1099511627776 + min t 1099511627776) 1099511627776
set_option maxHeartbeats 1000000 in
set_option maxRecDepth 100000 in
theorem clock_any (n t : Int) (w : World) :
    Calls Tryd.prog 70 #[.int .i64 n, .int .i64 t] w fun e w' => e = .returned (.int .i64 (clk n t)) ∧ w' = w := by
  have HC : Hid (clk n t = if n < 0 ∨ t < 0 then 0 else min (min n 1099511627776 + min t 1099511627776) 1099511627776) := rfl
  by_cases h1 : n < 0 <;> by_cases h2 : t < 0 <;> by_cases h3 : 1099511627776 < n <;> by_cases h4 : 1099511627776 < t
  all_goals try omega
  all_goals
    go_enter Tryd.func70, Tryd.ntmps70
    go_wp2
  all_goals
    go_ret
    refine ⟨?_, rfl⟩
    rw [HC.out]
    first
      | rfl
      | (refine ret_int ?_; omega)
      | (refine ret_int ?_; simp only [Int.min_def]; (repeat' split) <;> omega)
end Go.Proofs.YtkihleecjgoipaaDoor
