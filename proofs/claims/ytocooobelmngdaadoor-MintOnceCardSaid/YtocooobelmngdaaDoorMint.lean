/- mint.of, Tries, Life and Clock: what a purpose's secrets are like, and a time so many ticks on. -/
import Derived.Test.YtocooobelmngdaaDoorSmall
import Derived.Laws.Tables
namespace Go.Proofs.YtocooobelmngdaaDoor
open Go.RowKit

/-- A time, so many ticks on. -/
def clk (n t : Int) : Int := if n < 0 ∨ t < 0 then 0 else min (min n 1099511627776 + min t 1099511627776) 1099511627776
set_option maxHeartbeats 1000000 in
set_option maxRecDepth 100000 in
theorem clock_any (n t : Int) (w : World) :
    Calls Tryd.prog 10 #[.int .i64 n, .int .i64 t] w fun e w' => e = .returned (.int .i64 (clk n t)) ∧ w' = w := by
  have HC : Hid (clk n t = if n < 0 ∨ t < 0 then 0 else min (min n 1099511627776 + min t 1099511627776) 1099511627776) := rfl
  by_cases h1 : n < 0 <;> by_cases h2 : t < 0 <;> by_cases h3 : 1099511627776 < n <;> by_cases h4 : 1099511627776 < t
  all_goals try omega
  all_goals
    go_enter Tryd.func10, Tryd.ntmps10
    go_wp2
  all_goals
    go_ret
    refine ⟨?_, rfl⟩
    rw [HC.out]
    first
      | rfl
      | (refine ret_int ?_; omega)
      | (refine ret_int ?_; simp only [Int.min_def]; (repeat' split) <;> omega)

def purposeKind (p : Int) : Int × Int := if p = 1 then (600, 5) else if p = 2 then (60, 5) else if p = 3 then (120, 5) else if p = 4 then (30, 3) else if p = 5 then (120, 5) else if p = 6 then (2000, 5) else (0, 0)

def kindsM : Array Value := #[.int .i64 0, .int .i64 0, .int .i64 600, .int .i64 5, .int .i64 60, .int .i64 5, .int .i64 120, .int .i64 5, .int .i64 30, .int .i64 3, .int .i64 120, .int .i64 5, .int .i64 2000, .int .i64 5]
set_option maxHeartbeats 4000000 in
set_option maxRecDepth 100000 in
theorem of_in (p : Nat) (hp : p < 7) (a b : Int) (h0 : kindsM[p * 2]? = some (.int .i64 a)) (h1 : kindsM[p * 2 + 1]? = some (.int .i64 b)) (w : World) :
    Calls Tryd.prog 24 #[.int .i64 p] w fun e w' => e = .returned (.agg #[.int .i64 a, .int .i64 b]) ∧ Below w.heap.size w w' := by
  have hp7 : (p : Int) < 7 := by omega
  have hc : p = 0 ∨ p = 1 ∨ p = 2 ∨ p = 3 ∨ p = 4 ∨ p = 5 ∨ p = 6 := by omega
  rcases hc with rfl | rfl | rfl | rfl | rfl | rfl | rfl
  all_goals
    have e0 := Option.some.inj (show some (Value.int .i64 _) = some (.int .i64 a) from h0)
    have e1 := Option.some.inj (show some (Value.int .i64 _) = some (.int .i64 b) from h1)
    injection e0 with _ e0
    injection e1 with _ e1
    have E0 := Lib.hid e0
    have E1 := Lib.hid e1
    clear h0 h1 hp hp7 e0 e1
    go_enter Tryd.func24, Tryd.ntmps24
    go_wp2
    have e0 := E0.out
    have e1 := E1.out
    refine bodyPost_ret (v := .agg #[.int .i64 a, .int .i64 b]) (by simp [results, Tryd.results24, go_sem, ← e0, ← e1]) rfl ⟨rfl, ?_⟩
    repeat (first | exact Below.refl _ _ | exact below_alloc (below_alloc (Below.refl _ _) _) _ | refine below_set ?_ _ _ (by simp) _)
end Go.Proofs.YtocooobelmngdaaDoor
