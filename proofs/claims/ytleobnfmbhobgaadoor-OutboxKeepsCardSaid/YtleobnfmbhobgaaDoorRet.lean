/- retry.Delay, Next, Dead, for any number of attempts. -/
import Derived.Test.YtleobnfmbhobgaaDoorClk
namespace Go.Proofs.YtleobnfmbhobgaaDoor
open Go.RowKit

def dly (a : Int) : Int := if a < 1 then 0 else if a ≤ 7 then 2 ^ (a.toNat - 1) else 64
set_option maxRecDepth 100000 in
theorem delay_all (a : Int) (h2 : a ≤ 9223372036854775807) (w : World) :
    Calls Tryd.prog 46 #[.int .i64 a] w fun e w' => e = .returned (.int .i64 (dly a)) ∧ w' = w := by
  by_cases h0 : a < 1
  · have hd : dly a = 0 := by simp [dly, h0]
    rw [hd]
    clear hd
    go_enter Tryd.func46, Tryd.ntmps46
    go_wp2
    go_ret
    exact ⟨rfl, rfl⟩
  by_cases h7 : a ≤ 7
  · have hc : a = 1 ∨ a = 2 ∨ a = 3 ∨ a = 4 ∨ a = 5 ∨ a = 6 ∨ a = 7 := by omega
    rcases hc with rfl | rfl | rfl | rfl | rfl | rfl | rfl
    all_goals
      go_enter Tryd.func46, Tryd.ntmps46
      go_wp2
      go_ret
      exact ⟨rfl, rfl⟩
  · have hd : dly a = 64 := by simp [dly, h0, h7]
    have h8 : 7 ≤ a - 1 := by omega
    rw [hd]
    by_cases h9 : a = 8
    · subst h9
      go_enter Tryd.func46, Tryd.ntmps46
      go_wp2
      go_ret
      exact ⟨rfl, rfl⟩
    have h10 : 7 < a - 1 := by omega
    clear hd
    go_enter Tryd.func46, Tryd.ntmps46
    go_wp2
    go_ret
    exact ⟨rfl, rfl⟩
theorem dly_range (a : Int) : 0 ≤ dly a ∧ dly a ≤ 64 := by
  unfold dly
  split
  · omega
  · split
    · have hc : a = 1 ∨ a = 2 ∨ a = 3 ∨ a = 4 ∨ a = 5 ∨ a = 6 ∨ a = 7 := by omega
      rcases hc with rfl | rfl | rfl | rfl | rfl | rfl | rfl <;> decide
    · omega
set_option maxRecDepth 100000 in
theorem rnext_any (now a : Int) (h2 : a ≤ 9223372036854775807) (w : World) : Calls Tryd.prog 23 #[.int .i64 now, .int .i64 a] w fun e w' => e = .returned (.int .i64 (clk now (dly a))) ∧ w' = w := by
  have D := Lib.hid (delay_all a h2 w)
  generalize dly a = d at *
  have C := Lib.hid (clock_any now d w)
  generalize clk now d = r at *
  go_enter Tryd.func23, Tryd.ntmps23
  go_wp2_with (first
    | (go_at_call 46; (with_reducible refine (D.out).mono ?_); rintro e w2 ⟨rfl, rfl⟩)
    | (go_at_call 45; (with_reducible refine (C.out).mono ?_); rintro e w3 ⟨rfl, rfl⟩))
  go_ret
  exact ⟨rfl, rfl⟩
def gone (a : Int) : Bool := decide (8 ≤ a)
set_option maxRecDepth 100000 in
theorem rdead_any (a : Int) (w : World) : Calls Tryd.prog 24 #[.int .i64 a] w fun e w' => e = .returned (.bool (gone a)) ∧ w' = w := by
  obtain ⟨b, hb⟩ : ∃ b, decide (8 ≤ a) = b := ⟨_, rfl⟩
  unfold gone
  rw [hb]
  go_enter Tryd.func24, Tryd.ntmps24
  go_wp2_with fail
  go_ret
  exact ⟨rfl, rfl⟩
end Go.Proofs.YtleobnfmbhobgaaDoor
