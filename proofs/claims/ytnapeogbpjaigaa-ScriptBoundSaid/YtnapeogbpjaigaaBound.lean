/- script.Bound and the document's bound, of numbers that are small: each is the sum of the delays, the crashes and the delay. -/
import Derived.Test.YtnapeogbpjaigaaUp
namespace Go.Proofs.Ytnapeogbpjaigaa
open Go.RowKit

theorem upS_bd (n : Int) (h : 0 ≤ n) (h2 : n ≤ 1000) : 0 ≤ upS n ∧ upS n ≤ 70000 := by
  have := upv_bd n.toNat
  unfold upS
  split <;> omega
theorem upS_zero : upS 0 = 0 := by decide
/-- What so many refusals take. -/
def wi (n : Int) : Int := if n < 1 then 0 else upS n
theorem wi_bd (n : Int) (h2 : n ≤ 1000) : 0 ≤ wi n ∧ wi n ≤ 70000 := by
  unfold wi
  split
  · omega
  · exact upS_bd n (by omega) h2
theorem wi_neg (n : Int) (h : n < 1) : wi n = 0 := if_pos h

set_option maxHeartbeats 1000000 in
theorem sum_any (n : Int) (h1 : 1 ≤ n) (h2 : n ≤ 1000) (w : World) :
    Calls Try.prog 13 #[.int .i64 1, .int .i64 n] w fun e w' => e = .returned (.int .i64 (upS n)) ∧ Below w.heap.size w w' := by
  have hb := upS_bd n (by omega) h2
  have H := Lib.hid (fun W => up_any n W (by omega) (by omega))
  generalize upS n = u at *
  go_enter Try.func13, Try.ntmps13
  go_wp2_with fail
  refine (H.out _).mono ?_
  rintro e w1 ⟨rfl, hb1⟩
  go_wp2_with fail
  refine (up_any 0 _ (by omega) (by omega)).mono ?_
  rintro e w2 ⟨rfl, hb2⟩
  rw [upS_zero]
  go_wp2_with fail
  go_ret
  refine ⟨?_, hb1.trans (hb2.mono hb1.size)⟩
  first | rfl | (refine ret_int ?_; omega)

set_option maxHeartbeats 1000000 in
theorem within_any (n : Int) (h1 : -1000 ≤ n) (h2 : n ≤ 1000) (w : World) :
    Calls Try.prog 8 #[.int .i64 n, .int .i64 1] w fun e w' => e = .returned (.int .i64 (wi n)) ∧ Below w.heap.size w w' := by
  by_cases hn : n < 1
  · have e : wi n = 0 := wi_neg n hn
    rw [e]
    clear e
    go_enter Try.func8, Try.ntmps8
    go_wp2_with fail
    go_ret
    exact ⟨rfl, Below.refl _ _⟩
  · have hb := upS_bd n (by omega) h2
    have e : wi n = upS n := if_neg hn
    have H := Lib.hid (sum_any n (by omega) h2)
    rw [e]
    clear e
    generalize upS n = u at *
    go_enter Try.func8, Try.ntmps8
    go_wp2_with fail
    refine (H.out _).mono ?_
    rintro e w1 ⟨rfl, hb1⟩
    go_wp2_with fail
    go_ret
    refine ⟨?_, hb1⟩
    first | rfl | (refine ret_int ?_; omega)

/-- The bound. -/
def bd (c r d : Int) : Int := wi r + (if 0 < c then c else 0) + (if 0 < d then d else 0)
set_option maxHeartbeats 1000000 in
theorem bound_any (c r d : Int) (c1 : -2000000 ≤ c) (c2 : c ≤ 2000000) (r1 : -1000 ≤ r) (r2 : r ≤ 1000) (d1 : -2000000 ≤ d) (d2 : d ≤ 2000000) (w : World) :
    Calls Try.prog 5 #[.int .i64 c, .int .i64 r, .int .i64 d] w fun e w' => e = .returned (.int .i64 (bd c r d)) ∧ Below w.heap.size w w' := by
  have hb := wi_bd r r2
  have H := Lib.hid (within_any r r1 r2)
  have hbd : Hid (bd c r d = wi r + (if 0 < c then c else 0) + (if 0 < d then d else 0)) := rfl
  generalize wi r = u at *
  by_cases hc : 0 < c <;> by_cases hd : 0 < d
  all_goals
    go_enter Try.func5, Try.ntmps5
    go_wp2_with fail
    refine (H.out _).mono ?_
    rintro e w1 ⟨rfl, hb1⟩
    go_wp2_with fail
    all_goals
      go_ret
      refine ⟨?_, hb1⟩
      rw [hbd.out]
      first | rw [if_pos hc] | rw [if_neg (by omega)]
      first | rw [if_pos hd] | rw [if_neg (by omega)]
      first | rfl | (refine ret_int ?_; omega)
end Go.Proofs.Ytnapeogbpjaigaa
