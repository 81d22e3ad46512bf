/- The document's bound: the same sum. -/
import Derived.Test.YtnapeogbpjaigaaBound
namespace Go.Proofs.Ytnapeogbpjaigaa
open Go.RowKit

theorem dly_two (k : Nat) (h : 1 ≤ k) (h2 : k < 7) : 2 * dly (k : Int) = dly ((k + 1 : Nat) : Int) := by
  have hc : k = 1 ∨ k = 2 ∨ k = 3 ∨ k = 4 ∨ k = 5 ∨ k = 6 := by omega
  rcases hc with rfl | rfl | rfl | rfl | rfl | rfl <;> decide +kernel
theorem dly_lt (k : Nat) (h : 1 ≤ k) (h2 : k < 7) : dly (k : Int) < 64 := by
  have hc : k = 1 ∨ k = 2 ∨ k = 3 ∨ k = 4 ∨ k = 5 ∨ k = 6 := by omega
  rcases hc with rfl | rfl | rfl | rfl | rfl | rfl <;> decide +kernel
theorem dly_top (n : Int) (h : 7 ≤ n) : dly n = 64 := by
  unfold dly
  rw [if_neg (by omega)]
  split
  · have : n = 7 := by omega
    subst this; rfl
  · rfl

set_option maxHeartbeats 1000000 in
theorem rdelay_any (n : Nat) (h1 : 1 ≤ n) (h2 : n ≤ 1000) (w : World) :
    Calls Try.prog 18 #[.int .i64 n] w fun e w' => e = .returned (.int .i64 (dly n)) ∧ w' = w := by
  have HT := Lib.hid (dly_top n)
  go_enter Try.func18, Try.ntmps18
  go_wp2_with fail
  go_loop [3, 4] (fun a i => ∃ k : Nat, 1 ≤ k ∧ k ≤ 7 ∧ k ≤ n ∧ i = .int .i64 k ∧ a = .int .i64 (dly k)) (fun _ i => n - (intOf i).toNat)
  case atStart => exact ⟨1, by omega, by omega, h1, rfl, rfl⟩
  case round =>
    obtain ⟨k, k1, k7, kn, rfl, rfl⟩ := hrel
    have hd := dly_bd k
    by_cases c1 : k < n
    · by_cases c2 : k < 7
      · have hl := dly_lt k k1 c2
        have HS := Lib.hid (dly_two k k1 c2)
        go_wp2_with fail
        go_round
        case rel => exact ⟨k + 1, by omega, by omega, by omega, by go_num, by rw [HS.out]⟩
        case measure => simp [intOf]; omega
      · have he : dly (k : Int) = 64 := dly_top k (by omega)
        have HN := Lib.hid (HT.out (by omega))
        rw [he]
        clear he hd
        go_wp2_with fail
        go_ret
        exact ⟨ret_int HN.out.symm, rfl⟩
    · have hkn : k = n := by omega
      subst hkn
      go_wp2_with fail
      go_ret
      exact ⟨rfl, rfl⟩

theorem upS_step (k : Nat) (h : k < 1000) : upS ((k : Int) + 1) = upS k + dly ((k : Int) + 1) := by
  unfold upS
  by_cases h7 : k < 7
  · have := upv_step k h7
    rw [if_neg (by omega), if_neg (by omega), show ((k : Int) + 1).toNat = k + 1 by omega, Int.toNat_natCast, this]
    omega
  · rw [if_pos (by omega), dly_top _ (by omega)]
    have e1 : upv ((k : Int) + 1).toNat = 127 := by unfold upv; rw [if_neg (by omega)]
    have e2 : upv (k : Int).toNat = 127 := by
      unfold upv
      split
      · have : k = 7 := by omega
        subst this; rfl
      · rfl
    rw [e1, e2]
    split <;> omega

set_option maxHeartbeats 1000000 in
theorem rsum_any (n : Nat) (h1 : 1 ≤ n) (h2 : n ≤ 900) (w : World) :
    Calls Try.prog 14 #[.int .i64 1, .int .i64 n] w fun e w' => e = .returned (.int .i64 (upS n)) ∧ w' = w := by
  go_enter Try.func14, Try.ntmps14
  go_wp2_with fail
  go_loop [5, 6] (fun a i => ∃ k : Nat, k ≤ n ∧ i = .int .i64 ((k : Int) + 1) ∧ a = .int .i64 (upS k)) (fun _ i => n + 1 - (intOf i).toNat)
  case atStart => exact ⟨0, Nat.zero_le _, rfl, by rw [show ((0 : Nat) : Int) = 0 from rfl, upS_zero]⟩
  case round =>
    obtain ⟨k, kn, rfl, rfl⟩ := hrel
    have hd := dly_bd ((k : Int) + 1)
    have hu := upS_bd k (by omega) (by omega)
    have HS := Lib.hid (upS_step k (by omega))
    have HR := Lib.hid (rdelay_any (k + 1) (by omega))
    by_cases c1 : k < n
    · go_wp2_with fail
      refine (HR.out (by omega) _).mono ?_
      rintro e w' ⟨rfl, rfl⟩
      rw [show ((k + 1 : Nat) : Int) = (k : Int) + 1 by omega]
      go_wp2_with fail
      go_round
      case rel => exact ⟨k + 1, by omega, by go_num, by rw [show ((k + 1 : Nat) : Int) = (k : Int) + 1 by omega, HS.out]⟩
      case measure => simp [intOf]; omega
    · have hkn : k = n := by omega
      subst hkn
      go_wp2_with fail
      go_ret
      exact ⟨rfl, rfl⟩

set_option maxHeartbeats 1000000 in
theorem rwithin_any (n : Nat) (h2 : n ≤ 900) (w : World) :
    Calls Try.prog 9 #[.int .i64 n, .int .i64 1] w fun e w' => e = .returned (.int .i64 (wi n)) ∧ w' = w := by
  by_cases hn : n < 1
  · have e : wi n = 0 := wi_neg n (by omega)
    rw [e]
    clear e
    go_enter Try.func9, Try.ntmps9
    go_wp2_with fail
    go_ret
    exact ⟨rfl, rfl⟩
  · have hb := upS_bd n (by omega) (by omega)
    have e : wi n = upS n := if_neg (by omega)
    have H := Lib.hid (rsum_any n (by omega) h2)
    rw [e]
    clear e
    generalize upS n = u at *
    go_enter Try.func9, Try.ntmps9
    go_wp2_with fail
    refine (H.out _).mono ?_
    rintro e w1 ⟨rfl, rfl⟩
    go_wp2_with fail
    go_ret
    refine ⟨?_, rfl⟩
    first | rfl | (refine ret_int ?_; omega)

set_option maxHeartbeats 1000000 in
theorem rbound_any (c d : Int) (r : Nat) (c1 : 0 ≤ c) (c2 : c ≤ 2000000) (r2 : r ≤ 900) (d1 : 0 ≤ d) (d2 : d ≤ 2000000) (w : World) :
    Calls Try.prog 6 #[.int .i64 c, .int .i64 r, .int .i64 d] w fun e w' => e = .returned (.int .i64 (bd c r d)) ∧ w' = w := by
  have hb := wi_bd r (by omega)
  have H := Lib.hid (rwithin_any r r2)
  have hbd : Hid (bd c r d = wi r + (if 0 < c then c else 0) + (if 0 < d then d else 0)) := rfl
  generalize wi r = u at *
  by_cases hc : 0 < c <;> by_cases hd : 0 < d
  all_goals
    go_enter Try.func6, Try.ntmps6
    go_wp2_with fail
    refine (H.out _).mono ?_
    rintro e w1 ⟨rfl, rfl⟩
    go_wp2_with fail
    all_goals
      go_ret
      refine ⟨?_, rfl⟩
      rw [hbd.out]
      first | rw [if_pos hc] | rw [if_neg (by omega)]
      first | rw [if_pos hd] | rw [if_neg (by omega)]
      first | rfl | (refine ret_int ?_; omega)
end Go.Proofs.Ytnapeogbpjaigaa
