/- The walk of ScriptBound: a bound is its parts', and rises with each. No conditions. -/
import Derived.Test.YtnapeogbpjaigaaRbound
import Derived.Test.YtnapeogbpjaigaaWit
namespace Go.Proofs.Ytnapeogbpjaigaa
open Go.RowKit

theorem i64_mask (n : Int) (k : Nat) (hk : k ≤ 62) : 0 ≤ bits .and .i64 n ((2 ^ k - 1 : Nat) : Int) ∧ bits .and .i64 n ((2 ^ k - 1 : Nat) : Int) ≤ ((2 ^ k - 1 : Nat) : Int) := by
  have hp : 2 ^ k ≤ 2 ^ 62 := Nat.pow_le_pow_right (by decide) hk
  have h0 : 0 < 2 ^ k := Nat.two_pow_pos k
  show 0 ≤ IntKind.i64.wrap ((BitVec.ofInt 64 n &&& BitVec.ofInt 64 ((2 ^ k - 1 : Nat) : Int)).toNat : Int) ∧ IntKind.i64.wrap ((BitVec.ofInt 64 n &&& BitVec.ofInt 64 ((2 ^ k - 1 : Nat) : Int)).toNat : Int) ≤ _
  rw [BitVec.toNat_and, ofInt_u64 (2 ^ k - 1) (by omega)]
  have h1 : (BitVec.ofInt 64 n).toNat &&& (2 ^ k - 1) ≤ 2 ^ k - 1 := Nat.and_le_right
  generalize (BitVec.ofInt 64 n).toNat &&& (2 ^ k - 1) = y at *
  generalize 2 ^ k = q at *
  rw [IntWalk.i64_in _ (by omega)]
  omega

theorem upS_mono (n : Int) (h : 0 ≤ n) (h2 : n ≤ 900) : upS n < upS (n + 1) := by
  obtain ⟨k, rfl⟩ := Int.eq_ofNat_of_zero_le h
  rw [upS_step k (by omega)]
  have : 0 < dly ((k : Int) + 1) := by
    by_cases h7 : k < 7
    · have hc : k = 0 ∨ k = 1 ∨ k = 2 ∨ k = 3 ∨ k = 4 ∨ k = 5 ∨ k = 6 := by omega
      rcases hc with rfl | rfl | rfl | rfl | rfl | rfl | rfl <;> decide +kernel
    · rw [dly_top _ (by omega)]; decide
  omega
theorem wi_mono (n : Int) (h : 0 ≤ n) (h2 : n ≤ 900) : wi n < wi (n + 1) := by
  unfold wi
  rw [if_neg (show ¬ n + 1 < 1 by omega)]
  split
  · have : n = 0 := by omega
    subst this; decide +kernel
  · exact upS_mono n h h2

set_option maxHeartbeats 4000000 in
set_option maxRecDepth 100000 in
theorem law_walk (c r d : Int) (w : World) :
    Calls Try.prog 3 #[.int .i64 c, .int .i64 r, .int .i64 d] w fun e w' => e = .returned (.bool true) ∧ Below w.heap.size w w' := by
  have mx := i64_mask c 20 (by decide)
  have my := i64_mask r 8 (by decide)
  have mz := i64_mask d 20 (by decide)
  rw [show ((2 ^ 20 - 1 : Nat) : Int) = 1048575 from rfl] at mx mz
  rw [show ((2 ^ 8 - 1 : Nat) : Int) = 255 from rfl] at my
  obtain ⟨X, hX⟩ : ∃ X, bits .and .i64 c 1048575 = X := ⟨_, rfl⟩
  obtain ⟨Y, hY⟩ : ∃ Y, bits .and .i64 r 255 = Y := ⟨_, rfl⟩
  obtain ⟨Z, hZ⟩ : ∃ Z, bits .and .i64 d 1048575 = Z := ⟨_, rfl⟩
  rw [hX] at mx
  rw [hY] at my
  rw [hZ] at mz
  obtain ⟨x0, x1⟩ := mx
  obtain ⟨y0, y1⟩ := my
  obtain ⟨z0, z1⟩ := mz
  obtain ⟨y, rfl⟩ := Int.eq_ofNat_of_zero_le y0
  have hwb := wi_bd y (by omega)
  have hwm := wi_mono y (by omega) (by omega)
  have hwb2 := wi_bd ((y : Int) + 1) (by omega)
  have e2 : bd X y Z = wi y + X + Z := by unfold bd; split <;> split <;> omega
  have e4 : bd (X + 1) y Z = wi y + X + Z + 1 := by unfold bd; rw [if_pos (by omega)]; split <;> omega
  have e5 : bd X y (Z + 1) = wi y + X + Z + 1 := by unfold bd; rw [if_pos (show 0 < Z + 1 by omega)]; split <;> omega
  have e6 : bd X ((y : Int) + 1) Z = wi ((y : Int) + 1) + X + Z := by unfold bd; split <;> split <;> omega
  have e7 : bd (-X) y (-Z) = wi y := by unfold bd; rw [if_neg (by omega), if_neg (by omega)]; omega
  have e8 : bd 0 y 0 = wi y := by unfold bd; rw [if_neg (by omega)]; omega
  have e9 : bd X (-(y : Int)) Z = X + Z := by unfold bd; rw [wi_neg _ (by omega)]; split <;> split <;> omega
  have e10 : bd 0 0 0 = 0 := by decide +kernel
  have C2 := Lib.hid (bound_any X y Z (by omega) (by omega) (by omega) (by omega) (by omega) (by omega))
  have C3 := Lib.hid (rbound_any X Z y (by omega) (by omega) (by omega) (by omega) (by omega))
  have C4 := Lib.hid (bound_any (X + 1) y Z (by omega) (by omega) (by omega) (by omega) (by omega) (by omega))
  have C5 := Lib.hid (bound_any X y (Z + 1) (by omega) (by omega) (by omega) (by omega) (by omega) (by omega))
  have C6 := Lib.hid (bound_any X ((y : Int) + 1) Z (by omega) (by omega) (by omega) (by omega) (by omega) (by omega))
  have C7 := Lib.hid (bound_any (-X) y (-Z) (by omega) (by omega) (by omega) (by omega) (by omega) (by omega))
  have C8 := Lib.hid (bound_any 0 y 0 (by omega) (by omega) (by omega) (by omega) (by omega) (by omega))
  have C9 := Lib.hid (bound_any X (-(y : Int)) Z (by omega) (by omega) (by omega) (by omega) (by omega) (by omega))
  have C10 := Lib.hid (bound_any 0 0 0 (by decide) (by decide) (by decide) (by decide) (by decide) (by decide))
  rw [e2] at C2 C3
  rw [e4] at C4
  rw [e5] at C5
  rw [e6] at C6
  rw [e7] at C7
  rw [e8] at C8
  rw [e9] at C9
  rw [e10] at C10
  generalize wi y = W at *
  generalize wi ((y : Int) + 1) = V at *
  clear e2 e4 e5 e6 e7 e8 e9 e10 y0
  obtain ⟨B, hB⟩ : ∃ B, W + X + Z = B := ⟨_, rfl⟩
  rw [hB] at C2 C3 C4 C5
  obtain ⟨B6, hB6⟩ : ∃ B, V + X + Z = B := ⟨_, rfl⟩
  rw [hB6] at C6
  have hlt : B < B6 := by omega
  have b0 : 0 ≤ B := by omega
  have b1 : B ≤ 5000000 := by omega
  have b6 : B6 ≤ 5000000 := by omega
  clear hB hB6 hwm hwb hwb2
  go_enter Try.func3, Try.ntmps3
  go_wp2_with fail
  refine (awake_any w).mono ?_
  rintro e w1 ⟨rfl, hb1⟩
  go_wp2_with fail
  refine (C2.out _).mono ?_
  rintro e w2 ⟨rfl, hb2⟩
  go_wp2_with fail
  refine (C3.out _).mono ?_
  rintro e w' ⟨rfl, rfl⟩
  go_wp2_with fail
  trace_state
  refine (C4.out _).mono ?_
  rintro e w4 ⟨rfl, hb4⟩
  go_wp2_with fail
  refine (C5.out _).mono ?_
  rintro e w5 ⟨rfl, hb5⟩
  go_wp2_with fail
  refine (C6.out _).mono ?_
  rintro e w6 ⟨rfl, hb6⟩
  go_wp2_with fail
  refine (C7.out _).mono ?_
  rintro e w7 ⟨rfl, hb7⟩
  go_wp2_with fail
  refine (C8.out _).mono ?_
  rintro e w8 ⟨rfl, hb8⟩
  go_wp2_with fail
  refine (C9.out _).mono ?_
  rintro e w9 ⟨rfl, hb9⟩
  go_wp2_with fail
  refine (C10.out _).mono ?_
  rintro e w10 ⟨rfl, hb10⟩
  go_wp2_with fail
  go_ret
  have t2 := hb1.trans (hb2.mono hb1.size)
  have t4 := t2.trans (hb4.mono t2.size)
  have t5 := t4.trans (hb5.mono t4.size)
  have t6 := t5.trans (hb6.mono t5.size)
  have t7 := t6.trans (hb7.mono t6.size)
  have t8 := t7.trans (hb8.mono t7.size)
  have t9 := t8.trans (hb9.mono t8.size)
  exact ⟨rfl, t9.trans (hb10.mono t9.size)⟩
end Go.Proofs.Ytnapeogbpjaigaa
