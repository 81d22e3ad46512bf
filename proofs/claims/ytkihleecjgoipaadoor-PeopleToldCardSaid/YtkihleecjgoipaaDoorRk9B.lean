/- The reference's address: label, host, isMail, isPhone, Kind, walked: it is address.Kind. Written by wip/tools/mkrk9b.py. -/
import Derived.Test.YtkihleecjgoipaaDoorRk9P
namespace Go.Proofs.YtkihleecjgoipaaDoor.Knd
open Go.RowKit Go.Proofs.YtkihleecjgoipaaDoor

set_option maxHeartbeats 4000000 in
set_option maxRecDepth 100000 in
theorem label9_any (s : ByteArray) (hs : s.size ≤ 4000000000) (w : World) : Calls Tryd.prog 97 #[.string s] w fun e w' => e = .returned (.bool (labB s)) ∧ w' = w := by
  have NI := Lib.hid (lab_iff s)
  generalize labB s = r at *
  have LT := Lib.hid (fun c w => letter_any c w)
  go_enter Tryd.func97, Tryd.ntmps97
  go_wp2_with fail
  go_loopw [3] (fun i wr => wr = w ∧ ∃ k : Nat, k ≤ s.size ∧ i = .int .i64 k ∧ ∀ j, j < k → LbOk s j) (fun i _ => s.size - (intOf i).toNat)
  case atStart => exact ⟨rfl, 0, Nat.zero_le _, rfl, fun j hj => (Nat.not_lt_zero j hj).elim⟩
  case round =>
    obtain ⟨hw, k, hk, rfl, hno⟩ := hrel
    subst hw
    have HO := Lib.hid hno
    clear hno
    by_cases hkn : k < s.size
    · have hkn' : (k : Int) < s.size := by omega
      have hk0 : (0 : Int) ≤ k := by omega
      obtain ⟨c, hc⟩ : ∃ c, s[k].toNat = c := ⟨_, rfl⟩
      have HC := Lib.hid hc
      have LT2 := Lib.hid (LT.out s[k].toNat)
      obtain ⟨q, hq⟩ : ∃ q, letB s[k].toNat = q := ⟨_, rfl⟩
      rw [hq] at LT2
      have HQ : Hid (letB s[k].toNat = q) := Lib.hid hq
      clear hq
      have hw1 : IntKind.i64.wrap ((s.size : Int) - 1) = (s.size : Int) - 1 := by rw [IntKind.wrap_i64] <;> omega
      cases q
      · by_cases h45 : c = 45
        · have e45 : ((s[k].toNat : Int) == 45) = true := by simp; omega
          have e45n : ((s[k].toNat : Int) != 45) = false := by simp; omega
          by_cases h0 : k = 0
          · have h0b : ((k : Int) == 0) = true := by simp; omega
            have hre : Hid (r = false) := Lib.hid (false_of NI.out fun h => by
              rcases h.2 k hkn with q | q
              · rw [HQ.out] at q; cases q
              · omega)
            clear h0 HO hc
            go_wp2_with (go_at_call 96; (with_reducible refine (LT2.out _).mono ?_); rintro z w2 ⟨rfl, rfl⟩)
            go_ret
            exact ⟨ret_bool hre.out.symm, rfl⟩
          · have h0b : ((k : Int) == 0) = false := by simp; omega
            have h0i : ¬ (k : Int) = 0 := by omega
            by_cases he : k + 1 = s.size
            · have he0 : ((k : Int) == (s.size : Int) - 1) = true := by simp; omega
              have hre : Hid (r = false) := Lib.hid (false_of NI.out fun h => by
                rcases h.2 k hkn with q | q
                · rw [HQ.out] at q; cases q
                · omega)
              clear h0 HO hc he
              go_wp2_with (go_at_call 96; (with_reducible refine (LT2.out _).mono ?_); rintro z w2 ⟨rfl, rfl⟩)
              go_ret
              exact ⟨ret_bool hre.out.symm, rfl⟩
            · have he0 : ((k : Int) == (s.size : Int) - 1) = false := by simp; omega
              have hok : Hid (LbOk s k) := Lib.hid (fun h => .inr ⟨by omega, by omega, by omega⟩)
              clear he hc
              go_wp2_with (go_at_call 96; (with_reducible refine (LT2.out _).mono ?_); rintro z w2 ⟨rfl, rfl⟩)
              go_roundw
              case rel => exact ⟨by trivial, k + 1, by omega, by go_num, fun j hj => by
                rcases Nat.lt_or_ge j k with q | q
                · exact HO.out j q
                · obtain rfl : j = k := by omega
                  exact hok.out⟩
              case measure => simp [intOf]; omega
        · have e45 : ((s[k].toNat : Int) == 45) = false := by simp; omega
          have e45n : ((s[k].toNat : Int) != 45) = true := by simp; omega
          have hre : Hid (r = false) := Lib.hid (false_of NI.out fun h => by
            rcases h.2 k hkn with q | q
            · rw [HQ.out] at q; cases q
            · omega)
          clear HO hc
          go_wp2_with (go_at_call 96; (with_reducible refine (LT2.out _).mono ?_); rintro z w2 ⟨rfl, rfl⟩)
          go_ret
          exact ⟨ret_bool hre.out.symm, rfl⟩
      · have hok : Hid (LbOk s k) := Lib.hid (fun h => .inl HQ.out)
        clear hc
        go_wp2_with (go_at_call 96; (with_reducible refine (LT2.out _).mono ?_); rintro z w2 ⟨rfl, rfl⟩)
        go_roundw
        case rel => exact ⟨by trivial, k + 1, by omega, by go_num, fun j hj => by
          rcases Nat.lt_or_ge j k with q | q
          · exact HO.out j q
          · obtain rfl : j = k := by omega
            exact hok.out⟩
        case measure => simp [intOf]; omega
    · have hkn' : ¬ (k : Int) < s.size := by omega
      have hre : Hid (r = (decide (1 ≤ s.size) && decide (s.size ≤ 20))) := Lib.hid (by
        rw [Bool.eq_iff_iff, NI.out, Bool.and_eq_true, decide_eq_true_eq, decide_eq_true_eq]
        exact ⟨fun h => h.1, fun h => ⟨h, fun i => by
          rcases Nat.lt_or_ge i k with q | q
          · exact HO.out i q
          · exact fun h => absurd h (by omega)⟩⟩)
      by_cases z1 : 1 ≤ s.size
      · have z1' : (1 : Int) ≤ s.size := by omega
        by_cases z2 : s.size ≤ 20
        · have z2' : (s.size : Int) ≤ 20 := by omega
          go_wp2_with fail
          go_ret
          exact ⟨ret_bool (by rw [hre.out, decide_eq_true z1, decide_eq_true z2]; rfl), rfl⟩
        · have z2' : ¬ (s.size : Int) ≤ 20 := by omega
          go_wp2_with fail
          go_ret
          exact ⟨ret_bool (by rw [hre.out, decide_eq_false z2, Bool.and_false]), rfl⟩
      · have z1' : ¬ (1 : Int) ≤ s.size := by omega
        go_wp2_with fail
        go_ret
        exact ⟨ret_bool (by rw [hre.out, decide_eq_false z1]; rfl), rfl⟩
set_option maxHeartbeats 4000000 in
set_option maxRecDepth 100000 in
theorem phone9_any (s : ByteArray) (hs : s.size ≤ 4000000000) (w : World) : Calls Tryd.prog 81 #[.string s] w fun e w' => e = .returned (.bool (phoneB s)) ∧ w' = w := by
  have NI := Lib.hid (phone_iff s)
  generalize phoneB s = r at *
  by_cases p0 : 9 ≤ s.size
  · have p0' : ¬ (s.size : Int) < 9 := by omega
    have j0 : 0 < s.size := by omega
    have j1 : 1 < s.size := by omega
    have j0' : (0 : Int) < s.size := by omega
    have j1' : (1 : Int) < s.size := by omega
    by_cases p1 : s.size ≤ 16
    · have p1' : ¬ (16 : Int) < s.size := by omega
      by_cases p2 : s[0].toNat = 43
      · have e2 : ((s[0].toNat : Int) == 43) = true := by simp; omega
        have e2' : ((s[0].toNat : Int) != 43) = false := by simp; omega
        by_cases p3 : s[1].toNat = 48
        · have e3 : ((s[1].toNat : Int) == 48) = true := by simp; omega
          have hre : Hid (r = false) := Lib.hid (false_of NI.out fun h => h.2.2.2.1 j1 p3)
          clear p2 p3
          go_enter Tryd.func81, Tryd.ntmps81
          go_wp2_with fail
          go_ret
          exact ⟨ret_bool hre.out.symm, rfl⟩
        · have e3 : ((s[1].toNat : Int) == 48) = false := by simp; omega
          have NJ : Hid (r = true ↔ ∀ i, PhOk s i) := Lib.hid (by
            rw [NI.out]
            exact ⟨fun h => h.2.2.2.2, fun h => ⟨p0, p1, fun _ => p2, fun _ => p3, h⟩⟩)
          clear p2 p3 NI
          go_enter Tryd.func81, Tryd.ntmps81
          go_wp2_with fail
          go_loopw [3] (fun i wr => wr = w ∧ ∃ k : Nat, k ≤ s.size ∧ 1 ≤ k ∧ i = .int .i64 k ∧ ∀ j, j < k → PhOk s j) (fun i _ => s.size - (intOf i).toNat)
          case atStart => exact ⟨rfl, 1, by omega, Nat.le_refl _, rfl, fun j hj _ h1 => by omega⟩
          case round =>
            obtain ⟨hw, k, hk, hk1, rfl, hno⟩ := hrel
            subst hw
            have HO := Lib.hid hno
            clear hno
            by_cases hkn : k < s.size
            · have hkn' : (k : Int) < s.size := by omega
              have hk0 : (0 : Int) ≤ k := by omega
              by_cases d1 : s[k].toNat < 48
              · have d1' : (s[k].toNat : Int) < 48 := by omega
                have hre : Hid (r = false) := Lib.hid (false_of NJ.out fun h => by
                  have := h k hkn hk1
                  unfold digB at this
                  simp at this
                  omega)
                clear d1 HO
                go_wp2_with fail
                go_ret
                exact ⟨ret_bool hre.out.symm, rfl⟩
              · have d1' : ¬ (s[k].toNat : Int) < 48 := by omega
                by_cases d2 : 57 < s[k].toNat
                · have d2' : (57 : Int) < s[k].toNat := by omega
                  have hre : Hid (r = false) := Lib.hid (false_of NJ.out fun h => by
                    have := h k hkn hk1
                    unfold digB at this
                    simp at this
                    omega)
                  clear d1 d2 HO
                  go_wp2_with fail
                  go_ret
                  exact ⟨ret_bool hre.out.symm, rfl⟩
                · have d2' : ¬ (57 : Int) < s[k].toNat := by omega
                  have hok : Hid (PhOk s k) := Lib.hid (fun _ _ => by unfold digB; simp; omega)
                  clear d1 d2
                  go_wp2_with fail
                  go_roundw
                  case rel => exact ⟨by trivial, k + 1, by omega, by omega, by go_num, fun j hj => by
                    rcases Nat.lt_or_ge j k with q | q
                    · exact HO.out j q
                    · obtain rfl : j = k := by omega
                      exact hok.out⟩
                  case measure => simp [intOf]; omega
            · have hkn' : ¬ (k : Int) < s.size := by omega
              have hre : Hid (r = true) := Lib.hid (NJ.out.2 fun i => by
                rcases Nat.lt_or_ge i k with q | q
                · exact HO.out i q
                · exact fun h => absurd h (by omega))
              go_wp2_with fail
              go_ret
              exact ⟨ret_bool hre.out.symm, rfl⟩
      · have e2 : ((s[0].toNat : Int) == 43) = false := by simp; omega
        have e2' : ((s[0].toNat : Int) != 43) = true := by simp; omega
        have hre : Hid (r = false) := Lib.hid (false_of NI.out fun h => p2 (h.2.2.1 j0))
        clear p2
        go_enter Tryd.func81, Tryd.ntmps81
        go_wp2_with fail
        go_ret
        exact ⟨ret_bool hre.out.symm, rfl⟩
    · have p1' : (16 : Int) < s.size := by omega
      have hre : Hid (r = false) := Lib.hid (false_of NI.out fun h => p1 h.2.1)
      go_enter Tryd.func81, Tryd.ntmps81
      go_wp2_with fail
      go_ret
      exact ⟨ret_bool hre.out.symm, rfl⟩
  · have p0' : (s.size : Int) < 9 := by omega
    have hre : Hid (r = false) := Lib.hid (false_of NI.out fun h => p0 h.1)
    go_enter Tryd.func81, Tryd.ntmps81
    go_wp2_with fail
    go_ret
    exact ⟨ret_bool hre.out.symm, rfl⟩
end Go.Proofs.YtkihleecjgoipaaDoor.Knd
