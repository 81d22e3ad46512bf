/- The reference's address: letter, name, label, walked. Written by wip/tools/mkrk9.py. -/
import Derived.Test.YtkihleecjgoipaaDoorKnd
namespace Go.Proofs.YtkihleecjgoipaaDoor.Knd
open Go.RowKit Go.Proofs.YtkihleecjgoipaaDoor

set_option maxRecDepth 100000 in
theorem letter_any (c : Nat) (w : World) : Calls Tryd.prog 96 #[.int .u8 c] w fun e w' => e = .returned (.bool (letB c)) ∧ w' = w := by
  by_cases h1 : (97 : Int) ≤ c <;> by_cases h2 : (c : Int) ≤ 122 <;> by_cases h3 : (48 : Int) ≤ c <;> by_cases h4 : (c : Int) ≤ 57
  all_goals
    go_enter Tryd.func96, Tryd.ntmps96
    go_wp2_with fail
    go_ret
    exact ⟨ret_bool (by unfold letB digB; rw [Bool.eq_iff_iff]; simp; omega), rfl⟩
/-- May the byte stand in its place of a name? -/
def NmOk (s : ByteArray) (i : Nat) : Prop := ∀ h : i < s.size, nmB s[i].toNat = true ∧ (s[i].toNat = 46 → 0 < i ∧ i + 1 < s.size ∧ ∀ (h0 : i - 1 < s.size), s[i - 1].toNat ≠ 46)
theorem nm_prev {s : ByteArray} {k m : Nat} (hkm : k = m + 1) (hk : k < s.size) (hm : m < s.size) (h46 : s[k].toNat = 46) (h : NmOk s k) : s[m].toNat ≠ 46 := by
  subst hkm
  exact ((h hk).2 h46).2.2 hm
theorem nm_mk {s : ByteArray} {k m : Nat} (hkm : k = m + 1) (hk : k + 1 < s.size) (hm : m < s.size) (h46 : s[k].toNat = 46) (hp : s[m].toNat ≠ 46) : NmOk s k := by
  subst hkm
  exact fun h => ⟨by rw [h46]; decide, fun _ => ⟨by omega, hk, fun _ => hp⟩⟩
theorem name_iff2 (s : ByteArray) : nameB s = true ↔ 1 ≤ s.size ∧ ∀ i, NmOk s i := by
  rw [name_iff]
  rfl
theorem false_of {b : Bool} {P : Prop} (h : b = true ↔ P) (n : ¬ P) : b = false := by
  cases b
  · rfl
  · exact absurd (h.1 rfl) n
set_option maxHeartbeats 4000000 in
set_option maxRecDepth 100000 in
theorem name9_any (s : ByteArray) (hs : s.size ≤ 4000000000) (w : World) : Calls Tryd.prog 90 #[.string s] w fun e w' => e = .returned (.bool (nameB s)) ∧ w' = w := by
  have NI := Lib.hid (name_iff2 s)
  generalize nameB s = r at *
  have LT := Lib.hid (fun c w => letter_any c w)
  go_enter Tryd.func90, Tryd.ntmps90
  go_wp2_with fail
  go_loopw [3] (fun i wr => wr = w ∧ ∃ k : Nat, k ≤ s.size ∧ i = .int .i64 k ∧ ∀ j, j < k → NmOk s j) (fun i _ => s.size - (intOf i).toNat)
  case atStart => exact ⟨rfl, 0, Nat.zero_le _, rfl, fun j hj => (Nat.not_lt_zero j hj).elim⟩
  case round =>
    obtain ⟨hw, k, hk, rfl, hno⟩ := hrel
    subst hw
    have HO := Lib.hid hno
    clear hno
    by_cases hkn : k < s.size
    · have hkn' : (k : Int) < s.size := by omega
      have hk0 : (0 : Int) ≤ k := by omega
      obtain ⟨c, hc⟩ : ∃ c, s[k].toNat = c := ⟨_, rfl⟩
      have HC := Lib.hid hc
      have LT2 := Lib.hid (LT.out s[k].toNat)
      by_cases h46 : c = 46
      · subst h46
        have hl : letB s[k].toNat = false := by rw [HC.out]; decide
        rw [hl] at LT2
        have e46 : ((s[k].toNat : Int) == 46) = true := by simp; omega
        have e46n : ((s[k].toNat : Int) != 46) = false := by simp; omega
        have e95 : ((s[k].toNat : Int) == 95) = false := by simp; omega
        have e95n : ((s[k].toNat : Int) != 95) = true := by simp; omega
        have e45 : ((s[k].toNat : Int) == 45) = false := by simp; omega
        have e45n : ((s[k].toNat : Int) != 45) = true := by simp; omega
        clear hl hc
        have hw1 : IntKind.i64.wrap ((s.size : Int) - 1) = (s.size : Int) - 1 := by rw [IntKind.wrap_i64] <;> omega
        have hw2 : IntKind.i64.wrap ((k : Int) - 1) = (k : Int) - 1 := by rw [IntKind.wrap_i64] <;> omega
        by_cases h0 : k = 0
        · have h0b : ((k : Int) == 0) = true := by simp; omega
          have hre : Hid (r = false) := Lib.hid (false_of NI.out fun h => by have := ((h.2 k hkn).2 HC.out).1; omega)
          clear h0
          clear HO
          try clear hc
          go_wp2_with (go_at_call 96; (with_reducible refine (LT2.out _).mono ?_); rintro z w2 ⟨rfl, rfl⟩)
          go_ret
          exact ⟨ret_bool hre.out.symm, rfl⟩
        · have h0' : ((k : Int) == 0) = false := by simp; omega
          have h0i : ¬ (k : Int) = 0 := by omega
          by_cases he : k + 1 = s.size
          · have he' : ((k : Int) == (s.size : Int) - 1) = true := by simp; omega
            have hre : Hid (r = false) := Lib.hid (false_of NI.out fun h => by have := ((h.2 k hkn).2 HC.out).2.1; omega)
            clear HO
            try clear hc
            go_wp2_with (go_at_call 96; (with_reducible refine (LT2.out _).mono ?_); rintro z w2 ⟨rfl, rfl⟩)
            go_ret
            exact ⟨ret_bool hre.out.symm, rfl⟩
          · have he0 : ((k : Int) == (s.size : Int) - 1) = false := by simp; omega
            have hm1 : k - 1 < s.size := by omega
            have hm1' : (k : Int) - 1 < s.size := by omega
            have hm0 : (1 : Int) ≤ k := by omega
            have hk1 : Hid (k + 1 < s.size) := Lib.hid (by omega)
            have HK : Hid (k = k - 1 + 1) := Lib.hid (by omega)
            clear he
            by_cases hp : s[k - 1].toNat = 46
            · have hp' : ((s[k - 1].toNat : Int) == 46) = true := by simp; omega
              have hre : Hid (r = false) := Lib.hid (false_of NI.out fun h => nm_prev HK.out hkn hm1 HC.out (h.2 k) hp)
              clear HO
              try clear hc
              go_wp2_with (go_at_call 96; (with_reducible refine (LT2.out _).mono ?_); rintro z w2 ⟨rfl, rfl⟩)
              go_ret
              exact ⟨ret_bool hre.out.symm, rfl⟩
            · have hp' : ((s[k - 1].toNat : Int) == 46) = false := by simp; omega
              have hok : Hid (NmOk s k) := Lib.hid (nm_mk HK.out hk1.out hm1 HC.out hp)
              try clear hc
              go_wp2_with (go_at_call 96; (with_reducible refine (LT2.out _).mono ?_); rintro z w2 ⟨rfl, rfl⟩)
              go_roundw
              case rel => exact ⟨by trivial, k + 1, by omega, by go_num, fun j hj => by
                rcases Nat.lt_or_ge j k with q | q
                · exact HO.out j q
                · obtain rfl : j = k := by omega
                  exact hok.out⟩
              case measure => simp [intOf]; omega
      · have e46 : ((s[k].toNat : Int) == 46) = false := by simp; omega
        have e46n : ((s[k].toNat : Int) != 46) = true := by simp; omega
        obtain ⟨q, hq⟩ : ∃ q, letB s[k].toNat = q := ⟨_, rfl⟩
        rw [hq] at LT2
        have HQ : Hid (letB c = q) := Lib.hid (by rw [← HC.out]; exact hq)
        clear hq
        cases q
        · by_cases h95 : c = 95
          · have e95 : ((s[k].toNat : Int) == 95) = true := by simp; omega
            have e95n : ((s[k].toNat : Int) != 95) = false := by simp; omega
            have h46' : ¬ (95 : Int) = 46 := by omega
            have hok : Hid (NmOk s k) := Lib.hid (fun h => ⟨by rw [HC.out]; unfold nmB; simp [h95], fun h' => absurd h' (by omega)⟩)
            try clear hc
            go_wp2_with (go_at_call 96; (with_reducible refine (LT2.out _).mono ?_); rintro z w2 ⟨rfl, rfl⟩)
            go_roundw
            case rel => exact ⟨by trivial, k + 1, by omega, by go_num, fun j hj => by
              rcases Nat.lt_or_ge j k with q | q
              · exact HO.out j q
              · obtain rfl : j = k := by omega
                exact hok.out⟩
            case measure => simp [intOf]; omega
          · have e95 : ((s[k].toNat : Int) == 95) = false := by simp; omega
            have e95n : ((s[k].toNat : Int) != 95) = true := by simp; omega
            by_cases h45 : c = 45
            · have e45 : ((s[k].toNat : Int) == 45) = true := by simp; omega
              have e45n : ((s[k].toNat : Int) != 45) = false := by simp; omega
              have hok : Hid (NmOk s k) := Lib.hid (fun h => ⟨by rw [HC.out]; unfold nmB; simp [h45], fun h' => absurd h' (by omega)⟩)
              try clear hc
              go_wp2_with (go_at_call 96; (with_reducible refine (LT2.out _).mono ?_); rintro z w2 ⟨rfl, rfl⟩)
              go_roundw
              case rel => exact ⟨by trivial, k + 1, by omega, by go_num, fun j hj => by
                rcases Nat.lt_or_ge j k with q | q
                · exact HO.out j q
                · obtain rfl : j = k := by omega
                  exact hok.out⟩
              case measure => simp [intOf]; omega
            · have e45 : ((s[k].toNat : Int) == 45) = false := by simp; omega
              have e45n : ((s[k].toNat : Int) != 45) = true := by simp; omega
              have hre : Hid (r = false) := Lib.hid (false_of NI.out fun h => by
                have h1 := (h.2 k hkn).1
                rw [HC.out] at h1
                unfold nmB at h1
                rw [HQ.out] at h1
                simp [h95, h45, h46] at h1)
              clear HO
              try clear hc
              go_wp2_with (go_at_call 96; (with_reducible refine (LT2.out _).mono ?_); rintro z w2 ⟨rfl, rfl⟩)
              go_ret
              exact ⟨ret_bool hre.out.symm, rfl⟩
        · skip
          have hok : Hid (NmOk s k) := Lib.hid (fun h => ⟨by rw [HC.out]; unfold nmB; simp [HQ.out], fun h' => absurd h' (by omega)⟩)
          try clear hc
          go_wp2_with (go_at_call 96; (with_reducible refine (LT2.out _).mono ?_); rintro z w2 ⟨rfl, rfl⟩)
          go_roundw
          case rel => exact ⟨by trivial, k + 1, by omega, by go_num, fun j hj => by
            rcases Nat.lt_or_ge j k with q | q
            · exact HO.out j q
            · obtain rfl : j = k := by omega
              exact hok.out⟩
          case measure => simp [intOf]; omega
    · have hkn' : ¬ (k : Int) < s.size := by omega
      have hre : Hid (r = decide (1 ≤ s.size)) := Lib.hid (by
        rw [Bool.eq_iff_iff, NI.out, decide_eq_true_eq]
        exact ⟨fun h => h.1, fun h => ⟨h, fun i => by
          rcases Nat.lt_or_ge i k with q | q
          · exact HO.out i q
          · exact fun h => absurd h (by omega)⟩⟩)
      go_wp2_with fail
      go_ret
      exact ⟨ret_bool (by rw [hre.out, decide_eq_decide]; omega), rfl⟩
end Go.Proofs.YtkihleecjgoipaaDoor.Knd
