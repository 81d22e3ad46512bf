/- The reference's address: host, isMail, Kind, walked: its Kind is address.Kind. -/
import Derived.Test.YtkihleecjgoipaaDoorRk9B
namespace Go.Proofs.YtkihleecjgoipaaDoor.Knd
open Go.RowKit Go.Proofs.YtkihleecjgoipaaDoor

theorem ext_size (s : ByteArray) (a b : Nat) : (s.extract a b).size ≤ s.size := by rw [ByteArray.size_extract]; omega
set_option maxHeartbeats 4000000 in
set_option maxRecDepth 100000 in
theorem host9_any (s : ByteArray) (hs : s.size ≤ 4000000000) (w : World) : Calls Tryd.prog 91 #[.string s] w fun e w' => e = .returned (.bool (hostB s)) ∧ w' = w := by
  have HB := Lib.hid (fun n f i h h1 h2 h3 => HI.bad (s := s) (n := n) (f := f) (i := i) h h1 h2 h3)
  have HE := Lib.hid (fun n f h h1 => HI.badEnd (s := s) (n := n) (f := f) h h1)
  have HF := Lib.hid (fun n f h h1 => HI.fin (s := s) (n := n) (f := f) h h1)
  generalize hostB s = r at *
  have LB : Hid (∀ f i w, Calls Tryd.prog 97 #[.string (s.extract f i)] w fun e w' => e = .returned (.bool (labB (s.extract f i))) ∧ w' = w) := Lib.hid (fun f i w => label9_any _ (by have := ext_size s f i; omega) w)
  go_enter Tryd.func91, Tryd.ntmps91
  go_wp2_with fail
  go_loopw [3, 4, 5] (fun n f i wr => wr = w ∧ ∃ nn ff ii : Nat, n = .int .i64 nn ∧ f = .int .i64 ff ∧ i = .int .i64 ii ∧ nn ≤ ii ∧ ff ≤ ii ∧ ii ≤ s.size + 1 ∧ ((ii ≤ s.size ∧ HI s nn ff ii) ∨ (ii = s.size + 1 ∧ r = decide (2 ≤ nn)))) (fun _ _ i _ => s.size + 1 - (intOf i).toNat)
  case atStart => exact ⟨rfl, 0, 0, 0, rfl, rfl, rfl, Nat.le_refl _, Nat.le_refl _, Nat.zero_le _, .inl ⟨Nat.zero_le _, HI.start s⟩⟩
  case round =>
    obtain ⟨hw, nn, ff, ii, rfl, rfl, rfl, hni, hfi, hii, hst⟩ := hrel
    subst hw
    have hn0 : (0 : Int) ≤ nn := by omega
    have hf0 : (0 : Int) ≤ ff := by omega
    have hi0 : (0 : Int) ≤ ii := by omega
    have hfi' : (ff : Int) ≤ ii := by omega
    rcases hst with ⟨his, hI⟩ | ⟨his, hr⟩
    · have hlen : (ii : Int) ≤ s.size := by omega
      have HH := Lib.hid hI
      clear hI
      by_cases hi : ii < s.size
      · have hi' : (ii : Int) < s.size := by omega
        by_cases hc : s[ii].toNat = 46
        · have hc' : ((s[ii].toNat : Int) == 46) = true := by simp; omega
          have hc2 : ((s[ii].toNat : Int) != 46) = false := by simp; omega
          have HC := Lib.hid hc
          have LB2 := Lib.hid (LB.out ff ii)
          obtain ⟨q, hq⟩ : ∃ q, labB (s.extract ff ii) = q := ⟨_, rfl⟩
          rw [hq] at LB2
          have HQ : Hid (labB (s.extract ff ii) = q) := Lib.hid hq
          clear hq hc
          cases q
          · have hre : Hid (r = false) := Lib.hid (HB.out _ _ _ HH.out hi HC.out HQ.out)
            go_wp2_with (go_at_call 97; (with_reducible refine (LB2.out _).mono ?_); rintro z w2 ⟨rfl, rfl⟩)
            go_ret
            exact ⟨ret_bool hre.out.symm, rfl⟩
          · go_wp2_with (go_at_call 97; (with_reducible refine (LB2.out _).mono ?_); rintro z w2 ⟨rfl, rfl⟩)
            go_roundw
            case rel => exact ⟨by trivial, nn + 1, ii + 1, ii + 1, by go_num, by go_num, by go_num, by omega, by omega, by omega, .inl ⟨by omega, HH.out.dot hi HC.out HQ.out⟩⟩
            case measure => simp [intOf]; omega
        · have hc' : ((s[ii].toNat : Int) == 46) = false := by simp; omega
          have hc2 : ((s[ii].toNat : Int) != 46) = true := by simp; omega
          have HC := Lib.hid hc
          clear hc
          go_wp2_with fail
          go_roundw
          case rel => exact ⟨by trivial, nn, ff, ii + 1, rfl, rfl, by go_num, by omega, by omega, by omega, .inl ⟨by omega, HH.out.next hi HC.out⟩⟩
          case measure => simp [intOf]; omega
      · have hi' : ¬ (ii : Int) < s.size := by omega
        obtain rfl : ii = s.size := by omega
        have LB2 := Lib.hid (LB.out ff s.size)
        obtain ⟨q, hq⟩ : ∃ q, labB (s.extract ff s.size) = q := ⟨_, rfl⟩
        rw [hq] at LB2
        have HQ : Hid (labB (s.extract ff s.size) = q) := Lib.hid hq
        clear hq
        cases q
        · have hre : Hid (r = false) := Lib.hid (HE.out _ _ HH.out HQ.out)
          go_wp2_with (go_at_call 97; (with_reducible refine (LB2.out _).mono ?_); rintro z w2 ⟨rfl, rfl⟩)
          go_ret
          exact ⟨ret_bool hre.out.symm, rfl⟩
        · have hre : Hid (r = decide (2 ≤ nn + 1)) := Lib.hid (HF.out _ _ HH.out HQ.out)
          go_wp2_with (go_at_call 97; (with_reducible refine (LB2.out _).mono ?_); rintro z w2 ⟨rfl, rfl⟩)
          go_roundw
          case rel => exact ⟨by trivial, nn + 1, s.size + 1, s.size + 1, by go_num, by go_num, by go_num, by omega, by omega, by omega, .inr ⟨rfl, hre.out⟩⟩
          case measure => simp [intOf]
    · have hlen : ¬ (ii : Int) ≤ s.size := by omega
      have HR := Lib.hid hr
      clear hr his
      go_wp2_with fail
      go_ret
      exact ⟨ret_bool (by rw [HR.out, decide_eq_decide]; omega), rfl⟩
set_option maxHeartbeats 4000000 in
set_option maxRecDepth 100000 in
theorem mail9_any (s : ByteArray) (hs : s.size ≤ 4000000000) (w : World) : Calls Tryd.prog 80 #[.string s] w fun e w' => e = .returned (.bool (mailB s)) ∧ w' = w := by
  have MA := Lib.hid (fun i h1 h2 h3 => mail_at s i h1 h2 h3)
  have MN := Lib.hid (mail_no s)
  generalize mailB s = r at *
  have NM : Hid (∀ i w, Calls Tryd.prog 90 #[.string (s.extract 0 i)] w fun e w' => e = .returned (.bool (nameB (s.extract 0 i))) ∧ w' = w) := Lib.hid (fun i w => name9_any _ (by have := ext_size s 0 i; omega) w)
  have HO : Hid (∀ i w, Calls Tryd.prog 91 #[.string (s.extract (i + 1) s.size)] w fun e w' => e = .returned (.bool (hostB (s.extract (i + 1) s.size))) ∧ w' = w) := Lib.hid (fun i w => host9_any _ (by have := ext_size s (i + 1) s.size; omega) w)
  go_enter Tryd.func80, Tryd.ntmps80
  go_wp2_with fail
  go_loopw [3] (fun i wr => wr = w ∧ ∃ k : Nat, k ≤ s.size ∧ i = .int .i64 k ∧ ∀ j (hj : j < s.size), j < k → s[j].toNat ≠ 64) (fun i _ => s.size - (intOf i).toNat)
  case atStart => exact ⟨rfl, 0, Nat.zero_le _, rfl, fun j _ hj => (Nat.not_lt_zero j hj).elim⟩
  case round =>
    obtain ⟨hw, k, hk, rfl, hno⟩ := hrel
    subst hw
    have HN := Lib.hid hno
    clear hno
    by_cases hkn : k < s.size
    · have hkn' : (k : Int) < s.size := by omega
      have hkl : (k : Int) ≤ s.size := by omega
      have hk1 : (k : Int) + 1 ≤ s.size := by omega
      have hk0 : (0 : Int) ≤ k := by omega
      have hk01 : (0 : Int) ≤ (k : Int) + 1 := by omega
      by_cases hc : s[k].toNat = 64
      · have hc' : ((s[k].toNat : Int) == 64) = true := by simp; omega
        have HR := Lib.hid (MA.out k hkn hc HN.out)
        have NM2 := Lib.hid (NM.out k)
        have HO2 := Lib.hid (HO.out k)
        clear hc
        generalize nameB (s.extract 0 k) = q1 at *
        generalize hostB (s.extract (k + 1) s.size) = q2 at *
        by_cases h40 : s.size ≤ 40
        · have h40' : (s.size : Int) ≤ 40 := by omega
          rw [decide_eq_true h40] at HR
          cases q1 <;> cases q2
          all_goals
            go_wp2_with (first
              | (go_at_call 90; (with_reducible refine (NM2.out _).mono ?_); rintro z w2 ⟨rfl, rfl⟩)
              | (go_at_call 91; (with_reducible refine (HO2.out _).mono ?_); rintro z w2 ⟨rfl, rfl⟩))
            go_ret
            first
              | exact ⟨ret_bool HR.out.symm, rfl⟩
              | exact ⟨ret_bool (by rw [HR.out]; simp; omega), rfl⟩
        · have h40' : ¬ (s.size : Int) ≤ 40 := by omega
          rw [decide_eq_false h40] at HR
          cases q1 <;> cases q2
          all_goals
            go_wp2_with (first
              | (go_at_call 90; (with_reducible refine (NM2.out _).mono ?_); rintro z w2 ⟨rfl, rfl⟩)
              | (go_at_call 91; (with_reducible refine (HO2.out _).mono ?_); rintro z w2 ⟨rfl, rfl⟩))
            go_ret
            first
              | exact ⟨ret_bool HR.out.symm, rfl⟩
              | exact ⟨ret_bool (by rw [HR.out]; simp; omega), rfl⟩
      · have hc' : ((s[k].toNat : Int) == 64) = false := by simp; omega
        have HC := Lib.hid hc
        clear hc
        go_wp2_with fail
        go_roundw
        case rel => exact ⟨by trivial, k + 1, by omega, by go_num, fun j hj hjk => by
          rcases Nat.lt_or_ge j k with q | q
          · exact HN.out j hj q
          · obtain rfl : j = k := by omega
            exact HC.out⟩
        case measure => simp [intOf]; omega
    · have hkn' : ¬ (k : Int) < s.size := by omega
      have hre : Hid (r = false) := Lib.hid (MN.out fun j hj => HN.out j hj (by omega))
      go_wp2_with fail
      go_ret
      exact ⟨ret_bool hre.out.symm, rfl⟩
set_option maxRecDepth 100000 in
/-- The reference's Kind is address.Kind. -/
theorem kind9_any (s : ByteArray) (hs : s.size ≤ 4000000000) (w : World) : Calls Tryd.prog 73 #[.string s] w fun e w' => e = .returned (.int .i64 (kindOf s)) ∧ w' = w := by
  have KO : Hid (kindOf s = if mailB s then 1 else if phoneB s then 2 else 0) := Lib.hid rfl
  have MA := Lib.hid (fun w => mail9_any s hs w)
  have PH := Lib.hid (fun w => phone9_any s hs w)
  generalize kindOf s = r at *
  generalize mailB s = q1 at *
  generalize phoneB s = q2 at *
  cases q1 <;> cases q2
  all_goals
    go_enter Tryd.func73, Tryd.ntmps73
    go_wp2_with (first
      | (go_at_call 80; (with_reducible refine (MA.out _).mono ?_); rintro z w2 ⟨rfl, rfl⟩)
      | (go_at_call 81; (with_reducible refine (PH.out _).mono ?_); rintro z w2 ⟨rfl, rfl⟩))
    go_ret
    exact ⟨ret_int (by rw [KO.out]; rfl), rfl⟩
end Go.Proofs.YtkihleecjgoipaaDoor.Knd
