/- The reference's people: ones, key, Clock, at, By, has, walked. Written by wip/tools/mkr16a.py. -/
import Derived.Test.YtkihleecjgoipaaDoorRk9C
import Derived.Test.YtkihleecjgoipaaDoorPpC
import Derived.Test.YtkihleecjgoipaaDoorStaP
namespace Go.Proofs.YtkihleecjgoipaaDoor
open Go.RowKit Go.Maps Go.Proofs.YtkihleecjgoipaaDoor.Rw

set_option maxRecDepth 100000 in
theorem ones16_any (s : ByteArray) (hs : s.size ≤ 4000000000) (w : World) : Calls Tryd.prog 59 #[.string s] w fun e w' => e = .returned (.bool (onesB s)) ∧ w' = w := by
  have K := Lib.hid (Knd.kind9_any s hs w)
  have O : Hid (onesB s = decide (kindOf s = 1)) := Lib.hid rfl
  generalize onesB s = b at *
  generalize kindOf s = k at *
  go_enter Tryd.func59, Tryd.ntmps59
  go_wp2_with (go_at_call 73; (with_reducible refine (K.out).mono ?_); rintro e w2 ⟨rfl, rfl⟩)
  go_ret
  exact ⟨ret_bool (by rw [O.out, Bool.eq_iff_iff, beq_iff_eq, decide_eq_true_eq]; omega), rfl⟩
set_option maxRecDepth 100000 in
theorem key16_any (s c : ByteArray) (w : World) : Calls Tryd.prog 62 #[.string s, .string c] w fun e w' => e = .returned (.bool (keyB s c)) ∧ w' = w := by
  have O : Hid (keyB s c = (decide (1 ≤ s.size) && decide (s.size ≤ 16) && decide (c.size = 32))) := Lib.hid rfl
  generalize keyB s c = b at *
  by_cases h1 : 1 ≤ s.size
  · have h1' : (1 : Int) ≤ s.size := by omega
    by_cases h2 : s.size ≤ 16
    · have h2' : (s.size : Int) ≤ 16 := by omega
      go_enter Tryd.func62, Tryd.ntmps62
      go_wp2_with fail
      go_ret
      exact ⟨ret_bool (by rw [O.out, decide_eq_true h1, decide_eq_true h2, Bool.and_self, Bool.true_and, Bool.eq_iff_iff, beq_iff_eq, decide_eq_true_eq]; omega), rfl⟩
    · have h2' : ¬ (s.size : Int) ≤ 16 := by omega
      go_enter Tryd.func62, Tryd.ntmps62
      go_wp2_with fail
      go_ret
      exact ⟨ret_bool (by rw [O.out, decide_eq_false h2, Bool.and_false, Bool.false_and]), rfl⟩
  · have h1' : ¬ (1 : Int) ≤ s.size := by omega
    go_enter Tryd.func62, Tryd.ntmps62
    go_wp2_with fail
    go_ret
    exact ⟨ret_bool (by rw [O.out, decide_eq_false h1, Bool.false_and, Bool.false_and]), rfl⟩
set_option maxRecDepth 100000 in
theorem clock16_any (t : Int) (h : 0 ≤ t ∧ t ≤ 1023) (w : World) : Calls Tryd.prog 63 #[.int .i64 t, .int .i64 100] w fun e w' => e = .returned (.int .i64 (clk t 100)) ∧ w' = w := by
  have HC := Lib.hid (clk_small h)
  generalize clk t 100 = c at *
  obtain ⟨h1, h2⟩ := h
  have c1 : ¬ t < 0 := by omega
  have c2 : ¬ (1099511627676 : Int) < t := by omega
  go_enter Tryd.func63, Tryd.ntmps63
  go_wp2_with fail
  go_ret
  exact ⟨ret_int HC.out.symm, rfl⟩
set_option maxHeartbeats 4000000 in
set_option maxRecDepth 100000 in
theorem at16_any {B : Nat} {v : Value} {p : Ppl} {w : World} (hown : pown w B v p) (lim : few p) (id : Int) :
    Calls Tryd.prog 58 #[v, .int .i64 id] w fun e w' => e = .returned (.int .i64 (idx p.ps (fun x => decide (x.id = id)))) ∧ Below w.heap.size w w' := by
  obtain ⟨a, c, a', c', rfl, o1, o2⟩ := hown
  obtain ⟨lim1, lim2⟩ := lim
  obtain ⟨L, S⟩ := p
  simp only at *
  have b1 : Below w.heap.size w (w.alloc (pobj (.slice a L.length c) (.slice a' S.length c'))) := (Below.refl _ _).alloc (Nat.le_refl _) _
  obtain ⟨x0, x1⟩ := pbox w (.slice a L.length c) (.slice a' S.length c')
  have OW := Lib.hid (o1.below b1)
  have HB := Lib.hid b1
  obtain ⟨n, hn⟩ : ∃ n, L.length = n := ⟨_, rfl⟩
  have HN := Lib.hid hn
  obtain ⟨r, hr⟩ : ∃ r, idx L (fun x => decide (x.id = id)) = r := ⟨_, rfl⟩
  have HR := Lib.hid hr
  rw [hr]
  simp only [hn] at x0 x1 OW HB lim1 ⊢
  clear o1 o2 b1 hn hr
  unfold pobj at *
  obtain ⟨w1, hw1⟩ : ∃ w1, w.alloc (.cells #[.slice a n c, .slice a' S.length c'] 27) = w1 := ⟨_, rfl⟩
  go_enter Tryd.func58, Tryd.ntmps58
  go_wp2_with fail
  simp only [hw1] at *
  go_loopw [5] (fun i wr => wr = w1 ∧ ∃ k : Nat, k ≤ n ∧ i = .int .i64 k ∧ ∀ j, j < k → (fun x : Per.R => decide (x.id = id)) (L[j]?.getD Per.zero) = false) (fun i _ => n - (intOf i).toNat)
  case atStart => exact ⟨rfl, 0, Nat.zero_le _, rfl, fun j hj => (Nat.not_lt_zero j hj).elim⟩
  case round =>
    obtain ⟨hw, k, hk, rfl, hno⟩ := hrel
    subst hw
    have HO := Lib.hid hno
    clear hno
    by_cases hkn : k < n
    · have hkn' : (k : Int) < n := by omega
      have hk0 : (0 : Int) ≤ k := by omega
      obtain ⟨g, rfl, _, _, m0, _⟩ := OW.out.all k (by rw [HN.out]; exact hkn)
      obtain ⟨x, hx⟩ : ∃ x, L[k]?.getD Per.zero = x := ⟨_, rfl⟩
      rw [hx] at m0
      have HX := Lib.hid hx
      clear hx
      by_cases hid : x.id = id
      · have hid' : (x.id == id) = true := by simpa using hid
        have hp : Hid (r = (k : Int)) := Lib.hid (by
          rw [← HR.out, idx, pos_hit (d := Per.zero) (by rw [HN.out]; exact hkn) HO.out (by rw [HX.out]; simpa using hid), if_pos (by rw [HN.out]; exact hkn)])
        clear hid
        go_wp2_with fail
        go_ret
        exact ⟨ret_int hp.out.symm, HB.out⟩
      · have hid' : (x.id == id) = false := by simpa using hid
        have HD := Lib.hid hid
        clear hid
        go_wp2_with fail
        go_roundw
        case rel => exact ⟨by trivial, k + 1, by omega, by go_num, fun j hj => by
          rcases Nat.lt_or_ge j k with e | e
          · exact HO.out j e
          · obtain rfl : j = k := by omega
            rw [HX.out]
            simpa using HD.out⟩
        case measure => simp [intOf]; omega
    · have hkn' : ¬ ((k : Int) < n) := by omega
      have hp : Hid (r = -1) := Lib.hid (by
        obtain rfl : k = n := by omega
        rw [← HR.out, idx, pos_none (d := Per.zero) (fun j hj => HO.out j (by rw [← HN.out]; exact hj)), if_neg (by omega)])
      go_wp2_with fail
      go_ret
      exact ⟨ret_int hp.out.symm, HB.out⟩
end Go.Proofs.YtkihleecjgoipaaDoor
