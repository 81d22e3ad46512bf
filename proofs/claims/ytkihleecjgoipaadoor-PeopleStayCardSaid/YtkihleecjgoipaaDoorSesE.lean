/- slices.Equal of two rows of homecoming/api.Session. Written by wip/tools/rowlib.py. -/
import Derived.Test.YtkihleecjgoipaaDoorSesQ
import Derived.Test.YtkihleecjgoipaaDoorSesF
import Derived.BigQuiet
import Derived.Deep.QuietTactic
namespace Go.Proofs.YtkihleecjgoipaaDoor.Ses
open Go.RowKit Go.Maps Go.Proofs.YtkihleecjgoipaaDoor Go.Proofs.YtkihleecjgoipaaDoor.Rw

def eqL : List R → List R → Bool
  | [], [] => true
  | x :: l, y :: m => eqB x y && eqL l m
  | _, _ => false
theorem eqL_iff : ∀ L M : List R, eqL L M = true ↔ L = M
  | [], [] => by simp [eqL]
  | [], _ :: _ => by simp [eqL]
  | _ :: _, [] => by simp [eqL]
  | x :: l, y :: m => by
    unfold eqL
    rw [Bool.and_eq_true, eqB_iff, eqL_iff l m]
    simp
theorem eqL_ne {L M : List R} (h : L ≠ M) : eqL L M = false := by
  cases q : eqL L M
  · rfl
  · exact absurd ((eqL_iff L M).1 q) h
theorem eqB_ne {x y : R} (h : eqB x y = false) : x ≠ y := fun e => by
  rw [(eqB_iff x y).2 e] at h
  cases h
set_option maxHeartbeats 4000000 in
set_option maxRecDepth 100000 in
theorem equal_any {B1 B2 c1 c2 : Nat} {a1 a2 : Option Addr} {L M : List R} {w : World} (h1 : owns w B1 (.slice a1 L.length c1) L) (h2 : owns w B2 (.slice a2 M.length c2) M) (l1 : L.length ≤ 1000000) (l2 : M.length ≤ 1000000) :
    Calls Tryd.prog 41 #[.slice a1 L.length c1, .slice a2 M.length c2] w fun e w' => e = .returned (.bool (eqL L M)) ∧ Below w.heap.size w w' := by
  obtain ⟨n, hn⟩ : ∃ n, L.length = n := ⟨_, rfl⟩
  obtain ⟨m, hm⟩ : ∃ m, M.length = m := ⟨_, rfl⟩
  obtain ⟨r, hr⟩ : ∃ r, eqL L M = r := ⟨_, rfl⟩
  have O1 := Lib.hid h1
  have O2 := Lib.hid h2
  have HN := Lib.hid hn
  have HM := Lib.hid hm
  have HR := Lib.hid hr
  rw [hn, hm, hr]
  rw [hn] at l1
  rw [hm] at l2
  clear h1 h2 hn hm hr
  by_cases hnm : n = m
  · subst hnm
    go_enter Tryd.func41, Tryd.ntmps41
    go_wp2_with fail
    go_loopw [13] (fun i wr => ∃ k : Nat, k ≤ n ∧ i = .int .i64 k ∧ (∀ j, j < k → L[j]?.getD zero = M[j]?.getD zero) ∧ Below w.heap.size w wr) (fun i _ => n - (intOf i).toNat)
    case atStart => exact ⟨0, Nat.zero_le _, rfl, by simp, Below.refl _ _⟩
    case round =>
      obtain ⟨k, hk, rfl, hno, hb⟩ := hrel
      have HO := Lib.hid hno
      have WB := Lib.hid hb
      by_cases hkn : k < n
      · have hkn' : (k : Int) < n := by omega
        have hk0 : (0 : Int) ≤ k := by omega
        obtain ⟨g, rfl, _, _, m0, m1, m2⟩ := (O1.out.below hb).all k (by rw [HN.out]; exact hkn)
        obtain ⟨g2, rfl, _, _, d0, d1, d2⟩ := (O2.out.below hb).all k (by rw [HM.out]; exact hkn)
        obtain ⟨x, hx⟩ : ∃ x, L[k]?.getD zero = x := ⟨_, rfl⟩
        obtain ⟨y, hy⟩ : ∃ y, M[k]?.getD zero = y := ⟨_, rfl⟩
        rw [hx] at m0 m1 m2
        rw [hy] at d0 d1 d2
        obtain ⟨q, hq⟩ : ∃ q, eqB x y = q := ⟨_, rfl⟩
        have NE0 := fun w => ne_run x y w
        rw [hq] at NE0
        unfold R.agg at NE0
        have NE := NE0
        have HX := Lib.hid hx
        have HY := Lib.hid hy
        have HQ := Lib.hid hq
        clear hno hb hx hy hq NE0
        cases q
        · have hp : r = false := by
            rw [← HR.out]
            refine eqL_ne (fun e => eqB_ne HQ.out ?_)
            rw [← HX.out, ← HY.out, e]
          have HPP := Lib.hid hp
          clear hp
          go_wp2_with fail
          go_quiet (fail)
          go_wp2_with fail
          go_ret
          exact ⟨ret_bool HPP.out.symm, below_drewN WB.out _⟩
        · go_wp2_with fail
          go_quiet (fail)
          go_wp2_with fail
          go_roundw
          case rel => exact ⟨k + 1, by omega, by go_num, fun j hj => by
            rcases Nat.lt_or_ge j k with e | e
            · exact HO.out j e
            · obtain rfl : j = k := by omega
              rw [HX.out, HY.out]
              exact (eqB_iff x y).1 HQ.out, below_drewN WB.out _⟩
          case measure => simp [intOf]; omega
      · have hkn' : ¬ ((k : Int) < n) := by omega
        obtain rfl : k = n := by omega
        have hp : r = true := by
          rw [← HR.out, eqL_iff]
          refine List.ext_getElem (by rw [HN.out, HM.out]) (fun j h1 h2 => ?_)
          have := hno j (by rw [← HN.out]; exact h1)
          rw [List.getElem?_eq_getElem h1, List.getElem?_eq_getElem h2] at this
          exact this
        have HPP := Lib.hid hp
        clear hno hb hp
        go_wp2_with fail
        go_ret
        exact ⟨ret_bool HPP.out.symm, WB.out⟩
  · have hp : r = false := by
      rw [← HR.out]
      exact eqL_ne (fun e => hnm (by rw [← HN.out, ← HM.out, e]))
    have HPP := Lib.hid hp
    have hq : ((n : Int) == m) = false := by simp; omega
    clear hp
    go_enter Tryd.func41, Tryd.ntmps41
    go_wp2_with fail
    go_ret
    exact ⟨ret_bool HPP.out.symm, Below.refl _ _⟩
end Go.Proofs.YtkihleecjgoipaaDoor.Ses
