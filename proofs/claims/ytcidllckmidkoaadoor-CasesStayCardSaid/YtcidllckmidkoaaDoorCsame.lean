/- homecomingref17.Same, of two rows. -/
import Derived.Test.YtcidllckmidkoaaDoorCeq
import Derived.BigQuiet
namespace Go.Proofs.YtcidllckmidkoaaDoor
open Go.RowKit Go.Maps

def sameL : List Cas → List Cas → Bool
  | [], [] => true
  | x :: xs, y :: ys => eqC x y && sameL xs ys
  | _, _ => false
theorem sameL_refl : ∀ L, sameL L L = true
  | [] => rfl
  | x :: xs => by
    unfold sameL
    rw [(eqC_iff x x).2 rfl, sameL_refl xs]
    rfl
theorem sameL_len : ∀ L M, L.length ≠ M.length → sameL L M = false
  | [], [], h => absurd rfl h
  | [], _ :: _, _ => rfl
  | _ :: _, [], _ => rfl
  | x :: xs, y :: ys, h => by
    unfold sameL
    rw [sameL_len xs ys (by simpa using h)]
    simp
set_option maxHeartbeats 4000000 in
set_option maxRecDepth 100000 in
theorem same_any {B1 B2 c1 c2 : Nat} {a1 a2 : Option Addr} {L M : List Cas} {w : World} (h1 : mowns w B1 (.slice a1 L.length c1) L) (h2 : mowns w B2 (.slice a2 M.length c2) M) (lim : L.length ≤ 1000000) :
    Calls Tryd.prog 24 #[.slice a1 L.length c1, .slice a2 M.length c2] w fun e w' => e = .returned (.bool (sameL L M)) ∧ Below w.heap.size w w' := by
  obtain ⟨n, hn⟩ : ∃ n, L.length = n := ⟨_, rfl⟩
  obtain ⟨m, hm⟩ : ∃ m, M.length = m := ⟨_, rfl⟩
  have O1 := Lib.hid h1
  have O2 := Lib.hid h2
  have HN := Lib.hid hn
  have HM := Lib.hid hm
  obtain ⟨r, hr⟩ : ∃ r, sameL L M = r := ⟨_, rfl⟩
  have HR := Lib.hid hr
  have SL := Lib.hid (fun h => sameL_len L M h)
  rw [hn, hm, hr]
  rw [hn] at lim
  clear h1 h2 hn hm hr
  by_cases hnm : n = m
  · subst hnm
    go_enter Tryd.func24, Tryd.ntmps24
    go_wp2_with fail
    go_loopw [5] (fun i wr => ∃ k : Nat, k ≤ n ∧ i = .int .i64 k ∧ sameL L M = sameL (L.drop k) (M.drop k) ∧ Below w.heap.size w wr) (fun i _ => n - (intOf i).toNat)
    case atStart => exact ⟨0, Nat.zero_le _, rfl, rfl, Below.refl _ _⟩
    case round =>
      obtain ⟨k, hk, rfl, hs, hb⟩ := hrel
      have HS := Lib.hid hs
      have WB := Lib.hid hb
      by_cases hkn : k < n
      · have hkn' : (k : Int) < n := by omega
        have hk0 : (0 : Int) ≤ k := by omega
        obtain ⟨g, rfl, _, _, m0, m1, m2, m3, m4, m5, m6, m7, m8⟩ := (O1.out.below hb).nine k (by rw [HN.out]; exact hkn)
        obtain ⟨g2, rfl, _, _, n0, n1, n2, n3, n4, n5, n6, n7, n8⟩ := (O2.out.below hb).nine k (by rw [HM.out]; exact hkn)
        have l1 : k < L.length := by rw [HN.out]; exact hkn
        have l2 : k < M.length := by rw [HM.out]; exact hkn
        rw [List.drop_eq_getElem_cons l1, List.drop_eq_getElem_cons l2] at hs
        rw [List.getElem?_eq_getElem l1, Option.getD_some] at m0 m1 m2 m3 m4 m5 m6 m7 m8
        rw [List.getElem?_eq_getElem l2, Option.getD_some] at n0 n1 n2 n3 n4 n5 n6 n7 n8
        generalize L[k] = x at *
        generalize M[k] = y at *
        have HX : Hid (sameL L M = (eqC x y && sameL (L.drop (k + 1)) (M.drop (k + 1)))) := Lib.hid hs
        have NE := fun w => cas_ne x y w
        unfold Cas.agg at NE
        clear hs hb l1 l2
        cases hq : eqC x y
        · have RO : Hid (r = false) := Lib.hid (by rw [← HR.out, HX.out, hq]; rfl)
          rw [hq] at NE
          clear HX hq
          go_wp2_with fail
          go_quiet (fail)
          go_wp2_with fail
          go_ret
          exact ⟨ret_bool (by rw [RO.out]), below_drewN WB.out _⟩
        · have HS2 : Hid (sameL L M = sameL (L.drop (k + 1)) (M.drop (k + 1))) := Lib.hid (by rw [HX.out, hq]; rfl)
          rw [hq] at NE
          clear HX hq
          go_wp2_with fail
          go_quiet (fail)
          go_wp2_with fail
          go_roundw
          case rel => exact ⟨k + 1, by omega, by go_num, HS2.out, below_drewN WB.out _⟩
          case measure => simp [intOf]; omega
      · have hkn' : ¬ (k : Int) < n := by omega
        obtain rfl : k = n := by omega
        have RO : Hid (r = true) := Lib.hid (by
          rw [← HR.out, hs, List.drop_eq_nil_of_le (by rw [HN.out]; exact Nat.le_refl _), List.drop_eq_nil_of_le (by rw [HM.out]; exact Nat.le_refl _)]
          rfl)
        clear hs hb
        go_wp2_with fail
        go_ret
        exact ⟨ret_bool (by rw [RO.out]), WB.out⟩
  · have hnm' : ¬ (n : Int) = m := by omega
    have RO : Hid (r = false) := Lib.hid (by rw [← HR.out]; exact SL.out (by rw [HN.out, HM.out]; exact hnm))
    go_enter Tryd.func24, Tryd.ntmps24
    go_wp2_with fail
    go_ret
    exact ⟨ret_bool (by rw [RO.out]), Below.refl _ _⟩
end Go.Proofs.YtcidllckmidkoaaDoor
