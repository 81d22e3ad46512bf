/- retry.up: the sum of the first so many delays, to a million. -/
import Derived.Test.YtnapeogbpjaigaaSmall
namespace Go.Proofs.Ytnapeogbpjaigaa
open Go.RowKit

def dly (a : Int) : Int := if a < 1 then 0 else if a ≤ 7 then 2 ^ (a.toNat - 1) else 64
theorem delay_any (a : Int) (w : World) (h : 1 ≤ a) (h2 : a ≤ 1000) :
    Calls Try.prog 11 #[.int .i64 a] w fun e w' => e = .returned (.int .i64 (dly a)) ∧ w = w' := by
  have h0 : ¬ a < 1 := by omega
  by_cases h7 : a ≤ 7
  · have hc : a = 1 ∨ a = 2 ∨ a = 3 ∨ a = 4 ∨ a = 5 ∨ a = 6 ∨ a = 7 := by omega
    rcases hc with rfl | rfl | rfl | rfl | rfl | rfl | rfl
    all_goals
      go_enter Try.func11, Try.ntmps11
      go_wp2
      go_ret
      exact ⟨rfl, rfl⟩
  · have hd : dly a = 64 := by simp [dly, h0, h7]
    have h8 : 7 ≤ a - 1 := by omega
    rw [hd]
    by_cases h9 : a = 8
    · subst h9
      go_enter Try.func11, Try.ntmps11
      go_wp2
      go_ret
      exact ⟨rfl, rfl⟩
    have h10 : 7 < a - 1 := by omega
    clear hd
    go_enter Try.func11, Try.ntmps11
    go_wp2
    go_ret
    exact ⟨rfl, rfl⟩

theorem dly_bd (a : Int) : 0 ≤ dly a ∧ dly a ≤ 64 := by
  unfold dly
  split
  · omega
  · split
    · have hc : a = 1 ∨ a = 2 ∨ a = 3 ∨ a = 4 ∨ a = 5 ∨ a = 6 ∨ a = 7 := by omega
      rcases hc with rfl | rfl | rfl | rfl | rfl | rfl | rfl <;> decide
    · omega
theorem upPut_any (i s : Int) (B : Nat) (w : World) (h : 0 ≤ i) (h2 : i ≤ 900) (hs : 0 ≤ s) (hs2 : s ≤ 100000)
    (hc : w.cell? ⟨B, 0, none⟩ = some (.int .i64 s)) (hf : w.frozen? ⟨B, 0, none⟩ = false) :
    Calls Try.prog 26 #[.int .i64 i, .pointer (some ⟨B, 0, none⟩)] w fun e w' => e = .returned (.tuple #[]) ∧ ∃ n, w' = (w.setCell ⟨B, 0, none⟩ (.int .i64 (s + dly (i + 1)))).drewN n := by
  obtain ⟨hd1, hd2⟩ := dly_bd (i + 1)
  have hw := IntWalk.i64_in (i + 1) (by omega)
  go_enter Try.func26, Try.ntmps26
  refine wp_region_still_tail 5 (by kernel_rfl) (by kernel_rfl) ?_
  simp only [List.take_succ_cons, List.take_zero, List.drop_succ_cons, List.drop_zero]
  repeat still_step
  still_call ((delay_any _ _ (by omega) (by omega)).mono (fun e w' h => ⟨h.1, h.2.symm⟩))
  repeat still_step
  refine wpStill_nil ?_
  change wpList _ _ _ _ _ w.drew
  go_wp2
  go_end0
  exact ⟨rfl, 1, rfl⟩

def upv (k : Nat) : Int := if k ≤ 7 then 2 ^ k - 1 else 127
def upS (a : Int) : Int := upv a.toNat + (if 7 < a then (a - 7) * 64 else 0)
theorem upv_step (k : Nat) (h : k < 7) : upv (k + 1) = upv k + dly ((k : Int) + 1) := by
  have hc : k = 0 ∨ k = 1 ∨ k = 2 ∨ k = 3 ∨ k = 4 ∨ k = 5 ∨ k = 6 := by omega
  rcases hc with rfl | rfl | rfl | rfl | rfl | rfl | rfl <;> decide
theorem upv_bd (k : Nat) : 0 ≤ upv k ∧ upv k ≤ 127 := by
  unfold upv
  split
  · have hc : k = 0 ∨ k = 1 ∨ k = 2 ∨ k = 3 ∨ k = 4 ∨ k = 5 ∨ k = 6 ∨ k = 7 := by omega
    rcases hc with rfl | rfl | rfl | rfl | rfl | rfl | rfl | rfl <;> decide
  · omega
set_option maxHeartbeats 400000 in
theorem up_any (a : Int) (w : World) (h : 0 ≤ a) (h2 : a ≤ 1000000) :
    Calls Try.prog 17 #[.int .i64 a] w fun e w' => e = .returned (.int .i64 (upS a)) ∧ Below w.heap.size w w' := by
  obtain ⟨m, hm, hm7, hmn⟩ : ∃ m : Nat, (if 7 < a then 7 else a) = (m : Int) ∧ m ≤ 7 ∧ (m : Int) ≤ a := by
    refine ⟨(if 7 < a then 7 else a).toNat, ?_, ?_, ?_⟩ <;> split <;> omega
  go_enter Try.func17, Try.ntmps17
  go_wp2_with fail
  have Hm := Lib.hid hm
  clear hm
  go_loopw [9] (fun i wr => ∃ (k n : Nat), k ≤ m ∧ i = .int .i64 k ∧ wr = (w.alloc (Obj.cells #[Value.int IntKind.i64 (upv k)] 2)).drewN n) (fun i _ => m - (intOf i).toNat)
  case atStart => exact ⟨0, 0, Nat.zero_le _, rfl, rfl⟩
  case round =>
    obtain ⟨k, n, hk, rfl, rfl⟩ := hrel
    by_cases hlt : k < m
    · have hu := upv_bd k
      have hs := upv_step k (by omega)
      have HS := Lib.hid hs
      clear hs
      have hwd : (w.alloc (Obj.cells #[Value.int IntKind.i64 (upv k + dly (k + 1))] 2)) = (w.alloc (Obj.cells #[Value.int IntKind.i64 (upv (k + 1))] 2)) := by rw [HS.out]
      have HW := Lib.hid hwd
      clear hwd
      go_wp2_with fail
      refine (upPut_any (k : Int) (upv k) w.heap.size _ (by omega) (by omega) hu.1 (by omega) (by simp) (by simp)).mono ?_
      rintro e w' ⟨rfl, n', rfl⟩
      go_wp2
      go_roundw
      case rel => exact ⟨k + 1, n + n', by omega, by go_num, by rw [set_new, World.drewN_drewN, HW.out]⟩
      case measure => simp [intOf]; omega
    · have hkm : k = m := by omega
      subst hkm
      have hu := upv_bd k
      have hm := Hm.out
      have hfin : upS a = upv k + (if a - 7 < 0 then 0 else a - 7) * 64 := by
        have e1 : upv a.toNat = upv k := by
          by_cases h7 : 7 < a
          · rw [if_pos h7] at hm
            have : k = 7 := by omega
            subst this
            unfold upv; rw [if_neg (by omega)]; rfl
          · rw [if_neg h7] at hm
            rw [hm]; rfl
        unfold upS; rw [e1]; congr 1
        by_cases h7 : 7 < a
        · rw [if_pos h7, if_neg (by omega)]
        · rw [if_neg h7]; split <;> omega
      have HF := Lib.hid hfin
      clear hfin hm
      go_wp2
      all_goals
        go_ret
        refine ⟨?_, (below_drewN ((Below.refl _ _).alloc (Nat.le_refl _) _) _)⟩
      all_goals (rw [HF.out]; refine ret_int ?_; first | rfl | (rw [if_neg (by omega)]) | (rw [if_pos (by omega)]; omega) | (rw [if_neg (by omega)]; omega))
end Go.Proofs.Ytnapeogbpjaigaa
