/- The walk of MintOnce. -/
import Derived.Test.YtocooobelmngdaaDoorDraw
namespace Go.Proofs.YtocooobelmngdaaDoor
open Go.RowKit

theorem ba_eq (x y : List UInt8) : ((⟨x.toArray⟩ : ByteArray) = ⟨y.toArray⟩) ↔ x = y := by
  constructor
  · intro h
    injection h with h
    simpa using h
  · rintro rfl; rfl
theorem plainF_len (p : Nat) (s : ByteArray) (hs : s.size = 10) : (plainF p s).size = if p = 4 then 6 else 16 := by
  unfold plainF
  split
  · exact codeOf_size _
  · show (encF s.data.toList).toArray.size = 16
    rw [List.size_toArray]
    exact (encF_eq _ (by rw [Array.length_toList]; exact hs)).2.2
theorem plainF_inj (p : Nat) (h : p ≠ 4) (a b : ByteArray) : plainF p (drawF a) = plainF p (drawF b) ↔ drawF a = drawF b := by
  unfold plainF
  rw [if_neg h, if_neg h, drawF_list, drawF_list, ba_eq]
  rw [show (drawF a = drawF b) ↔ drawL a = drawL b from ba_eq _ _]
  exact encF_inj _ _ (drawL_length a) (drawL_length b)

theorem toList_ne {a b : ByteArray} (h : a ≠ b) : ¬ a.toList = b.toList := fun e => h (by
  rw [ByteArray.toList_eq, ByteArray.toList_eq] at e
  exact ByteArray.ext (Array.toList_inj.1 e))
theorem tmod6 (n : Int) : -6 < Int.tmod n 6 ∧ Int.tmod n 6 < 6 := ⟨by have := Int.lt_tmod_of_pos n (show (0 : Int) < 6 by decide); omega, Int.tmod_lt_of_pos n (by decide)⟩
theorem kind_of (n : Int) : ∃ p : Nat, 1 ≤ p ∧ p < 7 ∧ 1 + Int.tmod n 6 % 6 = (p : Int) := by
  have h1 := tmod6 n
  refine ⟨(1 + Int.tmod n 6 % 6).toNat, ?_⟩
  omega

set_option maxHeartbeats 8000000 in
set_option maxRecDepth 100000 in
theorem once_walk (n : Int) (a b : ByteArray) (w : World) (htab : Lib.TabIs Tryd.prog w "internal/strconv.uint64pow10" .u64 Lib.pow10Tab) :
    Calls Tryd.prog 3 #[.int .i64 n, .string a, .string b] w fun e w' => e = .returned (.bool true) ∧ Below w.heap.size w w' := by
  obtain ⟨p, hp1, hp7, hp⟩ := kind_of n
  have PA := Lib.hid (fun W (hb : Below w.heap.size w W) => plain_any p ⟨hp1, hp7⟩ (drawF a) (drawF_size a) W (tabIs_below htab hb))
  have PB := Lib.hid (fun W (hb : Below w.heap.size w W) => plain_any p ⟨hp1, hp7⟩ (drawF b) (drawF_size b) W (tabIs_below htab hb))
  have DA := Lib.hid (draw_any a)
  have DB := Lib.hid (draw_any b)
  have la := plainF_len p (drawF a) (drawF_size a)
  have lb := plainF_len p (drawF b) (drawF_size b)
  have hi : p ≠ 4 → (plainF p (drawF a) = plainF p (drawF b) ↔ drawF a = drawF b) := fun h => plainF_inj p h a b
  have he : drawF a = drawF b → plainF p (drawF a) = plainF p (drawF b) := fun h => by rw [h]
  generalize plainF p (drawF a) = X at *
  generalize plainF p (drawF b) = Y at *
  generalize drawF a = A at *
  generalize drawF b = B at *
  have hw1 := tmod6 n
  clear htab
  have H := Lib.hid (And.intro la (And.intro hi he))
  clear la lb hi he
  go_enter Tryd.func3, Tryd.ntmps3
  go_wp2_with fail
  refine (awake_any w).mono ?_
  rintro e w1 ⟨rfl, b1⟩
  go_wp2_with fail
  try rw [hp]
  refine (DA.out _).mono ?_
  rintro e w2 ⟨rfl, hb2⟩
  have b2 := b1.trans (hb2.mono b1.size)
  go_wp2_with fail
  try rw [hp]
  refine (PA.out _ b2).mono ?_
  rintro e w3 ⟨rfl, hb3⟩
  have b3 := b2.trans (hb3.mono b2.size)
  go_wp2_with fail
  refine (DB.out _).mono ?_
  rintro e w4 ⟨rfl, hb4⟩
  have b4 := b3.trans (hb4.mono b3.size)
  go_wp2_with fail
  refine (PB.out _ b4).mono ?_
  rintro e w5 ⟨rfl, hb5⟩
  have b5 := b4.trans (hb5.mono b4.size)
  clear hb2 hb3 hb4 hb5 hw1 hp
  obtain ⟨la, hi, he⟩ := H.out
  by_cases h4 : p = 4
  · subst h4
    rw [if_pos rfl] at la
    by_cases hab : A = B
    · have hxy := he hab
      subst hab
      subst hxy
      clear hi he H
      go_wp2_with fail
      refine (DA.out _).mono ?_
      rintro e w6 ⟨rfl, hb6⟩
      have b6 := b5.trans (hb6.mono b5.size)
      go_wp2_with fail
      refine (DB.out _).mono ?_
      rintro e w7 ⟨rfl, hb7⟩
      have b7 := b6.trans (hb7.mono b6.size)
      go_wp2_with fail
      go_ret
      exact ⟨rfl, b7⟩
    · have hal := toList_ne hab
      clear hi he H
      go_wp2_with fail
      refine (DA.out _).mono ?_
      rintro e w6 ⟨rfl, hb6⟩
      have b6 := b5.trans (hb6.mono b5.size)
      go_wp2_with fail
      refine (DB.out _).mono ?_
      rintro e w7 ⟨rfl, hb7⟩
      have b7 := b6.trans (hb7.mono b6.size)
      go_wp2_with fail
      go_ret
      exact ⟨rfl, b7⟩
  · rw [if_neg h4] at la
    have h4' : (p : Int) ≠ 4 := by omega
    by_cases hab : A = B
    · have hxy := he hab
      subst hab
      subst hxy
      clear hi he H
      go_wp2_with fail
      refine (DA.out _).mono ?_
      rintro e w6 ⟨rfl, hb6⟩
      have b6 := b5.trans (hb6.mono b5.size)
      go_wp2_with fail
      refine (DB.out _).mono ?_
      rintro e w7 ⟨rfl, hb7⟩
      have b7 := b6.trans (hb7.mono b6.size)
      go_wp2_with fail
      go_ret
      exact ⟨rfl, b7⟩
    · have hxy : X ≠ Y := fun h => hab ((hi h4).1 h)
      have hal := toList_ne hab
      have hxl := toList_ne hxy
      clear hi he H
      go_wp2_with fail
      refine (DA.out _).mono ?_
      rintro e w6 ⟨rfl, hb6⟩
      have b6 := b5.trans (hb6.mono b5.size)
      go_wp2_with fail
      refine (DB.out _).mono ?_
      rintro e w7 ⟨rfl, hb7⟩
      have b7 := b6.trans (hb7.mono b6.size)
      go_wp2_with fail
      all_goals first
        | (go_ret; exact ⟨rfl, b7⟩)
        | (exfalso; rename_i hn; exact hn (by rw [beq_eq_false_iff_ne.2 hxl, beq_eq_false_iff_ne.2 hal]))
end Go.Proofs.YtocooobelmngdaaDoor
