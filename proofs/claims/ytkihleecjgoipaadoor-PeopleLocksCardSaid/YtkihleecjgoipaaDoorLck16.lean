/- PeopleLocks: the walk. -/
import Derived.Test.YtkihleecjgoipaaDoorAwk16
namespace Go.Proofs.YtkihleecjgoipaaDoor
open Go.RowKit Go.Maps Go.Proofs.YtkihleecjgoipaaDoor.Rw

theorem call_aw {w w2 : World} {v : Value} {m l : Int} (k t m2 l2 : Int) (hm : ML w) (b : Below w.heap.size w w2) (h0 : 0 ≤ m) (h4 : m ≤ 4) (ho : pown w2 w.heap.size v (aw m l)) (hE : appE (aw m l) (ev1 k t) = 0) (hR : appR (aw m l) (ev1 k t) = aw m2 l2) :
    Calls Tryd.prog 11 #[v, .agg #[.int .i64 k, .int .i64 1, .int .i64 0, .int .i64 t, .int .i64 0, .string ⟨#[]⟩, .string ⟨#[]⟩, .string ⟨#[]⟩]] w2 fun r w' => ∃ a c a' c', r = .returned (.tuple #[.agg #[.slice a 1 c, .slice a' 0 c'], .int .i64 0]) ∧ pown w' w.heap.size (.agg #[.slice a 1 c, .slice a' 0 c']) (aw m2 l2) ∧ Below w2.heap.size w2 w' := by
  refine (papply_any ho (aw_small m l ⟨h0, by omega⟩).2 (aw_small m l ⟨h0, by omega⟩).1 b.size (ev1 k t) (by show (⟨#[]⟩ : ByteArray).size ≤ _; decide) (hm.below b)).mono fun r w' ⟨v', q1, q2, q3⟩ => ?_
  rw [hE] at q1
  rw [hR] at q2
  obtain ⟨a, c, a', c', rfl⟩ := q2.form
  exact ⟨a, c, a', c', q1, q2, q3⟩
theorem call_miss {w w2 : World} {v : Value} {m l : Int} (t : Int) (hm : ML w) (b : Below w.heap.size w w2) (h0 : 0 ≤ m) (h4 : m < 4) (ho : pown w2 w.heap.size v (aw m l)) :
    Calls Tryd.prog 11 #[v, .agg #[.int .i64 4, .int .i64 1, .int .i64 0, .int .i64 t, .int .i64 0, .string ⟨#[]⟩, .string ⟨#[]⟩, .string ⟨#[]⟩]] w2 fun r w' => ∃ a c a' c', r = .returned (.tuple #[.agg #[.slice a 1 c, .slice a' 0 c'], .int .i64 0]) ∧ pown w' w.heap.size (.agg #[.slice a 1 c, .slice a' 0 c']) (aw (m + 1) l) ∧ Below w2.heap.size w2 w' :=
  call_aw 4 t (m + 1) l hm b h0 (by omega) ho (aw_miss m l t).1 (by rw [(aw_miss m l t).2, if_neg (by omega)])
theorem call_lock {w w2 : World} {v : Value} {l : Int} (t : Int) (ht : 0 ≤ t ∧ t ≤ 1000000) (hm : ML w) (b : Below w.heap.size w w2) (ho : pown w2 w.heap.size v (aw 4 l)) :
    Calls Tryd.prog 11 #[v, .agg #[.int .i64 4, .int .i64 1, .int .i64 0, .int .i64 t, .int .i64 0, .string ⟨#[]⟩, .string ⟨#[]⟩, .string ⟨#[]⟩]] w2 fun r w' => ∃ a c a' c', r = .returned (.tuple #[.agg #[.slice a 1 c, .slice a' 0 c'], .int .i64 0]) ∧ pown w' w.heap.size (.agg #[.slice a 1 c, .slice a' 0 c']) (aw 0 (t + 100)) ∧ Below w2.heap.size w2 w' :=
  call_aw 4 t 0 (t + 100) hm b (by omega) (by omega) ho (aw_miss 4 l t).1 (by
    rw [(aw_miss 4 l t).2, if_pos (by omega)]
    unfold clk
    rw [if_neg (by omega), Int.min_eq_left (by omega), Int.min_eq_left (by omega), Int.min_eq_left (by omega)])
theorem call_pass {w w2 : World} {v : Value} {m l : Int} (t : Int) (hm : ML w) (b : Below w.heap.size w w2) (h0 : 0 ≤ m) (h4 : m ≤ 4) (ho : pown w2 w.heap.size v (aw m l)) :
    Calls Tryd.prog 11 #[v, .agg #[.int .i64 5, .int .i64 1, .int .i64 0, .int .i64 t, .int .i64 0, .string ⟨#[]⟩, .string ⟨#[]⟩, .string ⟨#[]⟩]] w2 fun r w' => ∃ a c a' c', r = .returned (.tuple #[.agg #[.slice a 1 c, .slice a' 0 c'], .int .i64 0]) ∧ pown w' w.heap.size (.agg #[.slice a 1 c, .slice a' 0 c']) (aw 0 l) ∧ Below w2.heap.size w2 w' :=
  call_aw 5 t 0 l hm b h0 h4 ho (aw_pass m l t).1 (aw_pass m l t).2
theorem call_find {w w2 : World} {v : Value} {m l : Int} (hm : 0 ≤ m ∧ m ≤ 4) (ho : pown w2 w.heap.size v (aw m l)) :
    Calls Tryd.prog 12 #[v, .int .i64 1] w2 fun r w' => r = .returned (.tuple #[.agg #[.int .i64 1, .string abcd, .bool false, .string saltS, .string (fillS 32 0), .int .i64 1, .int .i64 m, .int .i64 l, .string ⟨#[]⟩, .string ⟨#[]⟩, .string ⟨#[]⟩, .string ⟨#[]⟩, .string ⟨#[]⟩], .bool true]) ∧ Below w2.heap.size w2 w' := by
  have h := find_any ho (aw_small m l ⟨by omega, by omega⟩).2 1
  rw [(aw_find m l).1, (aw_find m l).2] at h
  exact h
theorem two_boxes {w w4 w5 : World} {g : Nat} {p1 p2 q1 q2 : Value} (B4 : Below w.heap.size w w4) (H4 : w4.heap[g]? = some (pobj p1 p2)) (b5 : Below (w4.alloc (pobj q1 q2)).heap.size (w4.alloc (pobj q1 q2)) w5) (X : Obj) :
    (w5.alloc X).heap[g]? = some (pobj p1 p2) ∧ (w5.alloc X).heap[w4.heap.size]? = some (pobj q1 q2) ∧ Below w.heap.size w (w5.alloc X) ∧ Below (w4.alloc (pobj q1 q2)).heap.size (w4.alloc (pobj q1 q2)) (w5.alloc X) := by
  have s4 : (w4.alloc (pobj q1 q2)).heap.size = w4.heap.size + 1 := by simp
  have hg := heap_lt H4
  have h5 := (b5.block g (by omega)).trans ((Lib.alloc_old w4 (pobj q1 q2) _ hg).trans H4)
  have n5 := (b5.block w4.heap.size (by omega)).trans (heap_new w4 (pobj q1 q2))
  have b6 := b5.alloc b5.size X
  have s := B4.size
  exact ⟨(Lib.alloc_old w5 X _ (heap_lt h5)).trans h5, (Lib.alloc_old w5 X _ (heap_lt n5)).trans n5, (B4.alloc B4.size _).trans (b6.mono (by omega)), b6⟩
set_option maxHeartbeats 8000000 in
set_option maxRecDepth 100000 in
theorem locks_walk (row each : Int) (w : World) (hm : ML w) : Calls Tryd.prog 4 #[.int .u64 row, .int .i64 each] w fun e w' => e = .returned (.bool true) ∧ Below w.heap.size w w' := by
  have AW := Lib.hid (awake_any w hm)
  have FI : Hid (∀ w2, Calls Tryd.prog 13 #[.int .i64 32, .int .i64 0] w2 fun e w' => e = .returned (.string (fillS 32 0)) ∧ Below w2.heap.size w2 w') := Lib.hid (fun w2 => fill_any 32 0 (by omega) (by omega) w2)
  have A0 : Hid (∀ w2, Below w.heap.size w w2 → Calls Tryd.prog 11 #[.agg #[.slice none 0 0, .slice none 0 0], sgnEv.agg] w2 fun r w' => ∃ a c a' c', r = .returned (.tuple #[.agg #[.slice a 1 c, .slice a' 0 c'], .int .i64 0]) ∧ pown w' w.heap.size (.agg #[.slice a 1 c, .slice a' 0 c']) (aw 0 0) ∧ Below w.heap.size w w') := Lib.hid (fun w2 b => by
    refine (papply_any (pown.nil w2 w.heap.size) ⟨by simp, by simp⟩ (fun x hx => (List.not_mem_nil hx).elim) b.size sgnEv (by decide) (hm.below b)).mono fun r w' ⟨v', q1, q2, q3⟩ => ?_
    rw [aw_sgn.1] at q1
    rw [aw_sgn.2] at q2
    obtain ⟨a, c, a', c', rfl⟩ := q2.form
    exact ⟨a, c, a', c', q1, q2, b.trans (q3.mono b.size)⟩)
  have HM := Lib.hid hm
  clear hm
  obtain ⟨d, hd⟩ : ∃ d, bits .and .i64 each 15 = d := ⟨_, rfl⟩
  have hd1 : d = each % 16 := by rw [← hd]; exact i64_mask each 4 (by omega)
  have hd2 : 0 ≤ d ∧ d ≤ 15 := by omega
  clear hd1
  unfold sgnEv abcd saltS Evn.agg at A0
  simp only at A0
  go_enter Tryd.func4, Tryd.ntmps4
  go_wp2_with (first
    | (go_at_call 9; (with_reducible refine (AW.out).mono ?_); rintro e w0 ⟨rfl, b0⟩; have B0 := Lib.hid b0; clear b0)
    | (go_at_call 13; (with_reducible refine (FI.out _).mono ?_); rintro e w1 ⟨rfl, b1⟩; have B1 := Lib.hid (B0.out.trans (b1.mono B0.out.size)); clear b1)
    | (go_at_call 11; (with_reducible refine (A0.out _ B1.out).mono ?_); rintro e w2 ⟨a, c, a', c', rfl, o2, b2⟩; have O2 := Lib.hid o2; have B2 := Lib.hid b2; have s2 := b2.size; have XB := Lib.hid (heap_new w2 (pobj (.slice a 1 c) (.slice a' 0 c'))); have B3 := Lib.hid (b2.alloc s2 (pobj (.slice a 1 c) (.slice a' 0 c'))); have O3 := Lib.hid (o2.below ((Below.refl _ _).alloc (Nat.le_refl _) (pobj (.slice a 1 c) (.slice a' 0 c')))); clear o2 b2))
  unfold pobj at B3 O3
  go_loopw [8, 9, 10] (fun t8 t9 i wr => ∃ (k : Nat) (m l : Int) (s1 s2 : Value), k ≤ 40 ∧ i = .int .i64 k ∧ t8 = .int .i64 m ∧ t9 = .int .i64 l ∧ 0 ≤ m ∧ m ≤ 4 ∧ pown wr w.heap.size (.agg #[s1, s2]) (aw m l) ∧ wr.heap[w2.heap.size]? = some (pobj s1 s2) ∧ Below w.heap.size w wr) (fun _ _ i _ => 40 - (intOf i).toNat)
  case atStart => exact ⟨0, 0, 0, _, _, by omega, rfl, rfl, rfl, by omega, by omega, O3.out, XB.out, B3.out⟩
  case round =>
    obtain ⟨k, m, l, p1, p2, hk40, rfl, rfl, rfl, hm0, hm4, ho, hb, bel⟩ := hrel
    obtain ⟨⟨c0, c1⟩, cf⟩ := pcell_of hb
    have WB := Lib.hid bel
    have OW := Lib.hid ho
    have HBX := Lib.hid hb
    by_cases hk : k < 40
    · have hk' : (k : Int) < 40 := by omega
      obtain ⟨now, hnow⟩ : ∃ now, (k : Int) * d = now := ⟨_, rfl⟩
      have hn : 0 ≤ now ∧ now ≤ 600 := by
        rw [← hnow]
        refine ⟨Int.mul_nonneg (by omega) hd2.1, ?_⟩
        have h1 : (k : Int) * d ≤ 40 * d := Int.mul_le_mul_of_nonneg_right (by omega) hd2.1
        omega
      have hwn : IntKind.i64.wrap ((k : Int) * d) = now := by rw [hnow, IntKind.wrap_i64] <;> omega
      have hw1 : IntKind.i64.wrap (m + 1) = m + 1 := by rw [IntKind.wrap_i64] <;> omega
      have hw2 : IntKind.i64.wrap (now + 100) = now + 100 := by rw [IntKind.wrap_i64] <;> omega
      have CP : Hid (Calls Tryd.prog 11 #[.agg #[p1, p2], .agg #[.int .i64 5, .int .i64 1, .int .i64 0, .int .i64 now, .int .i64 0, .string ⟨#[]⟩, .string ⟨#[]⟩, .string ⟨#[]⟩]] wr fun r w' => ∃ a c a' c', r = .returned (.tuple #[.agg #[.slice a 1 c, .slice a' 0 c'], .int .i64 0]) ∧ pown w' w.heap.size (.agg #[.slice a 1 c, .slice a' 0 c']) (aw 0 l) ∧ Below wr.heap.size wr w') := Lib.hid (call_pass now HM.out bel hm0 hm4 ho)
      have FND : Hid (∀ w2 v m l, 0 ≤ m ∧ m ≤ 4 → pown w2 w.heap.size v (aw m l) → Calls Tryd.prog 12 #[v, .int .i64 1] w2 fun r w' => r = .returned (.tuple #[.agg #[.int .i64 1, .string abcd, .bool false, .string saltS, .string (fillS 32 0), .int .i64 1, .int .i64 m, .int .i64 l, .string ⟨#[]⟩, .string ⟨#[]⟩, .string ⟨#[]⟩, .string ⟨#[]⟩, .string ⟨#[]⟩], .bool true]) ∧ Below w2.heap.size w2 w') := Lib.hid (fun w2 v m l h ho => call_find h ho)
      by_cases h4 : m = 4
      · subst h4
        have CM : Hid (Calls Tryd.prog 11 #[.agg #[p1, p2], .agg #[.int .i64 4, .int .i64 1, .int .i64 0, .int .i64 now, .int .i64 0, .string ⟨#[]⟩, .string ⟨#[]⟩, .string ⟨#[]⟩]] wr fun r w' => ∃ a c a' c', r = .returned (.tuple #[.agg #[.slice a 1 c, .slice a' 0 c'], .int .i64 0]) ∧ pown w' w.heap.size (.agg #[.slice a 1 c, .slice a' 0 c']) (aw 0 (now + 100)) ∧ Below wr.heap.size wr w') := Lib.hid (call_lock now ⟨by omega, by omega⟩ HM.out bel ho)
        clear ho hb bel hnow
        go_wp2_with fail
        · go_wp2_with (first
            | (go_at_call 11; (with_reducible refine (CP.out).mono ?_); rintro e w4 ⟨a4, c4, a5, c5, rfl, o4, b4⟩; have O6 := Lib.hid (o4.below ((Below.refl _ _).alloc (Nat.le_refl _) (pobj (.slice a4 1 c4) (.slice a5 0 c5)))); have B4 := Lib.hid (WB.out.trans (b4.mono WB.out.size)); have H4 := Lib.hid ((b4.block w2.heap.size (heap_lt HBX.out)).trans HBX.out); unfold pobj at O6; clear o4 b4)
            | (go_at_call 12; (refine (FND.out _ _ _ _ (by omega) O6.out).mono ?_); rintro e w5 ⟨rfl, b5⟩; go_must (obtain ⟨h6, n6, b6, b7⟩ := two_boxes (q1 := .slice a4 1 c4) (q2 := .slice a5 0 c5) B4.out H4.out b5 (.cells #[.int .i64 1, .string abcd, .bool false, .string saltS, .string (fillS 32 0), .int .i64 1, .int .i64 0, .int .i64 l, .string ⟨#[]⟩, .string ⟨#[]⟩, .string ⟨#[]⟩, .string ⟨#[]⟩, .string ⟨#[]⟩] 38)); have H6 := Lib.hid h6; have B5 := Lib.hid b6; have O7 := Lib.hid (O6.out.below b7); obtain ⟨⟨d0, d1⟩, df⟩ := pcell_of h6; obtain ⟨⟨f0, f1⟩, ff⟩ := pcell_of n6; clear b5 h6 n6 b6 b7))
          go_roundw
          case rel => exact ⟨k + 1, 0, l, _, _, by omega, by go_num, rfl, rfl, by omega, by omega, O7.out.apart H6.out _ _, pbox_set H6.out _ _, (B5.out.setCell s2 _).setCell s2 _⟩
          case measure => simp [intOf]; omega
        · go_wp2_with (first
            | (go_at_call 11; (with_reducible refine (CM.out).mono ?_); rintro e w4 ⟨a4, c4, a5, c5, rfl, o4, b4⟩; have O6 := Lib.hid (o4.below ((Below.refl _ _).alloc (Nat.le_refl _) (pobj (.slice a4 1 c4) (.slice a5 0 c5)))); have B4 := Lib.hid (WB.out.trans (b4.mono WB.out.size)); have H4 := Lib.hid ((b4.block w2.heap.size (heap_lt HBX.out)).trans HBX.out); unfold pobj at O6; clear o4 b4)
            | (go_at_call 12; (refine (FND.out _ _ _ _ (by omega) O6.out).mono ?_); rintro e w5 ⟨rfl, b5⟩; go_must (obtain ⟨h6, n6, b6, b7⟩ := two_boxes (q1 := .slice a4 1 c4) (q2 := .slice a5 0 c5) B4.out H4.out b5 (.cells #[.int .i64 1, .string abcd, .bool false, .string saltS, .string (fillS 32 0), .int .i64 1, .int .i64 0, .int .i64 (now + 100), .string ⟨#[]⟩, .string ⟨#[]⟩, .string ⟨#[]⟩, .string ⟨#[]⟩, .string ⟨#[]⟩] 38)); have H6 := Lib.hid h6; have B5 := Lib.hid b6; have O7 := Lib.hid (O6.out.below b7); obtain ⟨⟨d0, d1⟩, df⟩ := pcell_of h6; obtain ⟨⟨f0, f1⟩, ff⟩ := pcell_of n6; clear b5 h6 n6 b6 b7))
          go_roundw
          case rel => exact ⟨k + 1, 0, (now + 100), _, _, by omega, by go_num, rfl, rfl, by omega, by omega, O7.out.apart H6.out _ _, pbox_set H6.out _ _, (B5.out.setCell s2 _).setCell s2 _⟩
          case measure => simp [intOf]; omega
      · have h5 : ¬ m + 1 = 5 := by omega
        have CM : Hid (Calls Tryd.prog 11 #[.agg #[p1, p2], .agg #[.int .i64 4, .int .i64 1, .int .i64 0, .int .i64 now, .int .i64 0, .string ⟨#[]⟩, .string ⟨#[]⟩, .string ⟨#[]⟩]] wr fun r w' => ∃ a c a' c', r = .returned (.tuple #[.agg #[.slice a 1 c, .slice a' 0 c'], .int .i64 0]) ∧ pown w' w.heap.size (.agg #[.slice a 1 c, .slice a' 0 c']) (aw (m + 1) l) ∧ Below wr.heap.size wr w') := Lib.hid (call_miss now HM.out bel hm0 (by omega) ho)
        clear ho hb bel hnow
        go_wp2_with fail
        · go_wp2_with (first
            | (go_at_call 11; (with_reducible refine (CP.out).mono ?_); rintro e w4 ⟨a4, c4, a5, c5, rfl, o4, b4⟩; have O6 := Lib.hid (o4.below ((Below.refl _ _).alloc (Nat.le_refl _) (pobj (.slice a4 1 c4) (.slice a5 0 c5)))); have B4 := Lib.hid (WB.out.trans (b4.mono WB.out.size)); have H4 := Lib.hid ((b4.block w2.heap.size (heap_lt HBX.out)).trans HBX.out); unfold pobj at O6; clear o4 b4)
            | (go_at_call 12; (refine (FND.out _ _ _ _ (by omega) O6.out).mono ?_); rintro e w5 ⟨rfl, b5⟩; go_must (obtain ⟨h6, n6, b6, b7⟩ := two_boxes (q1 := .slice a4 1 c4) (q2 := .slice a5 0 c5) B4.out H4.out b5 (.cells #[.int .i64 1, .string abcd, .bool false, .string saltS, .string (fillS 32 0), .int .i64 1, .int .i64 0, .int .i64 l, .string ⟨#[]⟩, .string ⟨#[]⟩, .string ⟨#[]⟩, .string ⟨#[]⟩, .string ⟨#[]⟩] 38)); have H6 := Lib.hid h6; have B5 := Lib.hid b6; have O7 := Lib.hid (O6.out.below b7); obtain ⟨⟨d0, d1⟩, df⟩ := pcell_of h6; obtain ⟨⟨f0, f1⟩, ff⟩ := pcell_of n6; clear b5 h6 n6 b6 b7))
          go_roundw
          case rel => exact ⟨k + 1, 0, l, _, _, by omega, by go_num, rfl, rfl, by omega, by omega, O7.out.apart H6.out _ _, pbox_set H6.out _ _, (B5.out.setCell s2 _).setCell s2 _⟩
          case measure => simp [intOf]; omega
        · go_wp2_with (first
            | (go_at_call 11; (with_reducible refine (CM.out).mono ?_); rintro e w4 ⟨a4, c4, a5, c5, rfl, o4, b4⟩; have O6 := Lib.hid (o4.below ((Below.refl _ _).alloc (Nat.le_refl _) (pobj (.slice a4 1 c4) (.slice a5 0 c5)))); have B4 := Lib.hid (WB.out.trans (b4.mono WB.out.size)); have H4 := Lib.hid ((b4.block w2.heap.size (heap_lt HBX.out)).trans HBX.out); unfold pobj at O6; clear o4 b4)
            | (go_at_call 12; (refine (FND.out _ _ _ _ (by omega) O6.out).mono ?_); rintro e w5 ⟨rfl, b5⟩; go_must (obtain ⟨h6, n6, b6, b7⟩ := two_boxes (q1 := .slice a4 1 c4) (q2 := .slice a5 0 c5) B4.out H4.out b5 (.cells #[.int .i64 1, .string abcd, .bool false, .string saltS, .string (fillS 32 0), .int .i64 1, .int .i64 (m + 1), .int .i64 l, .string ⟨#[]⟩, .string ⟨#[]⟩, .string ⟨#[]⟩, .string ⟨#[]⟩, .string ⟨#[]⟩] 38)); have H6 := Lib.hid h6; have B5 := Lib.hid b6; have O7 := Lib.hid (O6.out.below b7); obtain ⟨⟨d0, d1⟩, df⟩ := pcell_of h6; obtain ⟨⟨f0, f1⟩, ff⟩ := pcell_of n6; clear b5 h6 n6 b6 b7))
          go_roundw
          case rel => exact ⟨k + 1, (m + 1), l, _, _, by omega, by go_num, rfl, rfl, by omega, by omega, O7.out.apart H6.out _ _, pbox_set H6.out _ _, (B5.out.setCell s2 _).setCell s2 _⟩
          case measure => simp [intOf]; omega
    · have hk' : ¬ (k : Int) < 40 := by omega
      clear ho hb bel
      go_wp2_with fail
      go_ret
      exact ⟨rfl, WB.out⟩
end Go.Proofs.YtkihleecjgoipaaDoor
