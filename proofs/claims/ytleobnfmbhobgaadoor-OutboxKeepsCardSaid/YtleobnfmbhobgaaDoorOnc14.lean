/- OutboxOnce: the walk. -/
import Derived.Test.YtleobnfmbhobgaaDoorAwk14
namespace Go.Proofs.YtleobnfmbhobgaaDoor
open Go.RowKit Go.Maps

theorem i64_mask (n : Int) (k : Nat) (hk : k ≤ 30) : bits .and .i64 n ((2 ^ k - 1 : Nat) : Int) = n % ((2 ^ k : Nat) : Int) := by
  have h2 : 2 ^ k ≤ 2 ^ 30 := Nat.pow_le_pow_right (by omega) hk
  have h0 : 0 < 2 ^ k := Nat.two_pow_pos k
  have hm : (BitVec.ofInt 64 ((2 ^ k - 1 : Nat) : Int)).toNat = 2 ^ k - 1 := by
    rw [BitVec.toNat_ofInt]
    have : (((2 ^ k - 1 : Nat) : Int) % ((2 ^ 64 : Nat) : Int)).toNat = 2 ^ k - 1 := by
      generalize 2 ^ k = q at *
      omega
    exact this
  have key : (BitVec.ofInt 64 n &&& BitVec.ofInt 64 ((2 ^ k - 1 : Nat) : Int)).toNat = (n % ((2 ^ 64 : Nat) : Int)).toNat % 2 ^ k := by
    rw [BitVec.toNat_and, hm, BitVec.toNat_ofInt, Nat.and_two_pow_sub_one_eq_mod]
  show IntKind.i64.wrap ((BitVec.ofInt 64 n &&& BitVec.ofInt 64 ((2 ^ k - 1 : Nat) : Int)).toNat : Nat) = _
  rw [key, IntKind.wrap_i64]
  have hd : (2 ^ k : Nat) ∣ 2 ^ 64 := Nat.pow_dvd_pow 2 (by omega)
  have e1 : ((n % ((2 ^ 64 : Nat) : Int)).toNat : Int) = n % ((2 ^ 64 : Nat) : Int) := by omega
  have e2 : (((n % ((2 ^ 64 : Nat) : Int)).toNat % 2 ^ k : Nat) : Int) = n % ((2 ^ k : Nat) : Int) := by
    rw [Int.natCast_emod, e1]
    exact Int.emod_emod_of_dvd _ (Int.natCast_dvd_natCast.2 hd)
  rw [e2]
  have b1 := Int.emod_nonneg n (show ((2 ^ k : Nat) : Int) ≠ 0 by omega)
  have b2 := Int.emod_lt_of_pos n (show (0 : Int) < ((2 ^ k : Nat) : Int) by omega)
  generalize n % ((2 ^ k : Nat) : Int) = r at *
  generalize 2 ^ k = q at *
  omega
theorem mod10 (x : Int) : ∃ n : Nat, n < 10 ∧ (wrap64 (Int.tmod x 10 + 10)).tmod 10 = (n : Int) := by
  have h1 := Int.lt_tmod_of_pos x (show (0 : Int) < 10 by decide)
  have h2 := Int.tmod_lt_of_pos x (show (0 : Int) < 10 by decide)
  have hw : wrap64 (Int.tmod x 10 + 10) = Int.tmod x 10 + 10 := by unfold wrap64; omega
  rw [hw, Int.tmod_eq_emod_of_nonneg (by omega)]
  exact ⟨((Int.tmod x 10 + 10) % 10).toNat, by omega, by omega⟩

/-- The one message, after so many failures. -/
def MO (now : Int) : Nat → Msg
  | 0 => ⟨5, abcd, xs 9, 0, now, false⟩
  | i + 1 => ⟨5, abcd, xs 9, (min (i + 1) 8 : Nat), clk now (dly (min (i + 1) 8 : Nat)), gone (min (i + 1) 8 : Nat)⟩
theorem MO_id (now : Int) (i : Nat) : (MO now i).id = 5 := by cases i <;> rfl
theorem MO_dead (now : Int) (i : Nat) : (MO now i).dead = decide (8 ≤ i) := by
  cases i with
  | zero => rfl
  | succ i => simp only [MO, gone]; rw [Bool.eq_iff_iff]; simp; omega
theorem MO_fail (now : Int) (i : Nat) (h : i < 8) : failM (MO now i) now = MO now (i + 1) := by
  have hw : ∀ j : Nat, j < 8 → IntKind.i64.wrap ((j : Int) + 1) = ((j + 1 : Nat) : Int) := fun j hj => by rw [IntKind.wrap_i64]; omega
  cases i with
  | zero => rfl
  | succ i =>
    have e1 : min (i + 1) 8 = i + 1 := by omega
    have e2 : min (i + 1 + 1) 8 = i + 1 + 1 := by omega
    simp only [failM, MO, e1, e2]
    rw [hw (i + 1) h]
theorem MO_pos (now : Int) (i : Nat) : pos [MO now i] 5 = 0 := by simp [pos, MO_id, List.findIdx_cons]
theorem MO_live (now : Int) (i : Nat) : live [MO now i] 5 = decide (i < 8) := by
  unfold live
  rw [MO_pos]
  simp only [List.length_singleton, List.getElem?_cons_zero, Option.getD_some, MO_dead]
  rw [Bool.eq_iff_iff]; simp
theorem MO_failR (now : Int) (i : Nat) : failR [MO now i] 5 now = [MO now (i + 1)] := by
  unfold failR
  rw [MO_live, MO_pos]
  by_cases h : i < 8
  · rw [if_pos (by simpa using h)]
    simp [MO_fail now i h]
  · rw [if_neg (by simpa using h)]
    congr 1
    cases i with
    | zero => omega
    | succ i => simp only [MO, show min (i + 1) 8 = 8 by omega, show min (i + 1 + 1) 8 = 8 by omega]
theorem MO_takeR (now : Int) (i : Nat) : takeR [MO now i] 5 = if i < 8 then [] else [MO now i] := by
  unfold takeR
  rw [MO_live, MO_pos]
  by_cases h : i < 8
  · rw [if_pos (by simpa using h), if_pos h]; rfl
  · rw [if_neg (by simpa using h), if_neg h]
theorem right_law (id : Nat) (n : Nat) (now : Int) (h1 : 1 ≤ id) (h2 : id ≤ 1099511627776) (hn : 1 ≤ n) (hn2 : n ≤ 80) (h0 : 0 ≤ now) (h3 : now ≤ 1099511627776) : rightB (postM (msgL id n) now) = true := by
  have e0 : (xs n).toList.isEmpty = false := by
    rw [ByteArray.toList_eq]
    obtain ⟨k, rfl⟩ : ∃ k, n = k + 1 := ⟨n - 1, by omega⟩
    simp [xs, List.replicate_succ]
  have e1 : (xs n).size = n := by show (List.replicate n (120 : UInt8)).toArray.size = n; simp
  unfold rightB postM msgL
  simp only [kind_abcd, e0, e1]
  simp [h1, h2, hn2, h0, h3, gone]
theorem once_first (now : Int) (h0 : 0 ≤ now) (h3 : now ≤ 1023) : postE [] (msgL 5 9) now = 0 ∧ postR [] (msgL 5 9) now = [MO now 0] := by
  have e : postE [] (msgL 5 9) now = 0 := by
    unfold postE
    rw [right_law 5 9 now (by omega) (by omega) (by omega) (by omega) h0 (by omega)]
    simp
  exact ⟨e, by unfold postR; rw [e, if_pos rfl]; rfl⟩
theorem once_again (now : Int) (h0 : 0 ≤ now) (h3 : now ≤ 1023) (i : Nat) : postE [MO now i] (msgL 5 9) now = 14 := by
  unfold postE
  rw [right_law 5 9 now (by omega) (by omega) (by omega) (by omega) h0 (by omega), if_neg (by decide), if_pos]
  refine ⟨by simp, ?_⟩
  show 5 ≤ lastId [MO now i]
  unfold lastId
  simp [MO_id]

set_option maxRecDepth 100000 in
set_option maxHeartbeats 4000000 in
theorem once_walk (fails at_ : Int) (W : World) (hm : ML W) :
    Calls Tryd.prog 4 #[.int .i64 fails, .int .i64 at_] W fun e W' => e = .returned (.bool true) ∧ Below W.heap.size W W' := by
  obtain ⟨n, hn, hnq⟩ := mod10 fails
  have hmask := i64_mask at_ 10 (by omega)
  obtain ⟨now, hnow⟩ : ∃ now, bits .and .i64 at_ 1023 = now := ⟨_, rfl⟩
  have hnow' : now = at_ % 1024 := by rw [← hnow]; exact hmask
  have h0 : 0 ≤ now := by omega
  have h3 : now ≤ 1023 := by omega
  clear hmask hnow'
  have AW := Lib.hid (awake_any W hm)
  have HM := Lib.hid hm
  have MS : Hid (∀ w : World, Calls Tryd.prog 12 #[.int .u64 5, .int .i64 9] w fun e w' => e = .returned (.agg #[.int .u64 5, .string abcd, .string (xs 9), .int .i64 7, .int .i64 0, .bool true]) ∧ Below w.heap.size w w') := Lib.hid (fun w => message_any 5 9 9 (by omega) (by decide +kernel) w)
  have P0 : Hid (∀ w : World, Below W.heap.size W w → Calls Tryd.prog 11 #[.slice none 0 0, .agg #[.int .u64 5, .string abcd, .string (xs 9), .int .i64 7, .int .i64 0, .bool true], .int .i64 now] w fun e w' => ∃ a c, e = .returned (.tuple #[.slice a 1 c, .int .i64 0]) ∧ Fresh W w' (.slice a 1 c) [MO now 0]) := Lib.hid (fun w b => by
    refine (post_v (mowns_nil w 0) (by decide) (msgL 5 9) (by decide) now (hm.below b)).mono ?_
    rintro e w' ⟨a, c, rfl, f⟩
    rw [(once_first now h0 h3).1, (once_first now h0 h3).2] at *
    exact ⟨a, c, rfl, f.then b⟩)
  have PF : Hid (∀ (w : World) (v : Value) (i : Nat), Fresh W w v [MO now i] → Calls Tryd.prog 9 #[v, .int .u64 5, .int .i64 now] w fun e w' => ∃ a c, e = .returned (.tuple #[.slice a 1 c, .int .i64 (liveE [MO now i] 5)]) ∧ Fresh W w' (.slice a 1 c) [MO now (i + 1)]) := Lib.hid (fun w v i f => by
    refine (failed_v f.1 (by simp) 5 now).mono ?_
    rintro e w' ⟨a, c, rfl, g⟩
    rw [MO_failR] at *
    exact ⟨a, c, rfl, g.then f.2⟩)
  have PT : Hid (∀ (w : World) (v : Value) (ms : List Msg), ms.length ≤ 1000000 → Fresh W w v ms → Calls Tryd.prog 15 #[v, .int .u64 5] w fun e w' => ∃ a c, e = .returned (.tuple #[.slice a (takeR ms 5).length c, .int .i64 (liveE ms 5)]) ∧ Fresh W w' (.slice a (takeR ms 5).length c) (takeR ms 5) ∧ Below w.heap.size w w') := Lib.hid (fun w v ms lim f => by
    refine (taken_v f.1 lim 5).mono ?_
    rintro e w' ⟨a, c, rfl, g⟩
    exact ⟨a, c, rfl, g.then f.2, g.2⟩)
  have PP : Hid (∀ (w : World) (v : Value) (i : Nat), mowns w W.heap.size v [MO now i] → Below W.heap.size W w → Calls Tryd.prog 11 #[v, .agg #[.int .u64 5, .string abcd, .string (xs 9), .int .i64 7, .int .i64 0, .bool true], .int .i64 now] w fun e w' => ∃ a k c, e = .returned (.tuple #[.slice a k c, .int .i64 14]) ∧ Below W.heap.size W w') := Lib.hid (fun w v i f b => by
    refine (post_v f (by simp) (msgL 5 9) (by decide) now (hm.below b)).mono ?_
    rintro e w' ⟨a, c, rfl, g⟩
    rw [once_again now h0 h3 i]
    exact ⟨a, _, c, rfl, b.trans (g.2.mono b.size)⟩)
  have HN := Lib.hid hnq
  clear hm hnq
  go_enter Tryd.func4, Tryd.ntmps4
  have hnq := HN.out
  go_wp2_with (first
    | (go_at_call 8; (with_reducible refine (AW.out).mono ?_); rintro e w1 ⟨rfl, b1⟩)
    | (go_at_call 12; (with_reducible refine (MS.out _).mono ?_); rintro e w2 ⟨rfl, b2⟩; have B2 := Lib.hid (b1.trans (b2.mono b1.size)); clear b2)
    | (go_at_call 11; (with_reducible refine (P0.out _ B2.out).mono ?_); rintro e w3 ⟨a3, c3, rfl, f3⟩; have F3 := Lib.hid f3; clear f3))
  clear hnq b1
  go_loopw [8, 10] (fun l i wr => ∃ (k : Nat) (a : Option Addr) (c : Nat), k ≤ n ∧ i = .int .i64 k ∧ l = .slice a 1 c ∧ Fresh W wr (.slice a 1 c) [MO now k]) (fun _ i _ => n - (intOf i).toNat)
  case atStart => exact ⟨0, a3, c3, Nat.zero_le _, rfl, rfl, F3.out⟩
  case round =>
    obtain ⟨k, a, c, hk, rfl, rfl, fr⟩ := hrel
    have FR := Lib.hid fr
    clear fr F3 B2
    by_cases hkn : k < n
    · have hkn' : (k : Int) < n := by omega
      have FD := PF.out wr (.slice a 1 c) k FR.out
      by_cases h8 : k < 8
      · have h8' : (k : Int) < 8 := by omega
        have e8 : liveE [MO now k] 5 = 0 := by unfold liveE; rw [MO_live]; simp [h8]
        rw [e8] at FD
        have FD := Lib.hid FD
        clear e8
        go_wp2_with (go_at_call 9; (with_reducible refine (FD.out).mono ?_); rintro e w4 ⟨a4, c4, rfl, f4⟩; have F4 := Lib.hid f4; clear f4)
        go_roundw
        case rel => exact ⟨k + 1, a4, c4, by omega, by go_num, rfl, F4.out⟩
        case measure => simp [intOf]; omega
      · have h8' : ¬ (k : Int) < 8 := by omega
        have e8 : liveE [MO now k] 5 = 12 := by unfold liveE; rw [MO_live]; simp [h8]
        rw [e8] at FD
        have FD := Lib.hid FD
        clear e8
        go_wp2_with (go_at_call 9; (with_reducible refine (FD.out).mono ?_); rintro e w4 ⟨a4, c4, rfl, f4⟩; have F4 := Lib.hid f4; clear f4)
        go_roundw
        case rel => exact ⟨k + 1, a4, c4, by omega, by go_num, rfl, F4.out⟩
        case measure => simp [intOf]; omega
    · have hkn' : ¬ (k : Int) < n := by omega
      obtain rfl : k = n := by omega
      have T1 := PT.out wr (.slice a 1 c) [MO now k] (by simp) FR.out
      rw [MO_takeR] at T1
      by_cases h8 : k < 8
      · have h8' :  (k : Int) < 8 := by omega
        have e8 : liveE [MO now k] 5 = 0 := by unfold liveE; rw [MO_live]; simp [h8]
        rw [e8, if_pos h8] at T1
        have T1 : Hid (Calls Tryd.prog 15 #[.slice a 1 c, .int .u64 5] wr fun e w' => ∃ a c, e = .returned (.tuple #[.slice a 0 c, .int .i64 0]) ∧ Fresh W w' (.slice a 0 c) [] ∧ Below wr.heap.size wr w') := Lib.hid T1
        have T2 : Hid (∀ (w : World) (a : Option Addr) (c : Nat), Fresh W w (.slice a 0 c) [] ∧ Below wr.heap.size wr w → Calls Tryd.prog 15 #[.slice a 0 c, .int .u64 5] w fun e w' => ∃ a c, e = .returned (.tuple #[.slice a 0 c, .int .i64 12]) ∧ Below W.heap.size W w' ∧ Below wr.heap.size wr w') := Lib.hid (fun w a c f => (PT.out w (.slice a 0 c) [] (by simp) f.1).mono fun e w' ⟨a, c, he, g1, g2⟩ => ⟨a, c, he, g1.2, f.2.trans (g2.mono f.2.size)⟩)
        clear e8
        go_wp2_with (first
          | (go_at_call 15; (with_reducible refine (T1.out).mono ?_); rintro e w4 ⟨a4, c4, rfl, f4⟩; have F4 := Lib.hid f4; clear f4 T1)
          | (go_at_call 15; (with_reducible refine (T2.out _ _ _ F4.out).mono ?_); rintro e w5 ⟨a5, c5, rfl, b5⟩; have B5 := Lib.hid b5; clear b5)
          | (go_at_call 12; (with_reducible refine (MS.out _).mono ?_); rintro e w6 ⟨rfl, b6⟩; have B6 := Lib.hid (And.intro (B5.out.1.trans (b6.mono B5.out.1.size)) (B5.out.2.trans (b6.mono B5.out.2.size))); clear b6)
          | (go_at_call 11; refine (PP.out _ _ k (FR.out.1.below B6.out.2) B6.out.1).mono ?_; rintro e w7 ⟨a7, k7, c7, rfl, b7⟩; have B7 := Lib.hid b7; clear b7))
        go_ret
        exact ⟨rfl, B7.out⟩
      · have h8' : ¬ (k : Int) < 8 := by omega
        have h8d : decide ((k : Int) < 8) = false := by simpa using h8'
        have e8 : liveE [MO now k] 5 = 12 := by unfold liveE; rw [MO_live]; simp [h8]
        rw [e8, if_neg h8] at T1
        have T1 : Hid (Calls Tryd.prog 15 #[.slice a 1 c, .int .u64 5] wr fun e w' => ∃ a c, e = .returned (.tuple #[.slice a 1 c, .int .i64 12]) ∧ Fresh W w' (.slice a 1 c) [MO now k] ∧ Below wr.heap.size wr w') := Lib.hid T1
        have T2 : Hid (∀ (w : World) (a : Option Addr) (c : Nat), Fresh W w (.slice a 1 c) [MO now k] ∧ Below wr.heap.size wr w → Calls Tryd.prog 15 #[.slice a 1 c, .int .u64 5] w fun e w' => ∃ a c, e = .returned (.tuple #[.slice a 1 c, .int .i64 12]) ∧ Below W.heap.size W w' ∧ Below wr.heap.size wr w') := Lib.hid (fun w a c f => (PT.out w (.slice a 1 c) [MO now k] (by simp) f.1).mono fun e w' ⟨a, c, he, g1, g2⟩ => ⟨a, c, by rw [he, MO_takeR, if_neg h8]; simp [liveE, MO_live, h8], g1.2, f.2.trans (g2.mono f.2.size)⟩)
        clear e8
        go_wp2_with (first
          | (go_at_call 15; (with_reducible refine (T1.out).mono ?_); rintro e w4 ⟨a4, c4, rfl, f4⟩; have F4 := Lib.hid f4; clear f4 T1)
          | (go_at_call 15; (with_reducible refine (T2.out _ _ _ F4.out).mono ?_); rintro e w5 ⟨a5, c5, rfl, b5⟩; have B5 := Lib.hid b5; clear b5)
          | (go_at_call 12; (with_reducible refine (MS.out _).mono ?_); rintro e w6 ⟨rfl, b6⟩; have B6 := Lib.hid (And.intro (B5.out.1.trans (b6.mono B5.out.1.size)) (B5.out.2.trans (b6.mono B5.out.2.size))); clear b6)
          | (go_at_call 11; refine (PP.out _ _ k (FR.out.1.below B6.out.2) B6.out.1).mono ?_; rintro e w7 ⟨a7, k7, c7, rfl, b7⟩; have B7 := Lib.hid b7; clear b7))
        go_ret
        exact ⟨rfl, B7.out⟩
end Go.Proofs.YtleobnfmbhobgaaDoor
