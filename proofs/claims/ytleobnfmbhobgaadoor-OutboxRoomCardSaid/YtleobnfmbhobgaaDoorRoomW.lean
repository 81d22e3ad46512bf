/- OutboxRoom: the walk. -/
import Derived.Test.YtleobnfmbhobgaaDoorRoomP
import Derived.Deep.DeepCutAuto
import Derived.Deep.CutBlock
namespace Go.Proofs.YtleobnfmbhobgaaDoor
open Go.RowKit Go.Maps

set_option maxHeartbeats 8000000 in
set_option maxRecDepth 100000 in
theorem room_walk (a0 : Option Addr) (len cap : Nat) (W : World) (hm : ML W)
    (hsl : ∀ i, i < len → ∃ b off o, a0 = some ⟨b, off, none⟩ ∧ b < W.heap.size ∧ OpAt W b (off + i * 11) o ∧ o.id < 2 ^ 64) :
    Calls Tryd.prog 3 #[.slice a0 len cap] W fun e W' => e = .returned (.bool true) ∧ Below W.heap.size W W' := by
  have AW := Lib.hid (awake_any W hm)
  have HM := Lib.hid hm
  clear hm
  go_enter Tryd.func3, Tryd.ntmps3
  go_upto_block 0 with ((go_at_call 8; (with_reducible refine (AW.out).mono ?_); rintro e w1 ⟨rfl, q1⟩; have B1 := Lib.hid q1; clear q1))
  clear AW
  go_cut [4, 5, 6, 7, 8, 9, 10, 11, 12, 13, 14, 15] (fun _ _ _ _ _ _ _ _ _ _ _ _ wx => Below W.heap.size W wx)
  case first =>
    go_wp2_with fail
    go_loopw [4, 5, 6, 7] (fun l nw la i wr => ∃ (n last : Nat) (now : Int) (L : List Msg) (a : Option Addr) (c : Nat), n ≤ len ∧ n ≤ 50 ∧ i = .int .i64 n ∧ nw = .int .i64 now ∧ 0 ≤ now ∧ now ≤ 63 * n ∧ la = .int .u64 last ∧ last ≤ n ∧ l = .slice a L.length c ∧ RM W last L (.slice a L.length c) wr) (fun _ _ _ i _ => 50 - (intOf i).toNat)
    case atStart => exact ⟨0, 0, 0, [], none, 0, Nat.zero_le _, by omega, rfl, rfl, by omega, by omega, rfl, by omega, rfl, mowns_nil _ _, B1.out, inv_nil _⟩
    case round =>
      obtain ⟨n, last, now, L, a, c, hnl, hn50, rfl, rfl, hn0, hn1, rfl, hla, rfl, rm⟩ := hrel
      have hL40 : L.length ≤ 40 := rm.2.2.2.2
      by_cases hA : n < len
      · by_cases hB : n < 50
        · have hA' : (n : Int) < len := by omega
          have hB' : (n : Int) < 50 := by omega
          obtain ⟨b, off, ov, rfl, hb, hop, hid⟩ := hsl n hA
          have hat := hop.below rm.2.1 hb
          obtain ⟨kind, nn, size, ticks, raw, id, dest, body, att, due, dead⟩ := ov
          obtain ⟨c0, c1, c2, c3, c4, c5, c6, c7, c8, c9, c10⟩ := hat
          simp only at c0 c1 c2 c3 c4 c5 c6 c7 c8 c9 c10
          clear hop hid hb B1
          obtain ⟨dt, hdt⟩ : ∃ dt, bits .and .i64 ticks 63 = dt := ⟨_, rfl⟩
          have hd : dt = ticks % 64 := by rw [← hdt]; exact i64_mask ticks 6 (by omega)
          have hd0 : 0 ≤ dt := by omega
          have hd1 : dt ≤ 63 := by omega
          obtain ⟨kk, hkk⟩ : ∃ kk, bits .and .i64 kind 7 = kk := ⟨_, rfl⟩
          obtain ⟨rr, hrr⟩ : ∃ rr, bits .and .i64 nn 15 = rr := ⟨_, rfl⟩
          have hr : rr = nn % 16 := by rw [← hrr]; exact i64_mask nn 4 (by omega)
          have hr0 : 0 ≤ rr := by omega
          have hr1 : rr ≤ 15 := by omega
          clear hd hr hsl
          have RMH := Lib.hid rm
          clear rm
          by_cases h4 : 4 ≤ kk
          · as_aux_lemma =>
              have FL : Hid (∀ ix tm : Int, 0 ≤ ix → Calls Tryd.prog 9 #[.slice a L.length c, .int .u64 ix, .int .i64 tm] (wr.alloc (.cells #[.int .i64 kind, .int .i64 nn, .int .i64 size, .int .i64 ticks, .bool raw, .int .u64 id, .string dest, .string body, .int .i64 att, .int .i64 due, .bool dead] 29)) fun e w' => ∃ (a : Option Addr) (c : Nat) (L' : List Msg) (er : Int), e = .returned (.tuple #[.slice a L'.length c, .int .i64 er]) ∧ RM W last L' (.slice a L'.length c) w' ∧ Below (wr.alloc (.cells #[.int .i64 kind, .int .i64 nn, .int .i64 size, .int .i64 ticks, .bool raw, .int .u64 id, .string dest, .string body, .int .i64 att, .int .i64 due, .bool dead] 29)).heap.size (wr.alloc (.cells #[.int .i64 kind, .int .i64 nn, .int .i64 size, .int .i64 ticks, .bool raw, .int .u64 id, .string dest, .string body, .int .i64 att, .int .i64 due, .bool dead] 29)) w') := Lib.hid (fun ix tm h => rm_failed (RMH.out.later ((Below.refl _ _).alloc (Nat.le_refl _) _)) ix tm h)
              go_wp2_with ((go_at_call 9; (with_reducible refine (FL.out _ _ (u64_nn _)).mono ?_); rintro e w5 ⟨a5, k5, L5, er, rfl, r5, _⟩; have RM5 := Lib.hid r5; clear r5))
              obtain ⟨la5, hla5, hla5'⟩ : ∃ la5, la5 = last ∧ la5 ≤ n + 1 := ⟨last, rfl, by omega⟩
              rw [← hla5] at RM5 ⊢
              clear hla5 FL
              have hL5 : L5.length ≤ 40 := RM5.out.2.2.2.2
              clear RMH c0 c1 c2 c3 c4 c5 c6 c7 c8 c9 c10
              go_loop [14, 15] (fun lt k => ∃ j : Nat, j ≤ L5.length ∧ k = .int .i64 j ∧ lt = .int .i64 (((L5.take j).filter (lateB (now + dt))).length : Nat)) (fun _ k => L5.length - (intOf k).toNat)
              case atStart => exact ⟨0, Nat.zero_le _, rfl, by simp⟩
              case round =>
                obtain ⟨j, hj, rfl, rfl⟩ := hrel
                have hle := List.length_filter_le (lateB (now + dt)) (L5.take j)
                rw [List.length_take] at hle
                by_cases hjl : j < L5.length
                · have hjl' : (j : Int) < L5.length := by omega
                  obtain ⟨g, rfl, _, _, _, _, _, _, m4, m5⟩ := RM5.out.1.six j hjl
                  have HT := Lib.hid (take_filter (p := lateB (now + dt)) hjl)
                  obtain ⟨x, hx⟩ : ∃ x, L5[j]?.getD noMsg = x := ⟨_, rfl⟩
                  rw [hx] at m4 m5 HT
                  clear hx
                  obtain ⟨q, hq⟩ : ∃ q, ((L5.take j).filter (lateB (now + dt))).length = q := ⟨_, rfl⟩
                  have HQ := Lib.hid hq
                  rw [hq] at hle ⊢
                  clear hq
                  cases hd : x.dead
                  · rw [hd] at m5
                    by_cases hdu : now + dt < x.due
                    · have HP : Hid (lateB (now + dt) x = true) := Lib.hid (by unfold lateB; rw [hd]; simpa using hdu)
                      clear hd
                      go_wp2_with fail
                      go_round
                      case rel => exact ⟨j + 1, by omega, by go_num, by rw [HT.out, HP.out, List.length_append, HQ.out]; simp⟩
                      case measure => simp [intOf]; omega
                    · have HP : Hid (lateB (now + dt) x = false) := Lib.hid (by unfold lateB; rw [hd]; simpa using hdu)
                      have hdd : decide (now + dt < x.due) = false := by simpa using hdu
                      clear hd
                      go_wp2_with fail
                      go_round
                      case rel => exact ⟨j + 1, by omega, by go_num, by rw [HT.out, HP.out, List.length_append, HQ.out]; simp⟩
                      case measure => simp [intOf]; omega
                  · rw [hd] at m5
                    have HP : Hid (lateB (now + dt) x = false) := Lib.hid (by unfold lateB; rw [hd]; rfl)
                    clear hd
                    go_wp2_with fail
                    go_round
                    case rel => exact ⟨j + 1, by omega, by go_num, by rw [HT.out, HP.out, List.length_append, HQ.out]; simp⟩
                    case measure => simp [intOf]; omega
                · have hjl' : ¬ (j : Int) < L5.length := by omega
                  have htk : L5.take j = L5 := List.take_of_length_le (by omega)
                  rw [htk] at hle ⊢
                  have hcs := count_split (now + dt) L5
                  have DU := Lib.hid (rm_due RM5.out (now + dt))
                  obtain ⟨D, hD⟩ : ∃ D, (L5.filter (dueB (now + dt))).length = D := ⟨_, rfl⟩
                  obtain ⟨T, hT⟩ : ∃ T, (L5.filter (lateB (now + dt))).length = T := ⟨_, rfl⟩
                  obtain ⟨Fg, hF⟩ : ∃ Fg, (L5.filter alvB).length = Fg := ⟨_, rfl⟩
                  have hFl : Fg ≤ L5.length := by rw [← hF]; exact List.length_filter_le _ _
                  rw [hD, hT, hF] at hcs
                  rw [hD] at DU
                  rw [hT] at hle ⊢
                  have hsum : (D : Int) + T = Fg := by omega
                  have FG : Hid (∀ w : World, RM W la5 L5 (.slice a5 L5.length k5) w → Calls Tryd.prog 14 #[.slice a5 L5.length k5] w fun e w' => ∃ (a : Option Addr) (c : Nat), e = .returned (.slice a Fg c) ∧ RM W la5 L5 (.slice a5 L5.length k5) w') := Lib.hid (fun w h => (rm_forget h).mono fun e w' ⟨a, c, he, _, h2, _⟩ => ⟨a, c, by rw [he, hF], h2⟩)
                  have HS := Lib.hid hsum
                  clear hD hT hF hcs hle htk hjl
                  have hw := IntWalk.i64_in ((D : Int) + T) (by omega)
                  rw [hsum] at hw
                  clear hw
                  go_wp2_with (first
                    | (go_at_call 13; (with_reducible refine (DU.out).mono ?_); rintro e w6 ⟨a6, c6', rfl, _, r6, _⟩; have R6 := Lib.hid r6; clear r6)
                    | (go_at_call 14; (with_reducible refine (FG.out _ R6.out).mono ?_); rintro e w7 ⟨a7, c7', rfl, r7⟩; have R7 := Lib.hid r7; clear r7))
                  go_roundw
                  case rel => exact ⟨n + 1, la5, now + dt, L5, a5, k5, by omega, by omega, by go_num, rfl, by omega, by omega, rfl, by omega, rfl, R7.out⟩
                  case measure => simp [intOf]; omega
          · have h4' : ¬ 4 ≤ kk := h4
            have h4d : decide (4 ≤ kk) = false := by simpa using h4
            have hroom := room_any a L.length c hL40
            have MS : Hid (∀ w : World, Calls Tryd.prog 12 #[.int .u64 ((last : Int) + 1), .int .i64 5] w fun e w' => e = .returned (.agg #[.int .u64 ((last : Int) + 1), .string abcd, .string (xs 5), .int .i64 7, .int .i64 0, .bool true]) ∧ Below w.heap.size w w') := Lib.hid (fun w => by
              have h := message_any (last + 1) 5 5 (by omega) (by decide +kernel) w
              rw [msg_lit, show (((last + 1 : Nat)) : Int) = (last : Int) + 1 by omega] at h
              exact h)
            have PO : Hid (∀ w : World, Below (wr.alloc (.cells #[.int .i64 kind, .int .i64 nn, .int .i64 size, .int .i64 ticks, .bool raw, .int .u64 id, .string dest, .string body, .int .i64 att, .int .i64 due, .bool dead] 29)).heap.size (wr.alloc (.cells #[.int .i64 kind, .int .i64 nn, .int .i64 size, .int .i64 ticks, .bool raw, .int .u64 id, .string dest, .string body, .int .i64 att, .int .i64 due, .bool dead] 29)) w → Calls Tryd.prog 11 #[.slice a L.length c, .agg #[.int .u64 ((last : Int) + 1), .string abcd, .string (xs 5), .int .i64 7, .int .i64 0, .bool true], .int .i64 (now + dt)] w fun e w' => ∃ (a : Option Addr) (c last' : Nat) (L' : List Msg), e = .returned (.tuple #[.slice a L'.length c, .int .i64 (if L.length < 40 then 0 else 15)]) ∧ last' = (if L.length < 40 then last + 1 else last) ∧ RM W last' L' (.slice a L'.length c) w' ∧ Below w.heap.size w w') := Lib.hid (fun w b => rm_post ((RMH.out.later ((Below.refl _ _).alloc (Nat.le_refl _) _)).later b) HM.out (by omega) (now + dt) (by omega) (by omega) 5 (by omega) (by omega))
            have RO := Lib.hid hroom
            clear hroom

            by_cases hL : L.length < 40
            · as_aux_lemma =>
                have PO2 := PO.out
                simp only [hL, if_true] at PO2
                have PO := Lib.hid PO2
                clear PO2
                have hL' : (0 : Int) < 40 - (L.length : Int) := by omega
                have hl1 : (last : Int) + 1 = ((last + 1 : Nat) : Int) := by omega
                have HL1 := Lib.hid hl1
                clear hl1
                go_wp2_with (first
                  | (go_at_call 10; (with_reducible refine (RO.out _).mono ?_); rintro e w2 ⟨rfl, rfl⟩)
                  | (go_at_call 12; (with_reducible refine (MS.out _).mono ?_); rintro e w3 ⟨rfl, b3⟩; have B3 := Lib.hid b3; clear b3)
                  | (go_at_call 11; (refine (PO.out _ B3.out).mono ?_); rintro e w5 ⟨a5, k5, la5, L5, rfl, hla5, r5, _⟩; have RM5 := Lib.hid r5; clear r5))
                rw [HL1.out]
                rw [← hla5]
                have hla5' : la5 ≤ n + 1 := by omega
                clear hla5 PO MS RO HL1
                have hL5 : L5.length ≤ 40 := RM5.out.2.2.2.2
                clear RMH c0 c1 c2 c3 c4 c5 c6 c7 c8 c9 c10
                go_loop [14, 15] (fun lt k => ∃ j : Nat, j ≤ L5.length ∧ k = .int .i64 j ∧ lt = .int .i64 (((L5.take j).filter (lateB (now + dt))).length : Nat)) (fun _ k => L5.length - (intOf k).toNat)
                case atStart => exact ⟨0, Nat.zero_le _, rfl, by simp⟩
                case round =>
                  obtain ⟨j, hj, rfl, rfl⟩ := hrel
                  have hle := List.length_filter_le (lateB (now + dt)) (L5.take j)
                  rw [List.length_take] at hle
                  by_cases hjl : j < L5.length
                  · have hjl' : (j : Int) < L5.length := by omega
                    obtain ⟨g, rfl, _, _, _, _, _, _, m4, m5⟩ := RM5.out.1.six j hjl
                    have HT := Lib.hid (take_filter (p := lateB (now + dt)) hjl)
                    obtain ⟨x, hx⟩ : ∃ x, L5[j]?.getD noMsg = x := ⟨_, rfl⟩
                    rw [hx] at m4 m5 HT
                    clear hx
                    obtain ⟨q, hq⟩ : ∃ q, ((L5.take j).filter (lateB (now + dt))).length = q := ⟨_, rfl⟩
                    have HQ := Lib.hid hq
                    rw [hq] at hle ⊢
                    clear hq
                    cases hd : x.dead
                    · rw [hd] at m5
                      by_cases hdu : now + dt < x.due
                      · have HP : Hid (lateB (now + dt) x = true) := Lib.hid (by unfold lateB; rw [hd]; simpa using hdu)
                        clear hd
                        go_wp2_with fail
                        go_round
                        case rel => exact ⟨j + 1, by omega, by go_num, by rw [HT.out, HP.out, List.length_append, HQ.out]; simp⟩
                        case measure => simp [intOf]; omega
                      · have HP : Hid (lateB (now + dt) x = false) := Lib.hid (by unfold lateB; rw [hd]; simpa using hdu)
                        have hdd : decide (now + dt < x.due) = false := by simpa using hdu
                        clear hd
                        go_wp2_with fail
                        go_round
                        case rel => exact ⟨j + 1, by omega, by go_num, by rw [HT.out, HP.out, List.length_append, HQ.out]; simp⟩
                        case measure => simp [intOf]; omega
                    · rw [hd] at m5
                      have HP : Hid (lateB (now + dt) x = false) := Lib.hid (by unfold lateB; rw [hd]; rfl)
                      clear hd
                      go_wp2_with fail
                      go_round
                      case rel => exact ⟨j + 1, by omega, by go_num, by rw [HT.out, HP.out, List.length_append, HQ.out]; simp⟩
                      case measure => simp [intOf]; omega
                  · have hjl' : ¬ (j : Int) < L5.length := by omega
                    have htk : L5.take j = L5 := List.take_of_length_le (by omega)
                    rw [htk] at hle ⊢
                    have hcs := count_split (now + dt) L5
                    have DU := Lib.hid (rm_due RM5.out (now + dt))
                    obtain ⟨D, hD⟩ : ∃ D, (L5.filter (dueB (now + dt))).length = D := ⟨_, rfl⟩
                    obtain ⟨T, hT⟩ : ∃ T, (L5.filter (lateB (now + dt))).length = T := ⟨_, rfl⟩
                    obtain ⟨Fg, hF⟩ : ∃ Fg, (L5.filter alvB).length = Fg := ⟨_, rfl⟩
                    have hFl : Fg ≤ L5.length := by rw [← hF]; exact List.length_filter_le _ _
                    rw [hD, hT, hF] at hcs
                    rw [hD] at DU
                    rw [hT] at hle ⊢
                    have hsum : (D : Int) + T = Fg := by omega
                    have FG : Hid (∀ w : World, RM W la5 L5 (.slice a5 L5.length k5) w → Calls Tryd.prog 14 #[.slice a5 L5.length k5] w fun e w' => ∃ (a : Option Addr) (c : Nat), e = .returned (.slice a Fg c) ∧ RM W la5 L5 (.slice a5 L5.length k5) w') := Lib.hid (fun w h => (rm_forget h).mono fun e w' ⟨a, c, he, _, h2, _⟩ => ⟨a, c, by rw [he, hF], h2⟩)
                    have HS := Lib.hid hsum
                    clear hD hT hF hcs hle htk hjl
                    have hw := IntWalk.i64_in ((D : Int) + T) (by omega)
                    rw [hsum] at hw
                    clear hw
                    go_wp2_with (first
                      | (go_at_call 13; (with_reducible refine (DU.out).mono ?_); rintro e w6 ⟨a6, c6', rfl, _, r6, _⟩; have R6 := Lib.hid r6; clear r6)
                      | (go_at_call 14; (with_reducible refine (FG.out _ R6.out).mono ?_); rintro e w7 ⟨a7, c7', rfl, r7⟩; have R7 := Lib.hid r7; clear r7))
                    go_roundw
                    case rel => exact ⟨n + 1, la5, now + dt, L5, a5, k5, by omega, by omega, by go_num, rfl, by omega, by omega, rfl, by omega, rfl, R7.out⟩
                    case measure => simp [intOf]; omega
            · as_aux_lemma =>
                have PO2 := PO.out
                simp only [hL, if_false] at PO2
                have PO := Lib.hid PO2
                clear PO2
                have hL' : ¬ (0 : Int) < 40 - (L.length : Int) := by omega
                have hLd : decide ((0 : Int) < 40 - (L.length : Int)) = false := by simpa using hL'
                go_wp2_with (first
                  | (go_at_call 10; (with_reducible refine (RO.out _).mono ?_); rintro e w2 ⟨rfl, rfl⟩)
                  | (go_at_call 12; (with_reducible refine (MS.out _).mono ?_); rintro e w3 ⟨rfl, b3⟩; have B3 := Lib.hid b3; clear b3)
                  | (go_at_call 11; (refine (PO.out _ B3.out).mono ?_); rintro e w5 ⟨a5, k5, la5, L5, rfl, hla5, r5, _⟩; have RM5 := Lib.hid r5; clear r5))
                rw [← hla5]
                have hla5' : la5 ≤ n + 1 := by omega
                clear hla5 PO MS RO
                have hL5 : L5.length ≤ 40 := RM5.out.2.2.2.2
                clear RMH c0 c1 c2 c3 c4 c5 c6 c7 c8 c9 c10
                go_loop [14, 15] (fun lt k => ∃ j : Nat, j ≤ L5.length ∧ k = .int .i64 j ∧ lt = .int .i64 (((L5.take j).filter (lateB (now + dt))).length : Nat)) (fun _ k => L5.length - (intOf k).toNat)
                case atStart => exact ⟨0, Nat.zero_le _, rfl, by simp⟩
                case round =>
                  obtain ⟨j, hj, rfl, rfl⟩ := hrel
                  have hle := List.length_filter_le (lateB (now + dt)) (L5.take j)
                  rw [List.length_take] at hle
                  by_cases hjl : j < L5.length
                  · have hjl' : (j : Int) < L5.length := by omega
                    obtain ⟨g, rfl, _, _, _, _, _, _, m4, m5⟩ := RM5.out.1.six j hjl
                    have HT := Lib.hid (take_filter (p := lateB (now + dt)) hjl)
                    obtain ⟨x, hx⟩ : ∃ x, L5[j]?.getD noMsg = x := ⟨_, rfl⟩
                    rw [hx] at m4 m5 HT
                    clear hx
                    obtain ⟨q, hq⟩ : ∃ q, ((L5.take j).filter (lateB (now + dt))).length = q := ⟨_, rfl⟩
                    have HQ := Lib.hid hq
                    rw [hq] at hle ⊢
                    clear hq
                    cases hd : x.dead
                    · rw [hd] at m5
                      by_cases hdu : now + dt < x.due
                      · have HP : Hid (lateB (now + dt) x = true) := Lib.hid (by unfold lateB; rw [hd]; simpa using hdu)
                        clear hd
                        go_wp2_with fail
                        go_round
                        case rel => exact ⟨j + 1, by omega, by go_num, by rw [HT.out, HP.out, List.length_append, HQ.out]; simp⟩
                        case measure => simp [intOf]; omega
                      · have HP : Hid (lateB (now + dt) x = false) := Lib.hid (by unfold lateB; rw [hd]; simpa using hdu)
                        have hdd : decide (now + dt < x.due) = false := by simpa using hdu
                        clear hd
                        go_wp2_with fail
                        go_round
                        case rel => exact ⟨j + 1, by omega, by go_num, by rw [HT.out, HP.out, List.length_append, HQ.out]; simp⟩
                        case measure => simp [intOf]; omega
                    · rw [hd] at m5
                      have HP : Hid (lateB (now + dt) x = false) := Lib.hid (by unfold lateB; rw [hd]; rfl)
                      clear hd
                      go_wp2_with fail
                      go_round
                      case rel => exact ⟨j + 1, by omega, by go_num, by rw [HT.out, HP.out, List.length_append, HQ.out]; simp⟩
                      case measure => simp [intOf]; omega
                  · have hjl' : ¬ (j : Int) < L5.length := by omega
                    have htk : L5.take j = L5 := List.take_of_length_le (by omega)
                    rw [htk] at hle ⊢
                    have hcs := count_split (now + dt) L5
                    have DU := Lib.hid (rm_due RM5.out (now + dt))
                    obtain ⟨D, hD⟩ : ∃ D, (L5.filter (dueB (now + dt))).length = D := ⟨_, rfl⟩
                    obtain ⟨T, hT⟩ : ∃ T, (L5.filter (lateB (now + dt))).length = T := ⟨_, rfl⟩
                    obtain ⟨Fg, hF⟩ : ∃ Fg, (L5.filter alvB).length = Fg := ⟨_, rfl⟩
                    have hFl : Fg ≤ L5.length := by rw [← hF]; exact List.length_filter_le _ _
                    rw [hD, hT, hF] at hcs
                    rw [hD] at DU
                    rw [hT] at hle ⊢
                    have hsum : (D : Int) + T = Fg := by omega
                    have FG : Hid (∀ w : World, RM W la5 L5 (.slice a5 L5.length k5) w → Calls Tryd.prog 14 #[.slice a5 L5.length k5] w fun e w' => ∃ (a : Option Addr) (c : Nat), e = .returned (.slice a Fg c) ∧ RM W la5 L5 (.slice a5 L5.length k5) w') := Lib.hid (fun w h => (rm_forget h).mono fun e w' ⟨a, c, he, _, h2, _⟩ => ⟨a, c, by rw [he, hF], h2⟩)
                    have HS := Lib.hid hsum
                    clear hD hT hF hcs hle htk hjl
                    have hw := IntWalk.i64_in ((D : Int) + T) (by omega)
                    rw [hsum] at hw
                    clear hw
                    go_wp2_with (first
                      | (go_at_call 13; (with_reducible refine (DU.out).mono ?_); rintro e w6 ⟨a6, c6', rfl, _, r6, _⟩; have R6 := Lib.hid r6; clear r6)
                      | (go_at_call 14; (with_reducible refine (FG.out _ R6.out).mono ?_); rintro e w7 ⟨a7, c7', rfl, r7⟩; have R7 := Lib.hid r7; clear r7))
                    go_roundw
                    case rel => exact ⟨n + 1, la5, now + dt, L5, a5, k5, by omega, by omega, by go_num, rfl, by omega, by omega, rfl, by omega, rfl, R7.out⟩
                    case measure => simp [intOf]; omega
        · have hA' : (n : Int) < len := by omega
          have hB' : ¬ ((n : Int) < 50) := by omega
          have LL := Lib.hid rm.2.1
          clear rm
          go_wp2_with fail
          go_meet
          case rel => exact LL.out
      · have hA' : ¬ ((n : Int) < len) := by omega
        have LL := Lib.hid rm.2.1
        clear rm
        go_wp2_with fail
        go_meet
        case rel => exact LL.out
  case rest =>
    have LL := Lib.hid hcut
    clear hcut B1
    go_wp2_with fail
    go_ret
    exact ⟨rfl, LL.out⟩
end Go.Proofs.YtleobnfmbhobgaaDoor
