/- CarrierLasts: the walk over its loop. -/
import Derived.Test.YtdoghnpmbpomcaaLasP
import Derived.Test.YtdoghnpmbpomcaaOrdR
import Derived.Deep.DeepCutAuto
import Derived.Deep.CutBlock
import Derived.Deep.QuietTactic
namespace Go.Proofs.Ytdoghnpmbpomcaa
open Go.RowKit Go.Maps

set_option maxHeartbeats 8000000 in
set_option maxRecDepth 100000 in
theorem lasts_walk (a0 : Option Addr) (len cap : Nat) (pfx : ByteArray) (W : World)
    (hsl : ∀ i, i < len → ∃ b off o, a0 = some ⟨b, off, none⟩ ∧ b < W.heap.size ∧ OpAt W b (off + i * 10) o ∧ o.id < 2 ^ 64) :
    Calls Try.prog 5 #[.slice a0 len cap, .string pfx] W fun e W' => e = .returned (.bool true) ∧ Below W.heap.size W W' := by
  have AW := Lib.hid (awake_any W)
  have SH : Hid (∀ w : World, Calls Try.prog 16 #[.string pfx, .int .i64 3] w fun e w' => e = .returned (.string (cut pfx 3)) ∧ w' = w) := Lib.hid (fun w => short_any pfx 3 (by omega) w)
  obtain ⟨pp, hpp⟩ : ∃ pp, cut pfx 3 = pp := ⟨_, rfl⟩
  have hps : pp.size ≤ 3 := by rw [← hpp]; exact cut_size _ _
  simp only [hpp] at SH
  clear hpp
  go_enter Try.func5, Try.ntmps5
  go_upto_block 0 with (first
    | (go_at_call 8; (with_reducible refine (AW.out).mono ?_); rintro e w1 ⟨rfl, q1⟩; have NW := Lib.hid (new_og W w1 q1); clear q1)
    | (go_at_call 9; (with_reducible refine (NW.out).mono ?_); rintro e w2 ⟨rfl, ⟨G0, q2⟩⟩; have L2 := Lib.hid q2; clear q2)
    | (go_at_call 16; (with_reducible refine (SH.out _).mono ?_); rintro e w3 ⟨rfl, rfl⟩))
  clear NW AW SH
  go_cut [7, 8, 9, 10, 11, 12, 13, 14, 15, 16] (fun _ _ _ _ _ _ _ _ _ _ wx => Below W.heap.size W wx)
  case first =>
    go_wp2_with fail
    go_loopw [7, 8] (fun nw i wr => ∃ (n : Nat) (now : Int) (G : ByteArray → List Ltr), n ≤ len ∧ i = .int .i64 n ∧ nw = .int .i64 now ∧ 0 ≤ now ∧ now ≤ 31 * n ∧ OG W w1.heap.size n [] G wr) (fun _ i _ => 40 - (intOf i).toNat)
    case atStart => exact ⟨0, 0, _, Nat.zero_le _, rfl, rfl, by omega, by omega, L2.out⟩
    case round =>
      obtain ⟨n, now, G, hnl, rfl, rfl, hn0, hn1, lr⟩ := hrel
      by_cases hA : n < len
      · by_cases hB : n < 40
        · have hA' : (n : Int) < len := by omega
          have hB' : (n : Int) < 40 := by omega
          obtain ⟨b, off, ov, rfl, hb, hop, hid⟩ := hsl n hA
          have hat := hop.below lr.bel.1 hb
          obtain ⟨id, dest, body, att, due, dead, kind, ticks, t2, near⟩ := ov
          obtain ⟨c0, c1, c2, c3, c4, c5, c6, c7, c8, c9⟩ := hat
          simp only at c0 c1 c2 c3 c4 c5 c6 c7 c8 c9 hid
          obtain ⟨dt, hdt⟩ : ∃ dt, bits .and .i64 t2 31 = dt := ⟨_, rfl⟩
          have hd : dt = t2 % 32 := by rw [← hdt, i64_and31]
          have hd0 : 0 ≤ dt := by omega
          have hd1 : dt ≤ 31 := by omega
          clear hd hop L2
          have LL := Lib.hid lr
          clear lr
          obtain ⟨kk, hkk⟩ : ∃ kk, bits .and .i64 kind 7 = kk := ⟨_, rfl⟩
          obtain ⟨tt, htt⟩ : ∃ tt, bits .and .i64 ticks 63 = tt := ⟨_, rfl⟩
          obtain ⟨dd, hdd⟩ : ∃ dd, cut dest 20 = dd := ⟨_, rfl⟩
          obtain ⟨bb, hbb⟩ : ∃ bb, cut body 20 = bb := ⟨_, rfl⟩
          have hbb0 := hbb
          have hds : dd.size ≤ 20 := by rw [← hdd]; exact cut_size _ _
          have ST := fun w => step_any id att due kind ticks t2 dest body dead w
          simp only [hkk, htt, hdd, hbb] at ST
          have ST := Lib.hid ST
          clear hkk htt hdd hbb
          have hbs : bb.size ≤ 20 := by rw [← hbb0]; exact cut_size _ _
          have hcat : ¬ 9223372036854775807 < pp.size + bb.size := by omega
          clear hbb0
          have HS := Lib.hid (fun (w6 : World) (kp : List (Nat × Obj)) (o : OG W w1.heap.size n kp G w6) => og_hand o (by omega) (now + dt) id hid dd (pp ++ bb) hds att due kk tt dead)
          have LS := Lib.hid (fun (w6 : World) (m : Nat) (kp : List (Nat × Obj)) (o : OG W w1.heap.size m kp G w6) => og_last o dd pp hds)
          have hLn := @lastB_len (G dd) pp
          have BS := Lib.hid (fun (w6 : World) (kp : List (Nat × Obj)) (o : OG W w1.heap.size (n + 1) kp G w6) => lasts_box o dd pp hds)
          obtain ⟨T, hT⟩ : ∃ T, lastT (G dd) pp = T := ⟨_, rfl⟩
          obtain ⟨m, hm⟩ : ∃ m, (G dd).length = m := ⟨_, rfl⟩
          have hml : m ≤ 1000 := by rw [← hm]; exact LL.out.len dd
          simp only [hT, hm] at LS BS hLn
          clear hT hm
          cases hK : hTaken kk
          · rw [hK] at HS
            clear hK hLn BS
            go_wp2_with (first
              | (go_at_call 10; (with_reducible refine (ST.out _).mono ?_); rintro e w5 ⟨rfl, g5⟩; have O5 := Lib.hid (og_step LL.out g5 (.cells #[.int .u64 id, .string dd, .string (pp ++ bb), .int .i64 att, .int .i64 due, .bool dead] 28) (.cells #[.int .i64 kk, .int .i64 tt] 30)); have LA := Lib.hid (LS.out _ _ _ O5.out); clear g5 O5)
              | (go_at_call 17; (with_reducible refine (LA.out).mono ?_); rintro e w6 ⟨rfl, o6⟩; obtain ⟨⟨m0, m1, m2, m3, m4, m5⟩, x0, x1⟩ := o6.six; have HA := Lib.hid (HS.out _ _ o6); clear o6 LA)
              | (go_at_call 11; (with_reducible refine (HA.out).mono ?_); rintro e w7 ⟨rfl, o7⟩; obtain ⟨⟨k0, k1, k2, k3, k4, k5⟩, y0, y1⟩ := o7.six; have AR := Lib.hid (og_arrive o7 (now + dt)); clear o7 HA)
              | (go_at_call 12; (with_reducible refine (AR.out).mono ?_); rintro e w8 ⟨⟨kq, rfl⟩, G', o8⟩; have O8 := Lib.hid o8; clear o8 AR))
            go_roundw
            case rel => exact ⟨n + 1, now + dt, _, by omega, by go_num, rfl, by omega, by omega, O8.out⟩
            case measure => simp [intOf]; omega
          · rw [hK] at HS
            clear hK
            cases hB2 : lastB (G dd) pp
            · simp only [hB2] at LS
              clear hB2 hLn
              go_wp2_with (first
                | (go_at_call 10; (with_reducible refine (ST.out _).mono ?_); rintro e w5 ⟨rfl, g5⟩; have O5 := Lib.hid (og_step LL.out g5 (.cells #[.int .u64 id, .string dd, .string (pp ++ bb), .int .i64 att, .int .i64 due, .bool dead] 28) (.cells #[.int .i64 kk, .int .i64 tt] 30)); have LA := Lib.hid (LS.out _ _ _ O5.out); clear g5 O5)
                | (go_at_call 17; (with_reducible refine (LA.out).mono ?_); rintro e w6 ⟨rfl, o6⟩; obtain ⟨⟨m0, m1, m2, m3, m4, m5⟩, x0, x1⟩ := o6.six; have HA := Lib.hid (HS.out _ _ o6); clear o6 LA)
                | (go_at_call 11; (with_reducible refine (HA.out).mono ?_); rintro e w7 ⟨rfl, o7⟩; obtain ⟨⟨k0, k1, k2, k3, k4, k5⟩, y0, y1⟩ := o7.six; have LB := Lib.hid (LS.out _ _ _ o7); clear o7 HA)
                | (go_at_call 17; (with_reducible refine (LB.out).mono ?_); rintro e w8 ⟨rfl, o8⟩; obtain ⟨⟨l0, l1, l2, l3, l4, l5⟩, z0, z1⟩ := o8.six; have BX := Lib.hid (BS.out _ _ o8); clear o8 LB)
                | (go_at_call 14; (with_reducible refine (BX.out).mono ?_); rintro e w9 ⟨a9, c9', rfl, r9, o9⟩; have O8 := Lib.hid o9; clear o9 BX; clear r9))
              go_roundw
              case rel => exact ⟨n + 1, now + dt, _, by omega, by go_num, rfl, by omega, by omega, O8.out⟩
              case measure => simp [intOf]; omega
            · have hm0 := hLn hB2
              simp only [hB2] at LS
              clear hB2 hLn
              have hmz : ((m : Int) == 0) = false := by simp; omega
              have hw1 : IntKind.i64.wrap ((m : Int) - 1) = (m : Int) - 1 := by rw [IntKind.wrap_i64] <;> omega
              have hb1 : (0 : Int) ≤ (m : Int) - 1 := by omega
              have hb2 : (m : Int) - 1 < m := by omega
              have htn : ((m : Int) - 1).toNat = m - 1 := by omega
              by_cases hpe : pp = ⟨#[]⟩
              · have hpe2 : pp.toList.isEmpty = true := by rw [hpe, ByteArray.toList_eq]; rfl
                have HP := Lib.hid hpe
                clear hpe
                go_wp2_with (first
                  | (go_at_call 10; (with_reducible refine (ST.out _).mono ?_); rintro e w5 ⟨rfl, g5⟩; have O5 := Lib.hid (og_step LL.out g5 (.cells #[.int .u64 id, .string dd, .string (pp ++ bb), .int .i64 att, .int .i64 due, .bool dead] 28) (.cells #[.int .i64 kk, .int .i64 tt] 30)); have LA := Lib.hid (LS.out _ _ _ O5.out); clear g5 O5)
                  | (go_at_call 17; (with_reducible refine (LA.out).mono ?_); rintro e w6 ⟨rfl, o6⟩; obtain ⟨⟨m0, m1, m2, m3, m4, m5⟩, x0, x1⟩ := o6.six; have HA := Lib.hid (HS.out _ _ o6); clear o6 LA)
                  | (go_at_call 11; (with_reducible refine (HA.out).mono ?_); rintro e w7 ⟨rfl, o7⟩; obtain ⟨⟨k0, k1, k2, k3, k4, k5⟩, y0, y1⟩ := o7.six; have LB := Lib.hid (LS.out _ _ _ o7); clear o7 HA)
                  | (go_at_call 17; (with_reducible refine (LB.out).mono ?_); rintro e w8 ⟨rfl, o8⟩; obtain ⟨⟨l0, l1, l2, l3, l4, l5⟩, z0, z1⟩ := o8.six; have BX := Lib.hid (BS.out _ _ o8); clear o8 LB)
                  | (go_at_call 14; (with_reducible refine (BX.out).mono ?_); rintro e w9 ⟨a9, c9', rfl, r9, o9⟩; have O8 := Lib.hid o9; clear o9 BX; obtain ⟨g9, rfl, e9⟩ := r9 hm0; replace e9 := e9 HP.out; clear r9))
                go_roundw
                case rel => exact ⟨n + 1, now + dt, _, by omega, by go_num, rfl, by omega, by omega, O8.out⟩
                case measure => simp [intOf]; omega
              · have hpe2 : pp.toList.isEmpty = false := toList_nonempty hpe
                clear hpe
                go_wp2_with (first
                  | (go_at_call 10; (with_reducible refine (ST.out _).mono ?_); rintro e w5 ⟨rfl, g5⟩; have O5 := Lib.hid (og_step LL.out g5 (.cells #[.int .u64 id, .string dd, .string (pp ++ bb), .int .i64 att, .int .i64 due, .bool dead] 28) (.cells #[.int .i64 kk, .int .i64 tt] 30)); have LA := Lib.hid (LS.out _ _ _ O5.out); clear g5 O5)
                  | (go_at_call 17; (with_reducible refine (LA.out).mono ?_); rintro e w6 ⟨rfl, o6⟩; obtain ⟨⟨m0, m1, m2, m3, m4, m5⟩, x0, x1⟩ := o6.six; have HA := Lib.hid (HS.out _ _ o6); clear o6 LA)
                  | (go_at_call 11; (with_reducible refine (HA.out).mono ?_); rintro e w7 ⟨rfl, o7⟩; obtain ⟨⟨k0, k1, k2, k3, k4, k5⟩, y0, y1⟩ := o7.six; have LB := Lib.hid (LS.out _ _ _ o7); clear o7 HA)
                  | (go_at_call 17; (with_reducible refine (LB.out).mono ?_); rintro e w8 ⟨rfl, o8⟩; obtain ⟨⟨l0, l1, l2, l3, l4, l5⟩, z0, z1⟩ := o8.six; have BX := Lib.hid (BS.out _ _ o8); clear o8 LB)
                  | (go_at_call 14; (with_reducible refine (BX.out).mono ?_); rintro e w9 ⟨a9, c9', rfl, r9, o9⟩; have O8 := Lib.hid o9; clear o9 BX; clear r9))
                go_roundw
                case rel => exact ⟨n + 1, now + dt, _, by omega, by go_num, rfl, by omega, by omega, O8.out⟩
                case measure => simp [intOf]; omega
        · have hA' : (n : Int) < len := by omega
          have hB' : ¬ ((n : Int) < 40) := by omega
          have LL := Lib.hid lr.bel.1
          clear lr
          go_wp2_with fail
          go_meet
          case rel => exact LL.out
      · have hA' : ¬ ((n : Int) < len) := by omega
        have LL := Lib.hid lr.bel.1
        clear lr
        go_wp2_with fail
        go_meet
        case rel => exact LL.out
  case rest =>
    have LL := Lib.hid hcut
    clear hcut L2
    go_wp2_with fail
    go_ret
    exact ⟨rfl, LL.out⟩
end Go.Proofs.Ytdoghnpmbpomcaa
