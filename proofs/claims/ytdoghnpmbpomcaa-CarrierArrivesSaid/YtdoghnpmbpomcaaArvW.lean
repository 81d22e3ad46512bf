/- CarrierArrives: the walk over its loops. -/
import Derived.Test.YtdoghnpmbpomcaaArvL
namespace Go.Proofs.Ytdoghnpmbpomcaa
open Go.RowKit Go.Maps

theorem row_at {h : Nat} {S : Nat → Prop} {a : Option Addr} {c : Nat} {ws : List Int} {w : World} (i : WI h S (.slice a ws.length c) ws w) (j : Nat) (hj : j < ws.length) : ∃ g, a = some ⟨g, 0, none⟩ ∧ w.cell? ⟨g, j, none⟩ = some (.int .i64 (ws[j]?.getD 0)) := by
  rcases i.1.2 with ⟨e1, e2⟩ | ⟨g, cap, cur, e1, _⟩
  · omega
  · cases e1
    refine ⟨g, rfl, ?_⟩
    have h1 := World.ownsRow.cells i.1 (g := g) rfl j (.int .i64 (ws[j]?.getD 0)) (by simp [List.getElem?_eq_getElem hj])
    rwa [addP, Nat.zero_add] at h1

set_option maxHeartbeats 8000000 in
set_option maxRecDepth 100000 in
theorem arrives_walk (a0 : Option Addr) (len cap : Nat) (K T : Nat → Int) (W : World)
    (hsl : ∀ i, i < len → ∃ b off, a0 = some ⟨b, off, none⟩ ∧ b < W.heap.size ∧ W.cell? ⟨b, off + i * 2, none⟩ = some (.int .i64 (K i)) ∧ W.cell? ⟨b, off + i * 2 + 1, none⟩ = some (.int .i64 (T i))) :
    Calls Try.prog 4 #[.slice a0 len cap] W fun e W' => e = .returned (.bool true) ∧ Below W.heap.size W W' := by
  have AW := Lib.hid (awake_any W)
  go_enter Try.func4, Try.ntmps4
  go_upto_block 0 with (first
    | (go_at_call 8; (with_reducible refine (AW.out).mono ?_); rintro e w1 ⟨rfl, q1⟩; have NW := Lib.hid (new_lr W w1 q1); clear q1)
    | (go_at_call 9; (with_reducible refine (NW.out).mono ?_); rintro e w2 ⟨rfl, q2⟩; have L2 := Lib.hid q2; clear q2))
  clear NW AW
  go_cut [5, 6, 7, 8, 9, 10] (fun s5 _ _ _ _ _ wx => ∃ n ws a5 c5, s5 = .slice a5 (List.length ws) c5 ∧ LR W w1.heap.size n 0 0 ws (.slice a5 ws.length c5) wx)
  case first =>
    go_wp2_with fail
    go_loopw [5, 6] (fun vw i wr => ∃ (n : Nat) (ws : List Int) (a5 : Option Addr) (c5 : Nat), n ≤ len ∧ i = .int .i64 n ∧ vw = .slice a5 ws.length c5 ∧ LR W w1.heap.size n 0 0 ws (.slice a5 ws.length c5) wr) (fun _ i _ => 30 - (intOf i).toNat)
    case atStart => exact ⟨0, [], none, 0, Nat.zero_le _, rfl, rfl, L2.out⟩
    case round =>
      obtain ⟨n, ws, a5, c5, hnl, rfl, rfl, lr⟩ := hrel
      have hn30 := lr.choose_spec.choose_spec.choose_spec.choose_spec.choose_spec.2.2.2.2
      by_cases hA : n < len
      · by_cases hB : n < 30
        · have hA' : (n : Int) < len := by omega
          have hB' : (n : Int) < 30 := by omega
          obtain ⟨b, off, rfl, hb, hK, hT⟩ := hsl n hA
          have bl : Below W.heap.size W wr := lr.choose_spec.choose_spec.choose_spec.choose_spec.choose_spec.2.2.1
          have cK : wr.cell? ⟨b, off + n * 2, none⟩ = some (.int .i64 (K n)) := (bl.cell (p := ⟨b, off + n * 2, none⟩) hb).trans hK
          have cT : wr.cell? ⟨b, off + n * 2 + 1, none⟩ = some (.int .i64 (T n)) := (bl.cell (p := ⟨b, off + n * 2 + 1, none⟩) hb).trans hT
          have k0 : wr.drew.cell? ⟨b, off + n * 2, none⟩ = some (.int .i64 (K n)) ∧ wr.drew.cell? ⟨b, off + n * 2 + 1, none⟩ = some (.int .i64 (T n)) := ⟨cK, cT⟩
          have k1 : ∀ o : Obj, (wr.alloc o).drew.cell? ⟨b, off + n * 2, none⟩ = some (.int .i64 (K n)) ∧ (wr.alloc o).drew.cell? ⟨b, off + n * 2 + 1, none⟩ = some (.int .i64 (T n)) := fun o => ⟨Lib.cell?_alloc_some _ cK, Lib.cell?_alloc_some _ cT⟩
          obtain ⟨kk, hkk⟩ : ∃ kk, bits .and .i64 (K n) 7 = kk := ⟨_, rfl⟩
          obtain ⟨tt, htt⟩ : ∃ tt, bits .and .i64 (T n) 63 = tt := ⟨_, rfl⟩
          have htm : tt = T n % 64 := by rw [← htt, i64_and63]
          have ht0 : 0 ≤ tt := by omega
          have ht1 : tt ≤ 63 := by omega
          clear bl cK cT hK hT htm L2
          by_cases e1 : kk = 1
          · subst e1
            have HA := Lib.hid (step_one lr hB 1 tt n ht0 ht1 rfl rfl)
            clear lr
            go_wp2_with fail
            go_region_held3 (fun w' => w'.cell? ⟨b, off + n * 2, none⟩ = some (.int .i64 (K n)) ∧ w'.cell? ⟨b, off + n * 2 + 1, none⟩ = some (.int .i64 (T n)))
              (first
                | exact k0
                | exact k1 _
                | go_keep)
              (first | fail)
            all_goals
              go_wp2_with (first
                | (go_at_call 11; (with_reducible refine (HA.out).mono ?_); rintro e w4 ⟨rfl, x0, x1, a6, c6, w6, ra, cn, q6⟩; have RA := Lib.hid ra; have CN := Lib.hid cn; have L6 := Lib.hid q6; clear ra cn q6)
                | (at_builtin; refine Lib.wpList_append_run _ rfl _ _ _ _ rfl _ _ rfl rfl _ _ RA.out ?_)
                | (go_at_call 15; (with_reducible refine (CN.out).mono ?_); rintro e wq ⟨rfl, rfl⟩))
              go_roundw
              case rel => exact ⟨n + 1, ws ++ [(n : Int)], a6, c6, by omega, by go_num, by simp, by simpa using L6.out⟩
              case measure => simp [intOf]; omega
          · by_cases e3 : kk = 3
            · subst e3
              have HA := Lib.hid (step_one lr hB 3 tt ((n : Int) + tt) ht0 ht1 rfl rfl)
              clear lr e1
              go_wp2_with fail
              go_region_held3 (fun w' => w'.cell? ⟨b, off + n * 2, none⟩ = some (.int .i64 (K n)) ∧ w'.cell? ⟨b, off + n * 2 + 1, none⟩ = some (.int .i64 (T n)))
                (first
                  | exact k0
                  | exact k1 _
                  | go_keep)
                (first | fail)
              all_goals
                go_wp2_with (first
                  | (go_at_call 11; (with_reducible refine (HA.out).mono ?_); rintro e w4 ⟨rfl, x0, x1, a6, c6, w6, ra, cn, q6⟩; have RA := Lib.hid ra; have CN := Lib.hid cn; have L6 := Lib.hid q6; clear ra cn q6)
                  | (at_builtin; refine Lib.wpList_append_run _ rfl _ _ _ _ rfl _ _ rfl rfl _ _ RA.out ?_)
                  | (go_at_call 15; (with_reducible refine (CN.out).mono ?_); rintro e wq ⟨rfl, rfl⟩))
                go_roundw
                case rel => exact ⟨n + 1, ws ++ [(n : Int) + tt], a6, c6, by omega, by go_num, by simp, by simpa using L6.out⟩
                case measure => simp [intOf]; omega
            · by_cases e4 : kk = 4
              · subst e4
                have HA := Lib.hid (step_two lr hB tt ht0 ht1)
                clear lr e1 e3
                go_wp2_with fail
                go_region_held3 (fun w' => w'.cell? ⟨b, off + n * 2, none⟩ = some (.int .i64 (K n)) ∧ w'.cell? ⟨b, off + n * 2 + 1, none⟩ = some (.int .i64 (T n)))
                  (first
                    | exact k0
                    | exact k1 _
                    | go_keep)
                  (first | fail)
                all_goals
                  go_wp2_with (first
                    | (go_at_call 11; (with_reducible refine (HA.out).mono ?_); rintro e w4 ⟨rfl, x0, x1, a6, c6, w6, ra, y0, y1, a7, c7, w7, rb, cn, q6⟩; have RA := Lib.hid ra; have RB := Lib.hid rb; have CN := Lib.hid cn; have L6 := Lib.hid q6; clear ra rb cn q6)
                    | (at_builtin; refine Lib.wpList_append_run _ rfl _ _ _ _ rfl _ _ rfl rfl _ _ RA.out ?_)
                    | (at_builtin; refine Lib.wpList_append_run _ rfl _ _ _ _ rfl _ _ rfl rfl _ _ RB.out ?_)
                    | (go_at_call 15; (with_reducible refine (CN.out).mono ?_); rintro e wq ⟨rfl, rfl⟩))
                  go_roundw
                  case rel => exact ⟨n + 1, ws ++ [(n : Int)] ++ [(n : Int) + tt], a7, c7, by omega, by go_num, by simp, by simpa using L6.out⟩
                  case measure => simp [intOf]; omega
              · have hno : hTaken kk = false := by simp [hTaken, e1, e3, e4]
                have f1 : (kk == 1) = false := by simpa using e1
                have f3 : (kk == 3) = false := by simpa using e3
                have f4 : (kk == 4) = false := by simpa using e4
                have HA := step_none lr hB kk tt ht0 ht1 (by simp [more, e1, e3, e4]) (by simp [cnt, e1, e3, e4])
                rw [hno] at HA
                have HA := Lib.hid HA
                clear lr hno
                go_wp2_with fail
                go_region_held3 (fun w' => w'.cell? ⟨b, off + n * 2, none⟩ = some (.int .i64 (K n)) ∧ w'.cell? ⟨b, off + n * 2 + 1, none⟩ = some (.int .i64 (T n)))
                  (first
                    | exact k0
                    | exact k1 _
                    | go_keep)
                  (first | fail)
                all_goals
                  go_wp2_with (first
                    | (go_at_call 11; (with_reducible refine (HA.out).mono ?_); rintro e w4 ⟨rfl, x0, x1, cn, q6⟩; have CN := Lib.hid cn; have L6 := Lib.hid q6; clear cn q6)
                    | (go_at_call 15; (with_reducible refine (CN.out).mono ?_); rintro e wq ⟨rfl, rfl⟩))
                  go_roundw
                  case rel => exact ⟨n + 1, ws, a5, c5, by omega, by go_num, rfl, L6.out⟩
                  case measure => simp [intOf]; omega
        · have hA' : (n : Int) < len := by omega
          have hB' : ¬ ((n : Int) < 30) := by omega
          have LL := Lib.hid lr
          clear lr
          go_wp2_with fail
          go_meet
          case rel => exact ⟨n, ws, a5, c5, rfl, LL.out⟩
      · have hA' : ¬ ((n : Int) < len) := by omega
        have LL := Lib.hid lr
        clear lr
        go_wp2_with fail
        go_meet
        case rel => exact ⟨n, ws, a5, c5, rfl, LL.out⟩
  case rest =>
    obtain ⟨n, ws, a5, c5, rfl, lr⟩ := hcut
    have LL := Lib.hid lr
    clear lr L2
    go_upto_block 2 with fail
    go_cut [11, 12, 13, 14] (fun s11 _ _ _ wx => s11 = .int .i64 ws.length ∧ LR W w1.heap.size n 100 ws.length ws (.slice a5 ws.length c5) wx)
    case first =>
      go_wp2_with fail
      go_loopw [11, 12] (fun hd nw wr => ∃ t had : Nat, t ≤ 100 ∧ hd = .int .i64 had ∧ nw = .int .i64 t ∧ LR W w1.heap.size n t had ws (.slice a5 ws.length c5) wr) (fun _ i _ => 100 - (intOf i).toNat)
      case atStart => exact ⟨0, 0, by omega, rfl, rfl, LL.out⟩
      case round =>
        obtain ⟨t, had, ht, rfl, rfl, lr⟩ := hrel
        by_cases hA : t < 100
        · have hA' : (t : Int) < 100 := by omega
          have LR0 := Lib.hid lr
          obtain ⟨S, N, us, G, C, ci, wi, bl, hh', _⟩ := lr
          have RW := Lib.hid (row_at wi)
          have h1 := ci.few
          have h2 := ci.sum
          have hwl : ws.length ≤ 60 := by omega
          have hhad : had ≤ 60 := by omega
          clear ci wi bl h1 h2
          go_wp2_with fail
          go_loop [13, 14] (fun c i => ∃ j m : Nat, j ≤ ws.length ∧ i = .int .i64 j ∧ c = .int .i64 m ∧ m = (ws.take j).count (t : Int)) (fun _ i => ws.length - (intOf i).toNat)
          case atStart => exact ⟨0, 0, Nat.zero_le _, rfl, rfl, by simp⟩
          case round =>
            obtain ⟨j, m, hj, rfl, rfl, hm⟩ := hrel
            have hmb : m ≤ 60 := by
              have h3 : (ws.take j).count (t : Int) ≤ (ws.take j).length := List.count_le_length
              rw [List.length_take] at h3
              omega
            by_cases hJ : j < ws.length
            · obtain ⟨g, rfl, hcell⟩ := RW.out j hJ
              have hJ' : (j : Int) < ws.length := by omega
              have hget : ws[j]? = some (ws[j]?.getD 0) := by simp [List.getElem?_eq_getElem hJ]
              have hsucc : (ws.take (j + 1)).count (t : Int) = m + (if ws[j]?.getD 0 = (t : Int) then 1 else 0) := by
                rw [List.take_add_one, List.count_append, ← hm, hget]
                simp [List.count_singleton]
              generalize ws[j]?.getD 0 = e at *
              by_cases hE : e = (t : Int)
              · subst hE
                have HS := Lib.hid hsucc
                clear hsucc hget
                go_wp2_with fail
                go_round
                case rel => exact ⟨j + 1, m + 1, by omega, by go_num, by go_num, by have := HS.out; simp at this; exact this.symm⟩
                case measure => simp [intOf]; omega
              · have HS := Lib.hid hsucc
                clear hsucc hget
                go_wp2_with fail
                go_round
                case rel => exact ⟨j + 1, m, by omega, by go_num, rfl, by have := HS.out; rw [if_neg hE] at this; exact this.symm⟩
                case measure => simp [intOf]; omega
            · have hjl : j = ws.length := by omega
              have hJ' : ¬ ((j : Int) < ws.length) := by omega
              have AR := arrive_lr LR0.out
              have hm2 : m = ws.count (t : Int) := by rw [hm, hjl, List.take_length]
              rw [← hm2] at AR
              have AR := Lib.hid AR
              have hc : ((had + m : Nat) : Int) = (had : Int) + (m : Int) := by omega
              have HM := Lib.hid hm
              clear hm hm2
              go_wp2_with (first
                | (go_at_call 12; (with_reducible refine (AR.out).mono ?_); rintro e w5 ⟨rfl, q5⟩; have BX := Lib.hid (box_lr q5); clear q5)
                | (go_at_call 14; (with_reducible refine (BX.out).mono ?_); rintro e w6 ⟨a6, c6, rfl, q6⟩; have L6 := Lib.hid q6; clear q6))
              go_roundw
              case rel => exact ⟨t + 1, had + m, by omega, by go_num, by go_num, by have := L6.out; rwa [show (t : Int) + 1 = ((t + 1 : Nat) : Int) from by omega] at this⟩
              case measure => simp [intOf]; omega
        · have ht1 : t = 100 := by omega
          subst ht1
          have hA' : ¬ (((100 : Nat) : Int) < 100) := by omega
          have hhad := (under_lr lr).1
          subst hhad
          have LL2 := Lib.hid lr
          clear lr
          go_wp2_with fail
          go_meet
          case rel => exact ⟨rfl, LL2.out⟩
    case rest =>
      obtain ⟨rfl, lr⟩ := hcut
      have UU := Lib.hid (under_lr lr).2
      clear lr
      go_wp2_with (go_at_call 13; (with_reducible refine (UU.out).mono ?_); rintro e w9 ⟨a9, c9, rfl, bl9⟩)
      go_ret
      exact ⟨rfl, bl9⟩
end Go.Proofs.Ytdoghnpmbpomcaa
