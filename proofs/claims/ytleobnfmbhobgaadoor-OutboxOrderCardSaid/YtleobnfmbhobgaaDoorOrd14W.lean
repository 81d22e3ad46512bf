/- OutboxOrder: the walk. -/
import Derived.Test.YtleobnfmbhobgaaDoorOrd14P
import Derived.Deep.DeepCutAuto
import Derived.Deep.CutBlock
namespace Go.Proofs.YtleobnfmbhobgaaDoor
open Go.RowKit Go.Maps

set_option maxHeartbeats 8000000 in
set_option maxRecDepth 100000 in
theorem ord14_walk (a0 : Option Addr) (len cap : Nat) (W : World) (hm : ML W)
    (hsl : ∀ i, i < len → ∃ b off o, a0 = some ⟨b, off, none⟩ ∧ b < W.heap.size ∧ OpAt W b (off + i * 11) o ∧ o.id < 2 ^ 64) :
    Calls Tryd.prog 7 #[.slice a0 len cap] W fun e W' => e = .returned (.bool true) ∧ Below W.heap.size W W' := by
  have AW := Lib.hid (awake_any W hm)
  have HM := Lib.hid hm
  clear hm
  go_enter Tryd.func7, Tryd.ntmps7
  go_upto_block 0 with ((go_at_call 8; (with_reducible refine (AW.out).mono ?_); rintro e w1 ⟨rfl, q1⟩; have B1 := Lib.hid q1; clear q1))
  clear AW
  go_cut [4, 5, 6, 7, 8, 9, 10, 11, 12, 13, 14, 15, 16, 17, 18, 19] (fun _ _ _ _ _ _ _ _ _ _ _ _ _ _ _ _ wx => Below W.heap.size W wx)
  case first =>
    go_wp2_with fail
    go_loopw [4, 5, 6, 7] (fun l nw la i wr => ∃ (n last : Nat) (now : Int) (L : List Msg) (a : Option Addr) (c : Nat), n ≤ len ∧ n ≤ 60 ∧ i = .int .i64 n ∧ nw = .int .i64 now ∧ 0 ≤ now ∧ now ≤ 63 * n ∧ la = .int .u64 last ∧ last ≤ n ∧ l = .slice a L.length c ∧ RM W last L (.slice a L.length c) wr) (fun _ _ _ i _ => 60 - (intOf i).toNat)
    case atStart => exact ⟨0, 0, 0, [], none, 0, Nat.zero_le _, by omega, rfl, rfl, by omega, by omega, rfl, by omega, rfl, mowns_nil _ _, B1.out, inv_nil _⟩
    case round =>
      obtain ⟨n, last, now, L, a, c, hnl, hn60, rfl, rfl, hn0, hn1, rfl, hla, rfl, rm⟩ := hrel
      have hL40 : L.length ≤ 40 := rm.2.2.2.2
      by_cases hA : n < len
      · by_cases hB : n < 60
        · have hA' : (n : Int) < len := by omega
          have hB' : (n : Int) < 60 := by omega
          obtain ⟨b, off, ov, rfl, hb, hop, hid⟩ := hsl n hA
          have hat := hop.below rm.2.1 hb
          obtain ⟨kind, nn, size, ticks, raw, id, dest, body, att, due, dead⟩ := ov
          obtain ⟨c0, c1, c2, c3, c4, c5, c6, c7, c8, c9, c10⟩ := hat
          simp only at c0 c1 c2 c3 c4 c5 c6 c7 c8 c9 c10
          clear hop hid hb B1
          obtain ⟨dt, hdt⟩ : ∃ dt, bits .and .i64 ticks 63 = dt := ⟨_, rfl⟩
          have hd : dt = ticks % 64 := by rw [← hdt]; exact i64_mask ticks 6 (by omega)
          have hd0 : 0 ≤ dt := by omega
          have hd1 : dt ≤ 63 := by omega
          obtain ⟨kk, hkk⟩ : ∃ kk, bits .and .i64 kind 7 = kk := ⟨_, rfl⟩
          obtain ⟨rr, hrr⟩ : ∃ rr, bits .and .i64 nn 15 = rr := ⟨_, rfl⟩
          have hr : rr = nn % 16 := by rw [← hrr]; exact i64_mask nn 4 (by omega)
          have hr0 : 0 ≤ rr := by omega
          have hr1 : rr ≤ 15 := by omega
          clear hd hr hsl
          have RMH := Lib.hid rm
          clear rm
          have RM1 : Hid (RM W last L (.slice a L.length c) (wr.alloc (.cells #[.int .i64 kind, .int .i64 nn, .int .i64 size, .int .i64 ticks, .bool raw, .int .u64 id, .string dest, .string body, .int .i64 att, .int .i64 due, .bool dead] 29))) := Lib.hid (RMH.out.later ((Below.refl _ _).alloc (Nat.le_refl _) _))
          go_upto_block 2 with fail
          go_cut [4, 6, 10, 11, 12, 13, 14, 15] (fun l la _ _ _ _ _ _ wx => ∃ (last5 : Nat) (L5 : List Msg) (a5 : Option Addr) (k5 : Nat), l = .slice a5 L5.length k5 ∧ la = .int .u64 last5 ∧ last5 ≤ n + 1 ∧ RM W last5 L5 (.slice a5 L5.length k5) wx)
          case first =>
            by_cases k3 : kk = 3
            · subst k3
              have FL := Lib.hid (fun ix hx => rm_taken RM1.out ix hx)
              go_wp2_with ((go_at_call 15; (with_reducible refine (FL.out _ (u64_nn _)).mono ?_); rintro e w5 ⟨a5, k5, L5, er, rfl, r5⟩; have R5 := Lib.hid r5; clear r5))
              go_meet
              case rel => exact ⟨last, L5, a5, k5, rfl, rfl, by omega, R5.out⟩
            · have e3 : (kk == 3) = false := by simpa using k3
              by_cases k7 : kk = 7
              · subst k7
                have FL := Lib.hid (rm_forget RM1.out)
                go_wp2_with ((go_at_call 14; (with_reducible refine (FL.out).mono ?_); rintro e w5 ⟨a5, k5, rfl, r5, _⟩; have R5 := Lib.hid r5; clear r5))
                go_meet
                case rel => exact ⟨last, L.filter alvB, a5, k5, rfl, rfl, by omega, R5.out⟩
              · have e7 : (kk == 7) = false := by simpa using k7
                by_cases k456 : kk = 4 ∨ kk = 5 ∨ kk = 6
                · have FL := Lib.hid (fun ix hx => rm_failed RM1.out ix (now + dt) hx)
                  clear e3 e7 k3 k7
                  rcases k456 with rfl | rfl | rfl
                  all_goals
                    go_wp2_with ((go_at_call 9; (with_reducible refine (FL.out _ (u64_nn _)).mono ?_); rintro e w5 ⟨a5, k5, L5, er, rfl, r5, _⟩; have R5 := Lib.hid r5; clear r5))
                    go_meet
                    case rel => exact ⟨last, L5, a5, k5, rfl, rfl, by omega, R5.out⟩
                · have e4 : (kk == 4) = false := by simp; omega
                  have e5 : (kk == 5) = false := by simp; omega
                  have e6 : (kk == 6) = false := by simp; omega
                  clear k456 k3 k7
                  have MS : Hid (∀ w : World, Calls Tryd.prog 12 #[.int .u64 ((last : Int) + 1), .int .i64 5] w fun e w' => e = .returned (.agg #[.int .u64 ((last : Int) + 1), .string abcd, .string (xs 5), .int .i64 7, .int .i64 0, .bool true]) ∧ Below w.heap.size w w') := Lib.hid (fun w => by
                    have h := message_any (last + 1) 5 5 (by omega) (by decide +kernel) w
                    rw [msg_lit, show (((last + 1 : Nat)) : Int) = (last : Int) + 1 by omega] at h
                    exact h)
                  have PO := fun (w : World) (b : Below (wr.alloc (.cells #[.int .i64 kind, .int .i64 nn, .int .i64 size, .int .i64 ticks, .bool raw, .int .u64 id, .string dest, .string body, .int .i64 att, .int .i64 due, .bool dead] 29)).heap.size (wr.alloc (.cells #[.int .i64 kind, .int .i64 nn, .int .i64 size, .int .i64 ticks, .bool raw, .int .u64 id, .string dest, .string body, .int .i64 att, .int .i64 due, .bool dead] 29)) w) => rm_post (RM1.out.later b) HM.out (by omega) (now + dt) (by omega) (by omega) 5 (by omega) (by omega)
                  have hl1 : (last : Int) + 1 = ((last + 1 : Nat) : Int) := by omega
                  have HL1 := Lib.hid hl1
                  clear hl1
                  by_cases hL : L.length < 40
                  · simp only [hL, if_true] at PO
                    have PO := Lib.hid PO
                    have hL' : (L.length : Int) < 40 := by omega
                    go_wp2_with (first
                      | (go_at_call 12; (with_reducible refine (MS.out _).mono ?_); rintro e w3 ⟨rfl, b3⟩; have B3 := Lib.hid b3; clear b3)
                      | (go_at_call 11; (refine (PO.out _ B3.out).mono ?_); rintro e w5 ⟨a5, k5, la5, L5, rfl, hla5, r5, _⟩; have R5 := Lib.hid r5; clear r5; have HLA := Lib.hid hla5; clear hla5))
                    go_meet
                    case rel => exact ⟨la5, L5, a5, k5, rfl, by rw [HLA.out, HL1.out], by rw [HLA.out]; omega, R5.out⟩
                  · simp only [hL, if_false] at PO
                    have PO := Lib.hid PO
                    have hL' : ¬ (L.length : Int) < 40 := by omega
                    have hLd : decide ((L.length : Int) < 40) = false := by simpa using hL'
                    go_wp2_with (first
                      | (go_at_call 12; (with_reducible refine (MS.out _).mono ?_); rintro e w3 ⟨rfl, b3⟩; have B3 := Lib.hid b3; clear b3)
                      | (go_at_call 11; (refine (PO.out _ B3.out).mono ?_); rintro e w5 ⟨a5, k5, la5, L5, rfl, hla5, r5, _⟩; have R5 := Lib.hid r5; clear r5; have HLA := Lib.hid hla5; clear hla5))
                    go_meet
                    case rel => exact ⟨la5, L5, a5, k5, rfl, by rw [HLA.out], by rw [HLA.out]; omega, R5.out⟩
          case rest =>
            obtain ⟨last5, L5, a5, k5, rfl, rfl, hla5, rm5⟩ := hcut
            clear c0 c1 c2 c3 c4 c5 c6 c7 c8 c9 c10 RMH RM1
            have hL5 : L5.length ≤ 40 := rm5.2.2.2.2
            have INV5 := Lib.hid rm5.2.2
            have CK := Lib.hid (rm_check rm5 HM.out)
            clear rm5
            obtain ⟨v5, hv5⟩ : ∃ v5, Value.slice a5 L5.length k5 = v5 := ⟨_, rfl⟩
            obtain ⟨D, hD⟩ : ∃ D, (L5.filter dedB).length = D := ⟨_, rfl⟩
            obtain ⟨F, hF⟩ : ∃ F, (L5.filter alvB).length = F := ⟨_, rfl⟩
            have hDF : D + F = L5.length := by rw [← hD, ← hF]; exact dead_split L5
            have DD : Hid (∀ w : World, RM W last5 L5 (.slice a5 L5.length k5) w → Calls Tryd.prog 18 #[.slice a5 L5.length k5] w fun e w' => ∃ (a : Option Addr) (c : Nat), e = .returned (.slice a D c) ∧ RM W last5 L5 (.slice a5 L5.length k5) w') := Lib.hid (fun w h => (rm_dead h).mono fun e w' ⟨a, c, he, h2⟩ => ⟨a, c, by rw [he, hD], h2⟩)
            have FG : Hid (∀ w : World, RM W last5 L5 (.slice a5 L5.length k5) w → Calls Tryd.prog 14 #[.slice a5 L5.length k5] w fun e w' => ∃ (a : Option Addr) (c : Nat), e = .returned (.slice a F c) ∧ RM W last5 L5 (.slice a5 L5.length k5) w') := Lib.hid (fun w h => (rm_forget h).mono fun e w' ⟨a, c, he, _, h2, _⟩ => ⟨a, c, by rw [he, hF], h2⟩)
            obtain ⟨D2, hD2⟩ : ∃ D2, (L5.filter (dueB (now + dt))).length = D2 := ⟨_, rfl⟩
            have hD2l : D2 ≤ L5.length := by rw [← hD2]; exact List.length_filter_le _ _
            have DU : Hid (∀ w : World, RM W last5 L5 (.slice a5 L5.length k5) w → Calls Tryd.prog 13 #[.slice a5 L5.length k5, .int .i64 (now + dt)] w fun e w' => ∃ (a : Option Addr) (c : Nat), e = .returned (.slice a D2 c) ∧ mowns w' w.heap.size (.slice a D2 c) (L5.filter (dueB (now + dt))) ∧ RM W last5 L5 (.slice a5 L5.length k5) w') := Lib.hid (fun w h => (rm_due h (now + dt)).mono fun e w' ⟨a, c, he, h1, h2, _⟩ => by rw [hD2] at he h1; exact ⟨a, c, he, h1, h2⟩)
            have HD2 := Lib.hid hD2
            have NX : Hid (∀ w : World, RM W last5 L5 (.slice a5 L5.length k5) w → Calls Tryd.prog 20 #[.slice a5 L5.length k5] w fun e w' => e = .returned (.tuple #[.int .i64 (nextF (L5.filter alvB)).1, .bool (nextF (L5.filter alvB)).2]) ∧ RM W last5 L5 (.slice a5 L5.length k5) w') := Lib.hid (fun w h => rm_next h)
            have hsum : (D : Int) + F = L5.length := by omega
            clear hD hF hD2 hDF v5 hv5
            go_wp2_with (first
              | (go_at_call 19; (with_reducible refine (CK.out).mono ?_); rintro e w6 ⟨rfl, r6⟩; have R6 := Lib.hid r6; clear r6)
              | (go_at_call 18; (with_reducible refine (DD.out _ R6.out).mono ?_); rintro e w7 ⟨a7, k7, rfl, r7⟩; have R7 := Lib.hid r7; clear r7)
              | (go_at_call 14; (with_reducible refine (FG.out _ R7.out).mono ?_); rintro e w8 ⟨a8, k8, rfl, r8⟩; have R8 := Lib.hid r8; clear r8)
              | (go_at_call 13; (with_reducible refine (DU.out _ R8.out).mono ?_); rintro e w9 ⟨a9, k9, rfl, m9, r9⟩; have R9 := Lib.hid r9; have M9 := Lib.hid m9; clear r9 m9))
            clear CK DD FG DU hsum R6 R7 R8
            go_loopw [17] (fun k wx => ∃ j m : Nat, 1 ≤ j ∧ k = .int .i64 j ∧ wx = w9.drewN m) (fun k _ => D2 - (intOf k).toNat)
            case atStart => exact ⟨1, 0, by omega, rfl, rfl⟩
            case round =>
              obtain ⟨j, m, hj1, rfl, rfl⟩ := hrel
              by_cases hjl : j < D2
              · as_aux_lemma =>
                  have hjl' : (j : Int) < D2 := by omega
                  obtain ⟨g, rfl, _, _, x0, _⟩ := M9.out.six j (by rw [HD2.out]; exact hjl)
                  obtain ⟨g', hg', _, _, y0, _⟩ := M9.out.six (j - 1) (by rw [HD2.out]; omega)
                  cases hg'
                  have hlt := due_rise INV5.out (now + dt) j (by omega) (by rw [HD2.out]; exact hjl)
                  generalize ((L5.filter (dueB (now + dt)))[j]?.getD noMsg).id = i1 at x0 hlt
                  generalize ((L5.filter (dueB (now + dt)))[j - 1]?.getD noMsg).id = i0 at y0 hlt
                  have hlt' : ¬ (i1 : Int) ≤ i0 := by omega
                  have hltd : decide ((i1 : Int) ≤ i0) = false := by simpa using hlt'
                  have hjN : 0 < j := by omega
                  have hjO : (1 : Int) ≤ j := by omega
                  have hj0 : (0 : Int) < j := by omega
                  have hw1 : IntKind.i64.wrap ((j : Int) - 1) = (j : Int) - 1 := by rw [IntKind.wrap_i64] <;> omega
                  have hb1 : (0 : Int) ≤ (j : Int) - 1 := by omega
                  have hb2 : (j : Int) - 1 < D2 := by omega
                  have htn : ((j : Int) - 1).toNat = j - 1 := by omega
                  have hw2 : IntKind.i64.wrap ((j : Int) + 1) = ((j + 1 : Nat) : Int) := by rw [IntKind.wrap_i64] <;> omega
                  clear hlt NX M9 hD2l
                  go_wp2_with fail
                  refine wp_region_quiet_lit (by kernel_rfl) (by kernel_rfl) ?_
                  repeat (with_reducible refine wpQuiet_step (fun K hK => ?_); go_simp; with_reducible refine hK _ ?_; clear hK K)
                  refine wpQuiet_nil ?_
                  intro _ hw'
                  obtain ⟨nq, hw''⟩ := hw'
                  subst hw''
                  go_wp2_with fail
                  go_roundw
                  case rel => exact ⟨j + 1, _, by omega, by simp, rfl⟩
                  case measure => simp only [intOf]; omega
              · as_aux_lemma =>
                  have hjl' : ¬ (j : Int) < D2 := by omega
                  have R9m := Lib.hid (R9.out.later (below_drewN (Below.refl _ w9) m))
                  have NX := Lib.hid (NX.out _ R9m.out)
                  have DUT : Hid (∀ (w : World) (t : Int) (z : Nat), (L5.filter (dueB t)).length = z → RM W last5 L5 (.slice a5 L5.length k5) w → Calls Tryd.prog 13 #[.slice a5 L5.length k5, .int .i64 t] w fun e w' => ∃ (a : Option Addr) (c : Nat), e = .returned (.slice a z c) ∧ RM W last5 L5 (.slice a5 L5.length k5) w') := Lib.hid (fun w t z hz h => (rm_due h t).mono fun e w' ⟨a, c, he, _, h2, _⟩ => ⟨a, c, by rw [he, hz], h2⟩)
                  rcases next_facts INV5.out with ⟨e1, e2⟩ | ⟨e1, e2, e3, e4, e5⟩
                  · have Z := Lib.hid (e2 1099511627776)
                    rw [e1] at NX
                    generalize (nextF (L5.filter alvB)).1 = t at NX
                    clear e1 e2
                    go_wp2_with (first
                      | (go_at_call 20; (with_reducible refine (NX.out).mono ?_); rintro e wA ⟨rfl, rA⟩; have RA := Lib.hid rA; clear rA)
                      | (go_at_call 13; (with_reducible refine (DUT.out _ _ 0 Z.out RA.out).mono ?_); rintro e wB ⟨aB, kB, rfl, rB⟩; have RB := Lib.hid rB; clear rB))
                    go_roundw
                    case rel => exact ⟨n + 1, last5, now + dt, L5, a5, k5, by omega, by omega, by go_num, rfl, by omega, by omega, rfl, by omega, rfl, RB.out⟩
                    case measure => simp [intOf]; omega
                  · rw [e1] at NX
                    generalize (nextF (L5.filter alvB)).1 = t at NX e2 e3 e4 e5
                    obtain ⟨z, hz⟩ : ∃ z, (L5.filter (dueB t)).length = z := ⟨_, rfl⟩
                    have hzl : z ≤ L5.length := by rw [← hz]; exact List.length_filter_le _ _
                    rw [hz] at e4
                    have hz0 : ((z : Int) == 0) = false := by simp; omega
                    have Z := Lib.hid hz
                    have Y := Lib.hid e5
                    have hw1 : IntKind.i64.wrap (t - 1) = t - 1 := by rw [IntKind.wrap_i64] <;> omega
                    clear e1 e5 hz
                    go_wp2_with (first
                      | (go_at_call 20; (with_reducible refine (NX.out).mono ?_); rintro e wA ⟨rfl, rA⟩; have RA := Lib.hid rA; clear rA)
                      | (go_at_call 13; (with_reducible refine (DUT.out _ _ z Z.out RA.out).mono ?_); rintro e wB ⟨aB, kB, rfl, rB⟩; have RB := Lib.hid rB; clear rB)
                      | (go_at_call 13; (with_reducible refine (DUT.out _ _ 0 Y.out RB.out).mono ?_); rintro e wC ⟨aC, kC, rfl, rC⟩; have RC := Lib.hid rC; clear rC))
                    go_roundw
                    case rel => exact ⟨n + 1, last5, now + dt, L5, a5, k5, by omega, by omega, by go_num, rfl, by omega, by omega, rfl, by omega, rfl, RC.out⟩
                    case measure => simp [intOf]; omega

        · have hA' : (n : Int) < len := by omega
          have hB' : ¬ ((n : Int) < 60) := by omega
          have LL := Lib.hid rm.2.1
          clear rm
          go_wp2_with fail
          go_meet
          case rel => exact LL.out
      · have hA' : ¬ ((n : Int) < len) := by omega
        have LL := Lib.hid rm.2.1
        clear rm
        go_wp2_with fail
        go_meet
        case rel => exact LL.out
  case rest =>
    have LL := Lib.hid hcut
    clear hcut B1
    go_wp2_with fail
    go_ret
    exact ⟨rfl, LL.out⟩
end Go.Proofs.YtleobnfmbhobgaaDoor
