/- CarrierOrder: the walk over its loops. -/
import Derived.Test.YtdoghnpmbpomcaaOrdP
import Derived.Test.YtdoghnpmbpomcaaOrdR
import Derived.Deep.DeepCutAuto
import Derived.Deep.CutBlock
import Derived.Deep.QuietTactic
namespace Go.Proofs.Ytdoghnpmbpomcaa
open Go.RowKit Go.Maps

theorem OR.bel {W : World} {h n : Nat} {now : Int} {kp : List (Nat × Obj)} {Q : Ltr → Prop} {w : World} (o : OR W h n now kp Q w) : Below W.heap.size W w ∧ n ≤ 60 := by
  obtain ⟨S, N, us, G, C, c, h1, h2, h3, h4, h5, h6, h7, h8, h9, h10⟩ := o
  exact ⟨h8, h10⟩
theorem OR.kept {W : World} {h n : Nat} {now : Int} {kp : List (Nat × Obj)} {Q : Ltr → Prop} {w : World} (o : OR W h n now kp Q w) (p : Nat × Obj) (hp : p ∈ kp) : w.heap[p.1]? = some p.2 := by
  obtain ⟨S, N, us, G, C, c, h1, h2, h3, h4, h5, h6, h7, h8, h9, h10⟩ := o
  exact (h7 p hp).1

theorem OR.drawn {W : World} {h n : Nat} {now : Int} {kp : List (Nat × Obj)} {Q : Ltr → Prop} {w : World} (o : OR W h n now kp Q w) (m : Nat) : OR W h n now kp Q (w.drewN m) := o.grown ⟨rfl, rfl, rfl, Nat.le_refl _, fun _ _ _ => rfl⟩
/-- What Hand does behind a step. -/
theorem order_step {W wr w5 : World} {h n : Nat} {now : Int} {o10 : Obj} (lr : OR W h n now [] (fun _ => True) wr) (hn : n < 60) (g5 : (wr.alloc o10).grownBy w5 none) (now' : Int) (hle : now ≤ now') (id : Nat) (hid : id < 2 ^ 64) (dest body : ByteArray) (hd : dest.size ≤ 20) (att due k ticks : Int) (dead : Bool) :
    Calls Try.prog 11 #[.pointer (some ⟨h + 1 + 1, 0, none⟩), .agg #[.int .u64 id, .string dest, .string body, .int .i64 att, .int .i64 due, .bool dead], .agg #[.int .i64 k, .int .i64 ticks], .int .i64 now']
      ((w5.alloc (.cells #[.int .u64 id, .string dest, .string body, .int .i64 att, .int .i64 due, .bool dead] 28)).alloc (.cells #[.int .i64 k, .int .i64 ticks] 30)) fun e w' => (∃ b, e = .returned (.bool b)) ∧
        OR W h (n + 1) now' [(w5.heap.size, .cells #[.int .u64 id, .string dest, .string body, .int .i64 att, .int .i64 due, .bool dead] 28), (w5.heap.size + 1, .cells #[.int .i64 k, .int .i64 ticks] 30)] (fun _ => True) w' := by
  have o1 := (lr.grown (World.grownBy_alloc wr o10 none)).grown g5
  have o2 := (o1.alloc (.cells #[.int .u64 id, .string dest, .string body, .int .i64 att, .int .i64 due, .bool dead] 28)).alloc (.cells #[.int .i64 k, .int .i64 ticks] 30)
  simp only [List.nil_append, List.cons_append] at o2
  rw [show (w5.alloc (.cells #[.int .u64 id, .string dest, .string body, .int .i64 att, .int .i64 due, .bool dead] 28)).heap.size = w5.heap.size + 1 by simp] at o2
  exact order_hand o2 hn now' hle id hid dest body hd att due k ticks dead
/-- The cells of the message and of the choice. -/
theorem OR.boxes {W w : World} {h n bm bx : Nat} {now : Int} {Q : Ltr → Prop} {id att due k ticks : Int} {dest body : ByteArray} {dead : Bool} (o : OR W h n now [(bm, .cells #[.int .u64 id, .string dest, .string body, .int .i64 att, .int .i64 due, .bool dead] 28), (bx, .cells #[.int .i64 k, .int .i64 ticks] 30)] Q w) :
    w.cell? ⟨bm, 1, none⟩ = some (.string dest) ∧ w.cell? ⟨bx, 0, none⟩ = some (.int .i64 k) := by
  have h1 := o.kept _ (List.mem_cons_self)
  have h2 := o.kept (bx, .cells #[.int .i64 k, .int .i64 ticks] 30) (by simp)
  exact ⟨(six_all h1).2.1, (two_cells' h2).1⟩

set_option maxHeartbeats 8000000 in
set_option maxRecDepth 100000 in
theorem order_walk (a0 : Option Addr) (len cap : Nat) (W : World)
    (hsl : ∀ i, i < len → ∃ b off o, a0 = some ⟨b, off, none⟩ ∧ b < W.heap.size ∧ OpAt W b (off + i * 10) o ∧ o.id < 2 ^ 64) :
    Calls Try.prog 3 #[.slice a0 len cap] W fun e W' => e = .returned (.bool true) ∧ Below W.heap.size W W' := by
  have AW := Lib.hid (awake_any W)
  go_enter Try.func3, Try.ntmps3
  go_upto_block 0 with (first
    | (go_at_call 8; (with_reducible refine (AW.out).mono ?_); rintro e w1 ⟨rfl, q1⟩; have NW := Lib.hid (new_or W w1 q1); clear q1)
    | (go_at_call 9; (with_reducible refine (NW.out).mono ?_); rintro e w2 ⟨rfl, q2⟩; have L2 := Lib.hid q2; clear q2))
  clear NW AW
  go_cut [5, 6, 7, 8, 9, 10, 11, 12, 13] (fun _ _ _ _ _ _ _ _ _ wx => Below W.heap.size W wx)
  case first =>
    go_wp2_with fail
    go_loopw [5, 6] (fun nw i wr => ∃ (n : Nat) (now : Int), n ≤ len ∧ i = .int .i64 n ∧ nw = .int .i64 now ∧ 0 ≤ now ∧ now ≤ 31 * n ∧ OR W w1.heap.size n now [] (fun _ => True) wr) (fun _ i _ => 60 - (intOf i).toNat)
    case atStart => exact ⟨0, 0, Nat.zero_le _, rfl, rfl, by omega, by omega, L2.out⟩
    case round =>
      obtain ⟨n, now, hnl, rfl, rfl, hn0, hn1, lr⟩ := hrel
      have hn60 := lr.bel.2
      by_cases hA : n < len
      · by_cases hB : n < 60
        · have hA' : (n : Int) < len := by omega
          have hB' : (n : Int) < 60 := by omega
          obtain ⟨b, off, ov, rfl, hb, hop, hid⟩ := hsl n hA
          have hat := hop.below lr.bel.1 hb
          obtain ⟨id, dest, body, att, due, dead, kind, ticks, t2, near⟩ := ov
          obtain ⟨c0, c1, c2, c3, c4, c5, c6, c7, c8, c9⟩ := hat
          simp only at c0 c1 c2 c3 c4 c5 c6 c7 c8 c9 hid
          obtain ⟨dt, hdt⟩ : ∃ dt, bits .and .i64 t2 31 = dt := ⟨_, rfl⟩
          have hd : dt = t2 % 32 := by rw [← hdt, i64_and31]
          have hd0 : 0 ≤ dt := by omega
          have hd1 : dt ≤ 31 := by omega
          clear hd hop L2
          have LL := Lib.hid lr
          clear lr
          obtain ⟨kk, hkk⟩ : ∃ kk, bits .and .i64 kind 7 = kk := ⟨_, rfl⟩
          obtain ⟨tt, htt⟩ : ∃ tt, bits .and .i64 ticks 63 = tt := ⟨_, rfl⟩
          obtain ⟨dd, hdd⟩ : ∃ dd, cut dest 20 = dd := ⟨_, rfl⟩
          obtain ⟨bb, hbb⟩ : ∃ bb, cut body 20 = bb := ⟨_, rfl⟩
          have hds : dd.size ≤ 20 := by rw [← hdd]; exact cut_size _ _
          have ST := fun w => step_any id att due kind ticks t2 dest body dead w
          simp only [hkk, htt, hdd, hbb] at ST
          have ST := Lib.hid ST
          clear hkk htt hdd hbb
          have SH := Lib.hid (fun (w5 : World) (o10 : Obj) (g5 : (wr.alloc o10).grownBy w5 none) => order_step (w5 := w5) (o10 := o10) LL.out hB g5 (now + dt) (by omega) id hid dd bb hds att due kk tt dead)
          by_cases h6 : 6 ≤ kk
          · as_aux_lemma =>
              go_wp2_with (first
                | (go_at_call 10; (with_reducible refine (ST.out _).mono ?_); rintro e w5 ⟨rfl, g5⟩; have HD := Lib.hid (SH.out w5 _ g5); clear g5)
                | (go_at_call 11; (with_reducible refine (HD.out).mono ?_); rintro e w6 ⟨⟨bq, rfl⟩, q6⟩; obtain ⟨m1, x0⟩ := q6.boxes; have AR := Lib.hid (order_arrive q6); clear q6)
                | (go_at_call 12; (with_reducible refine (AR.out).mono ?_); rintro e w7 ⟨⟨kq, rfl⟩, q7⟩; have UN := Lib.hid (order_under q7); clear q7)
                | (go_at_call 13; (with_reducible refine (UN.out).mono ?_); rintro e w8 ⟨ls, a8, c8', rfl, ow8, so8, la8, le8, q8⟩; obtain ⟨m2, x2⟩ := q8.boxes; have O8 := Lib.hid q8; have R8 := Lib.hid (row_cells ow8); clear q8 ow8))
              clear c0 c1 c2 c3 c4 c5 c6 c7 c8 c9 hid LL ST SH m1 x0 hb hsl
              go_loopw [11] (fun k wr2 => ∃ j m : Nat, j ≤ ls.length ∧ k = .int .i64 j ∧ wr2 = w8.drewN m) (fun k _ => ls.length - (intOf k).toNat)
              case atStart => exact ⟨0, 0, Nat.zero_le _, rfl, rfl⟩
              case round =>
                obtain ⟨j, m, hj, rfl, rfl⟩ := hrel
                by_cases hJ : j < ls.length
                · as_aux_lemma =>
                    have hJ' : (j : Int) < ls.length := by omega
                    obtain ⟨g, l, rfl, hl, hjl, htm, _, e3⟩ := R8.out j hJ
                    have hlate : ¬ lastTm ls j ≤ now + dt := by have := la8 l hl; omega
                    by_cases hz : j = 0
                    · subst hz
                      clear htm hl hjl
                      go_wp2_with fail
                      refine wp_region_quiet_lit (by kernel_rfl) (by kernel_rfl) ?_
                      repeat (with_reducible refine wpQuiet_step (fun K hK => ?_); go_simp; with_reducible refine hK _ ?_; clear hK K)
                      refine wpQuiet_nil ?_
                      intro _ hw'
                      obtain ⟨nq, hw''⟩ := hw'
                      subst hw''
                      go_wp2_with fail
                      go_roundw
                      case rel => exact ⟨1, _, by omega, by go_num, rfl⟩
                      case measure => simp [intOf]; omega
                    · obtain ⟨g', l', hg', hl', hjl', htm', _, e3'⟩ := R8.out (j - 1) (by omega)
                      cases hg'
                      have hsrt : ¬ lastTm ls j < lastTm ls (j - 1) := by have := sorted_get so8 (i := j - 1) (j := j) (by omega) hjl' hjl; omega
                      clear htm htm' hl hl' hjl hjl'
                      have hjN : 0 < j := by omega
                      have hjO : (1 : Int) ≤ j := by omega
                      have hj0 : (0 : Int) < j := by omega
                      have hw1 : IntKind.i64.wrap ((j : Int) - 1) = (j : Int) - 1 := by rw [IntKind.wrap_i64] <;> omega
                      have hb1 : (0 : Int) ≤ (j : Int) - 1 := by omega
                      have hb2 : (j : Int) - 1 < ls.length := by omega
                      have htn : ((j : Int) - 1).toNat = j - 1 := by omega
                      go_wp2_with fail
                      refine wp_region_quiet_lit (by kernel_rfl) (by kernel_rfl) ?_
                      repeat (with_reducible refine wpQuiet_step (fun K hK => ?_); go_simp; with_reducible refine hK _ ?_; clear hK K)
                      refine wpQuiet_nil ?_
                      intro _ hw'
                      obtain ⟨nq, hw''⟩ := hw'
                      subst hw''
                      go_wp2_with fail
                      go_roundw
                      case rel => exact ⟨j + 1, _, by omega, by go_num, rfl⟩
                      case measure => simp [intOf]; omega
                · as_aux_lemma =>
                    have hJ' : ¬ ((j : Int) < ls.length) := by omega
                    have BX := Lib.hid (order_box (O8.out.drawn m) dd hds)
                    go_wp2_with (go_at_call 14; (with_reducible refine (BX.out).mono ?_); rintro e w9 ⟨bs, a9, c9', rfl, ow9, al9, le9, q9⟩; obtain ⟨m3, x3⟩ := q9.boxes; have O9 := Lib.hid q9; have R9 := Lib.hid (row_cells ow9); clear q9 ow9)
                    go_loopw [13] (fun k wr3 => ∃ j m : Nat, j ≤ bs.length ∧ k = .int .i64 j ∧ wr3 = w9.drewN m) (fun k _ => bs.length - (intOf k).toNat)
                    case atStart => exact ⟨0, 0, Nat.zero_le _, rfl, rfl⟩
                    case round =>
                      obtain ⟨j3, m3', hj3, rfl, rfl⟩ := hrel
                      by_cases hJ3 : j3 < bs.length
                      · as_aux_lemma =>
                          have hJ3' : (j3 : Int) < bs.length := by omega
                          obtain ⟨g, l, rfl, hl, hjl, htm, e1, e3⟩ := R9.out j3 hJ3
                          rw [(al9 l hl).1] at e1
                          have hle3 : ¬ now + dt < lastTm bs j3 := by have := (al9 l hl).2; omega
                          by_cases hz : j3 = 0
                          · have hjN3 : ¬ (0 < j3) := by omega
                            have hjI3 : ¬ ((0 : Int) < j3) := by omega
                            clear htm hl hjl hz
                            go_wp2_with fail
                            refine wp_region_quiet_lit (by kernel_rfl) (by kernel_rfl) ?_
                            repeat (with_reducible refine wpQuiet_step (fun K hK => ?_); go_simp; with_reducible refine hK _ ?_; clear hK K)
                            refine wpQuiet_nil ?_
                            intro _ hw'
                            obtain ⟨nq, hw''⟩ := hw'
                            subst hw''
                            go_wp2_with fail
                            go_roundw
                            case rel => exact ⟨j3 + 1, _, by omega, by go_num, rfl⟩
                            case measure => simp [intOf]; omega
                          · obtain ⟨g', l', hg', hl', hjl', htm', _, e3'⟩ := R9.out (j3 - 1) (by omega)
                            cases hg'
                            clear htm htm' hl hl' hjl hjl'
                            have hjN3 : 0 < j3 := by omega
                            have hjO3 : (1 : Int) ≤ j3 := by omega
                            have hj0 : (0 : Int) < j3 := by omega
                            have hw1 : IntKind.i64.wrap ((j3 : Int) - 1) = (j3 : Int) - 1 := by rw [IntKind.wrap_i64] <;> omega
                            have hb1 : (0 : Int) ≤ (j3 : Int) - 1 := by omega
                            have hb2 : (j3 : Int) - 1 < bs.length := by omega
                            have htn : ((j3 : Int) - 1).toNat = j3 - 1 := by omega
                            by_cases hgt : lastTm bs j3 < lastTm bs (j3 - 1)
                            · go_wp2_with fail
                              refine wp_region_quiet_lit (by kernel_rfl) (by kernel_rfl) ?_
                              repeat (with_reducible refine wpQuiet_step (fun K hK => ?_); go_simp; with_reducible refine hK _ ?_; clear hK K)
                              refine wpQuiet_nil ?_
                              intro _ hw'
                              obtain ⟨nq, hw''⟩ := hw'
                              subst hw''
                              go_wp2_with fail
                              go_roundw
                              case rel => exact ⟨j3 + 1, _, by omega, by go_num, rfl⟩
                              case measure => simp [intOf]; omega
                            · have hgt2 : lastTm bs (j3 - 1) ≤ lastTm bs j3 := by omega
                              have hgtD : decide (lastTm bs j3 < lastTm bs (j3 - 1)) = false := by simpa using hgt2
                              go_wp2_with fail
                              refine wp_region_quiet_lit (by kernel_rfl) (by kernel_rfl) ?_
                              repeat (with_reducible refine wpQuiet_step (fun K hK => ?_); go_simp; with_reducible refine hK _ ?_; clear hK K)
                              refine wpQuiet_nil ?_
                              intro _ hw'
                              obtain ⟨nq, hw''⟩ := hw'
                              subst hw''
                              go_wp2_with fail
                              go_roundw
                              case rel => exact ⟨j3 + 1, _, by omega, by go_num, rfl⟩
                              case measure => simp [intOf]; omega
                      · as_aux_lemma =>
                          have hJ3' : ¬ ((j3 : Int) < bs.length) := by omega
                          have OW := Lib.hid (O9.out.drawn m3').weak
                          go_wp2_with fail
                          go_roundw
                          case rel => exact ⟨n + 1, now + dt, by omega, by go_num, rfl, by omega, by omega, OW.out⟩
                          case measure => simp [intOf]; omega
          · as_aux_lemma =>
              have h6b : kk < 6 := by omega
              have h6D : decide (6 ≤ kk) = false := by simpa using h6b
              go_wp2_with (first
                | (go_at_call 10; (with_reducible refine (ST.out _).mono ?_); rintro e w5 ⟨rfl, g5⟩; have HD := Lib.hid (SH.out w5 _ g5); clear g5)
                | (go_at_call 11; (with_reducible refine (HD.out).mono ?_); rintro e w6 ⟨⟨bq, rfl⟩, q6⟩; obtain ⟨m1, x0⟩ := q6.boxes; have UN := Lib.hid (order_under q6); clear q6)
                | (go_at_call 13; (with_reducible refine (UN.out).mono ?_); rintro e w8 ⟨ls, a8, c8', rfl, ow8, so8, la8, le8, q8⟩; obtain ⟨m2, x2⟩ := q8.boxes; have O8 := Lib.hid q8; have R8 := Lib.hid (row_cells ow8); clear q8 ow8))
              clear c0 c1 c2 c3 c4 c5 c6 c7 c8 c9 hid LL ST SH m1 x0 hb hsl
              go_loopw [11] (fun k wr2 => ∃ j m : Nat, j ≤ ls.length ∧ k = .int .i64 j ∧ wr2 = w8.drewN m) (fun k _ => ls.length - (intOf k).toNat)
              case atStart => exact ⟨0, 0, Nat.zero_le _, rfl, rfl⟩
              case round =>
                obtain ⟨j, m, hj, rfl, rfl⟩ := hrel
                by_cases hJ : j < ls.length
                · as_aux_lemma =>
                    have hJ' : (j : Int) < ls.length := by omega
                    obtain ⟨g, l, rfl, hl, hjl, htm, _, e3⟩ := R8.out j hJ
                    by_cases hz : j = 0
                    · subst hz
                      clear htm hl hjl
                      go_wp2_with fail
                      refine wp_region_quiet_lit (by kernel_rfl) (by kernel_rfl) ?_
                      repeat (with_reducible refine wpQuiet_step (fun K hK => ?_); go_simp; with_reducible refine hK _ ?_; clear hK K)
                      refine wpQuiet_nil ?_
                      intro _ hw'
                      obtain ⟨nq, hw''⟩ := hw'
                      subst hw''
                      go_wp2_with fail
                      go_roundw
                      case rel => exact ⟨1, _, by omega, by go_num, rfl⟩
                      case measure => simp [intOf]; omega
                    · obtain ⟨g', l', hg', hl', hjl', htm', _, e3'⟩ := R8.out (j - 1) (by omega)
                      cases hg'
                      have hsrt : ¬ lastTm ls j < lastTm ls (j - 1) := by have := sorted_get so8 (i := j - 1) (j := j) (by omega) hjl' hjl; omega
                      clear htm htm' hl hl' hjl hjl'
                      have hjN : 0 < j := by omega
                      have hjO : (1 : Int) ≤ j := by omega
                      have hj0 : (0 : Int) < j := by omega
                      have hw1 : IntKind.i64.wrap ((j : Int) - 1) = (j : Int) - 1 := by rw [IntKind.wrap_i64] <;> omega
                      have hb1 : (0 : Int) ≤ (j : Int) - 1 := by omega
                      have hb2 : (j : Int) - 1 < ls.length := by omega
                      have htn : ((j : Int) - 1).toNat = j - 1 := by omega
                      go_wp2_with fail
                      refine wp_region_quiet_lit (by kernel_rfl) (by kernel_rfl) ?_
                      repeat (with_reducible refine wpQuiet_step (fun K hK => ?_); go_simp; with_reducible refine hK _ ?_; clear hK K)
                      refine wpQuiet_nil ?_
                      intro _ hw'
                      obtain ⟨nq, hw''⟩ := hw'
                      subst hw''
                      go_wp2_with fail
                      go_roundw
                      case rel => exact ⟨j + 1, _, by omega, by go_num, rfl⟩
                      case measure => simp [intOf]; omega
                · as_aux_lemma =>
                    have hJ' : ¬ ((j : Int) < ls.length) := by omega
                    have BX := Lib.hid (order_box (O8.out.drawn m) dd hds)
                    go_wp2_with (go_at_call 14; (with_reducible refine (BX.out).mono ?_); rintro e w9 ⟨bs, a9, c9', rfl, ow9, al9, le9, q9⟩; obtain ⟨m3, x3⟩ := q9.boxes; have O9 := Lib.hid q9; have R9 := Lib.hid (row_cells ow9); clear q9 ow9)
                    go_loopw [13] (fun k wr3 => ∃ j m : Nat, j ≤ bs.length ∧ k = .int .i64 j ∧ wr3 = w9.drewN m) (fun k _ => bs.length - (intOf k).toNat)
                    case atStart => exact ⟨0, 0, Nat.zero_le _, rfl, rfl⟩
                    case round =>
                      obtain ⟨j3, m3', hj3, rfl, rfl⟩ := hrel
                      by_cases hJ3 : j3 < bs.length
                      · as_aux_lemma =>
                          have hJ3' : (j3 : Int) < bs.length := by omega
                          obtain ⟨g, l, rfl, hl, hjl, htm, e1, e3⟩ := R9.out j3 hJ3
                          rw [(al9 l hl).1] at e1
                          have hle3 : ¬ now + dt < lastTm bs j3 := by have := (al9 l hl).2; omega
                          by_cases hz : j3 = 0
                          · have hjN3 : ¬ (0 < j3) := by omega
                            have hjI3 : ¬ ((0 : Int) < j3) := by omega
                            clear htm hl hjl hz
                            go_wp2_with fail
                            refine wp_region_quiet_lit (by kernel_rfl) (by kernel_rfl) ?_
                            repeat (with_reducible refine wpQuiet_step (fun K hK => ?_); go_simp; with_reducible refine hK _ ?_; clear hK K)
                            refine wpQuiet_nil ?_
                            intro _ hw'
                            obtain ⟨nq, hw''⟩ := hw'
                            subst hw''
                            go_wp2_with fail
                            go_roundw
                            case rel => exact ⟨j3 + 1, _, by omega, by go_num, rfl⟩
                            case measure => simp [intOf]; omega
                          · obtain ⟨g', l', hg', hl', hjl', htm', _, e3'⟩ := R9.out (j3 - 1) (by omega)
                            cases hg'
                            clear htm htm' hl hl' hjl hjl'
                            have hjN3 : 0 < j3 := by omega
                            have hjO3 : (1 : Int) ≤ j3 := by omega
                            have hj0 : (0 : Int) < j3 := by omega
                            have hw1 : IntKind.i64.wrap ((j3 : Int) - 1) = (j3 : Int) - 1 := by rw [IntKind.wrap_i64] <;> omega
                            have hb1 : (0 : Int) ≤ (j3 : Int) - 1 := by omega
                            have hb2 : (j3 : Int) - 1 < bs.length := by omega
                            have htn : ((j3 : Int) - 1).toNat = j3 - 1 := by omega
                            by_cases hgt : lastTm bs j3 < lastTm bs (j3 - 1)
                            · go_wp2_with fail
                              refine wp_region_quiet_lit (by kernel_rfl) (by kernel_rfl) ?_
                              repeat (with_reducible refine wpQuiet_step (fun K hK => ?_); go_simp; with_reducible refine hK _ ?_; clear hK K)
                              refine wpQuiet_nil ?_
                              intro _ hw'
                              obtain ⟨nq, hw''⟩ := hw'
                              subst hw''
                              go_wp2_with fail
                              go_roundw
                              case rel => exact ⟨j3 + 1, _, by omega, by go_num, rfl⟩
                              case measure => simp [intOf]; omega
                            · have hgt2 : lastTm bs (j3 - 1) ≤ lastTm bs j3 := by omega
                              have hgtD : decide (lastTm bs j3 < lastTm bs (j3 - 1)) = false := by simpa using hgt2
                              go_wp2_with fail
                              refine wp_region_quiet_lit (by kernel_rfl) (by kernel_rfl) ?_
                              repeat (with_reducible refine wpQuiet_step (fun K hK => ?_); go_simp; with_reducible refine hK _ ?_; clear hK K)
                              refine wpQuiet_nil ?_
                              intro _ hw'
                              obtain ⟨nq, hw''⟩ := hw'
                              subst hw''
                              go_wp2_with fail
                              go_roundw
                              case rel => exact ⟨j3 + 1, _, by omega, by go_num, rfl⟩
                              case measure => simp [intOf]; omega
                      · as_aux_lemma =>
                          have hJ3' : ¬ ((j3 : Int) < bs.length) := by omega
                          have OW := Lib.hid (O9.out.drawn m3').weak
                          go_wp2_with fail
                          go_roundw
                          case rel => exact ⟨n + 1, now + dt, by omega, by go_num, rfl, by omega, by omega, OW.out⟩
                          case measure => simp [intOf]; omega
        · have hA' : (n : Int) < len := by omega
          have hB' : ¬ ((n : Int) < 60) := by omega
          have LL := Lib.hid lr.bel.1
          clear lr
          go_wp2_with fail
          go_meet
          case rel => exact LL.out
      · have hA' : ¬ ((n : Int) < len) := by omega
        have LL := Lib.hid lr.bel.1
        clear lr
        go_wp2_with fail
        go_meet
        case rel => exact LL.out
  case rest =>
    have LL := Lib.hid hcut
    clear hcut L2
    go_wp2_with fail
    go_ret
    exact ⟨rfl, LL.out⟩
end Go.Proofs.Ytdoghnpmbpomcaa
