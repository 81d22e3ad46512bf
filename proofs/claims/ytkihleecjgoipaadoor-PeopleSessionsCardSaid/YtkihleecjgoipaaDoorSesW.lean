/- PeopleSessions: the walk. Written by wip/tools/mkses.py. -/
import Derived.Test.YtkihleecjgoipaaDoorScr16
import Derived.Test.YtkihleecjgoipaaDoorSesP
import Derived.Test.YtkihleecjgoipaaDoorSesQ
import Derived.BigQuiet
import Derived.Deep.QuietTactic
import Derived.Deep.DeepCutAuto
import Derived.Deep.CutBlock
namespace Go.Proofs.YtkihleecjgoipaaDoor
open Go.RowKit Go.Maps Go.Proofs.YtkihleecjgoipaaDoor.Rw

theorem ses_set {w : World} {b : Nat} {x0 x1 x2 : Value} (h : w.heap[b]? = some (.cells #[x0, x1, x2] 47)) (v0 v1 v2 : Value) : (((w.setCell ⟨b, 0, none⟩ v0).setCell ⟨b, 1, none⟩ v1).setCell ⟨b, 2, none⟩ v2).heap[b]? = some (.cells #[v0, v1, v2] 47) := by
  have h0 := heap_setCell_same w b 0 _ 47 v0 h
  have h1 := heap_setCell_same _ b 1 _ 47 v1 h0
  have h2 := heap_setCell_same _ b 2 _ 47 v2 h1
  refine h2.trans ?_
  simp only [List.setIfInBounds_toArray, List.set_cons_zero, List.set_cons_succ]
set_option maxHeartbeats 8000000 in
set_option maxRecDepth 100000 in
theorem sessions_walk (a0 : Option Addr) (len cap : Nat) (nowq : Int) (W : World) (hm : ML W)
    (hsl : ∀ i, i < len → ∃ b off o, a0 = some ⟨b, off, none⟩ ∧ b < W.heap.size ∧ NumAt W b (off + i * 7) o) :
    Calls Tryd.prog 5 #[.slice a0 len cap, .int .i64 nowq] W fun e W' => e = .returned (.bool true) ∧ Below W.heap.size W W' := by
  have AW := Lib.hid (awake_any W hm)
  have HM := Lib.hid hm
  obtain ⟨tq, htq⟩ : ∃ tq, bits .and .i64 nowq 1023 = tq := ⟨_, rfl⟩
  clear hm
  go_enter Tryd.func5, Tryd.ntmps5
  go_wp2_with ((go_at_call 9; (with_reducible refine (AW.out).mono ?_); rintro e w1 ⟨rfl, q1⟩; have WR := Lib.hid q1; clear q1; have XB := Lib.hid (heap_new w1 (pobj (.slice none 0 0) (.slice none 0 0))); have WR2 := Lib.hid (WR.out.alloc WR.out.size (pobj (.slice none 0 0) (.slice none 0 0))); unfold pobj at WR2))
  have s1 := WR.out.size
  clear AW
  go_loopw [7] (fun i wr => ∃ (n : Nat) (p : Ppl) (s1 s2 : Value), n ≤ len ∧ n ≤ 60 ∧ i = .int .i64 n ∧ PI n p ∧ SI p ∧ pown wr W.heap.size (.agg #[s1, s2]) p ∧ wr.heap[w1.heap.size]? = some (pobj s1 s2) ∧ Below W.heap.size W wr) (fun i _ => 60 - (intOf i).toNat)
  case atStart => exact ⟨0, ⟨[], []⟩, _, _, Nat.zero_le _, by omega, rfl, PI.nil, SI.nil, pown.nil _ _, XB.out, WR2.out⟩
  case round =>
    obtain ⟨n, p, p1, p2, hnl, hn60, rfl, hp, hsi, ho, hb, bel⟩ := hrel
    obtain ⟨ap, cp, ap', cp', hpv, oq1, oq2⟩ := id ho
    simp only [Value.agg.injEq, Array.mk.injEq, List.cons.injEq, and_true] at hpv
    obtain ⟨rfl, rfl⟩ := hpv
    have OP1 := Lib.hid oq1
    have OW := Lib.hid ho
    clear oq1 oq2
    have BE := Lib.hid bel
    have HP := Lib.hid hp
    have HSI := Lib.hid hsi
    have HBX := Lib.hid hb
    have hg1 := heap_lt hb
    obtain ⟨⟨c0, c1⟩, cf⟩ := pcell_of hb
    by_cases hA : n < len
    · by_cases hB : n < 60
      · have hA' : (n : Int) < len := by omega
        have hB' : (n : Int) < 60 := by omega
        have hn0' : (0 : Int) ≤ n := by omega
        obtain ⟨b, off, nv, rfl, hb0, hnum⟩ := hsl n hA
        have hat := hnum.below bel hb0
        obtain ⟨kind, who, mail, salt, chk, at0, nn⟩ := nv
        obtain ⟨e0, e1, e2, e3, e4, e5, e6⟩ := hat
        simp only at e0 e1 e2 e3 e4 e5 e6
        obtain ⟨ev, hev⟩ : ∃ ev, evN ⟨kind, who, mail, salt, chk, at0, nn⟩ p = ev := ⟨_, rfl⟩
        have hok : EvOk ev := by rw [← hev]; exact evN_ok _ _
        have EV : Hid (∀ w2, Below wr.heap.size wr w2 → Calls Tryd.prog 10 #[.agg #[.int .i64 kind, .int .i64 who, .int .i64 mail, .int .i64 salt, .int .i64 chk, .int .i64 at0, .int .i64 nn], .agg #[.slice ap p.ps.length cp, .slice ap' p.ss.length cp']] w2 fun e w' => e = .returned ev.agg ∧ Below w2.heap.size w2 w') := Lib.hid (fun w2 b2 => by
          have h := event_any ⟨kind, who, mail, salt, chk, at0, nn⟩ (OW.out.below b2) HP.out.few (HP.out.small (by omega))
          rwa [hev] at h)
        have AP : Hid (∀ w2, Below wr.heap.size wr w2 → Calls Tryd.prog 11 #[.agg #[.slice ap p.ps.length cp, .slice ap' p.ss.length cp'], ev.agg] w2 fun r w' => ∃ a c a' c', r = .returned (.tuple #[.agg #[.slice a (appR p ev).ps.length c, .slice a' (appR p ev).ss.length c'], .int .i64 (appE p ev)]) ∧ pown w' W.heap.size (.agg #[.slice a (appR p ev).ps.length c, .slice a' (appR p ev).ss.length c']) (appR p ev) ∧ Below w2.heap.size w2 w') := Lib.hid (fun w2 b2 => by
          have bw := BE.out.trans (b2.mono BE.out.size)
          refine (papply_any (OW.out.below b2) HP.out.few (HP.out.small (by omega)) bw.size ev (by have := hok.sz; omega) (HM.out.below bw)).mono fun r w' ⟨v', q1, q2, q3⟩ => ?_
          obtain ⟨a, c, a', c', rfl⟩ := q2.form
          exact ⟨a, c, a', c', q1, q2, q3⟩)
        have HX := Lib.hid (HP.out.app (e := ev) (by omega) hok)
        have SX := Lib.hid (hsi.app (e := ev))
        have SNEW := Lib.hid (fun hk h0 t ht => ses_new (p := p) (e := ev) hk h0 t ht)
        have SGONE := Lib.hid (fun hk h0 k (hl : k < (appR p ev).ss.length) => ses_gone (p := p) (e := ev) hk h0 hl)
        have SSAME := Lib.hid (fun h8 h9 => ses_same (p := p) (e := ev) h8 h9)
        have NUM := Lib.hid hok.num
        have EVG : Hid (∀ w2 g, w2.heap[g]? = some ev.obj → EvAt w2 g ev) := Lib.hid (fun w2 g h => EvAt.of h)
        have HB0 := Lib.hid hb0
        clear hev hsl hnum hb0 ho hb bel hp hsi
        generalize appR p ev = X at *
        generalize appE p ev = fe at *
        have CF : Hid (∀ w2, Below wr.heap.size wr w2 → (w2.cell? ⟨b, off + n * 7, none⟩ = some (.int .i64 kind) ∧ w2.cell? ⟨b, off + n * 7 + 1, none⟩ = some (.int .i64 who) ∧ w2.cell? ⟨b, off + n * 7 + 2, none⟩ = some (.int .i64 mail) ∧ w2.cell? ⟨b, off + n * 7 + 3, none⟩ = some (.int .i64 salt) ∧ w2.cell? ⟨b, off + n * 7 + 4, none⟩ = some (.int .i64 chk) ∧ w2.cell? ⟨b, off + n * 7 + 5, none⟩ = some (.int .i64 at0) ∧ w2.cell? ⟨b, off + n * 7 + 6, none⟩ = some (.int .i64 nn)) ∧ w2.cell? ⟨w1.heap.size, 0, none⟩ = some (.slice ap p.ps.length cp) ∧ w2.cell? ⟨w1.heap.size, 1, none⟩ = some (.slice ap' p.ss.length cp')) := Lib.hid (fun w2 b2 => by
          have hb1 : b < wr.heap.size := Nat.lt_of_lt_of_le HB0.out BE.out.size
          exact ⟨⟨(b2.cell (p := ⟨b, off + n * 7, none⟩) hb1).trans e0, (b2.cell (p := ⟨b, off + n * 7 + 1, none⟩) hb1).trans e1, (b2.cell (p := ⟨b, off + n * 7 + 2, none⟩) hb1).trans e2, (b2.cell (p := ⟨b, off + n * 7 + 3, none⟩) hb1).trans e3, (b2.cell (p := ⟨b, off + n * 7 + 4, none⟩) hb1).trans e4, (b2.cell (p := ⟨b, off + n * 7 + 5, none⟩) hb1).trans e5, (b2.cell (p := ⟨b, off + n * 7 + 6, none⟩) hb1).trans e6⟩, (b2.cell (p := ⟨w1.heap.size, 0, none⟩) hg1).trans c0, (b2.cell (p := ⟨w1.heap.size, 1, none⟩) hg1).trans c1⟩)
        obtain ⟨kd, ac, pu, t, nu, ea, eb, ec⟩ := ev
        unfold Evn.agg at EV AP
        unfold Evn.obj at EVG
        simp only at *
        go_wp2_with fail
        go_cut [8] (fun x6 wx => ∃ ge, x6 = .pointer (some ⟨ge, 0, none⟩) ∧ wx.heap[ge]? = some (.cells #[.int .i64 kd, .int .i64 ac, .int .i64 pu, .int .i64 t, .int .i64 nu, .string ea, .string eb, .string ec] 29) ∧ wr.heap.size ≤ ge ∧ Below wr.heap.size wr wx)
        case first =>
          refine wp_region_held_drew (S := fun w2 => (w2.cell? ⟨b, off + n * 7, none⟩ = some (.int .i64 kind) ∧ w2.cell? ⟨b, off + n * 7 + 1, none⟩ = some (.int .i64 who) ∧ w2.cell? ⟨b, off + n * 7 + 2, none⟩ = some (.int .i64 mail) ∧ w2.cell? ⟨b, off + n * 7 + 3, none⟩ = some (.int .i64 salt) ∧ w2.cell? ⟨b, off + n * 7 + 4, none⟩ = some (.int .i64 chk) ∧ w2.cell? ⟨b, off + n * 7 + 5, none⟩ = some (.int .i64 at0) ∧ w2.cell? ⟨b, off + n * 7 + 6, none⟩ = some (.int .i64 nn)) ∧ w2.cell? ⟨w1.heap.size, 0, none⟩ = some (.slice ap p.ps.length cp) ∧ w2.cell? ⟨w1.heap.size, 1, none⟩ = some (.slice ap' p.ss.length cp')) (by kernel_rfl) ?_ (fun hHeld0 => ?_)
          · exact CF.out _ (below_drew (Below.refl _ _))
          refine wpAnyH_take (i := 0) (v := ?_) rfl (by kernel_rfl) (by kernel_rfl) (by kernel_rfl) (fun _ _ _ h => h) (Or.inl ⟨by rfl, ?_⟩) (by assumption) ?_
          rotate_left
          · intro w hSw; (try dsimp only at hSw); obtain ⟨⟨g0, g1, g2, g3, g4, g5, g6⟩, q0, q1⟩ := hSw; go_simp; (try with_reducible rfl)
          simp only [List.getElem_toArray, List.getElem_cons_zero, Act.put, List.setIfInBounds_toArray, List.set_cons_zero, List.set_cons_succ]
          refine wpAnyH_take (i := 1) (v := ?_) rfl (by kernel_rfl) (by kernel_rfl) (by kernel_rfl) (fun _ _ _ h => h) (Or.inl ⟨by rfl, ?_⟩) (by assumption) ?_
          rotate_left
          · intro w hSw; (try dsimp only at hSw); obtain ⟨⟨g0, g1, g2, g3, g4, g5, g6⟩, q0, q1⟩ := hSw; go_simp; (try with_reducible rfl)
          simp only [List.getElem_toArray, List.getElem_cons_succ, List.getElem_cons_zero, Act.put, List.setIfInBounds_toArray, List.set_cons_zero, List.set_cons_succ]
          refine wpAnyH_take (i := 2) (v := ?_) rfl (by kernel_rfl) (by kernel_rfl) (by kernel_rfl) (fun _ _ _ h => h) (Or.inl ⟨by rfl, ?_⟩) (by assumption) ?_
          rotate_left
          · intro w hSw; (try dsimp only at hSw); obtain ⟨⟨g0, g1, g2, g3, g4, g5, g6⟩, q0, q1⟩ := hSw; go_simp; (try with_reducible rfl)
          simp only [List.getElem_toArray, List.getElem_cons_succ, List.getElem_cons_zero, Act.put, List.setIfInBounds_toArray, List.set_cons_zero, List.set_cons_succ]
          refine wpAnyH_take (i := 3) (v := ?_) rfl (by kernel_rfl) (by kernel_rfl) (by kernel_rfl) (fun _ _ _ h => h) (Or.inl ⟨by rfl, ?_⟩) (by assumption) ?_
          rotate_left
          · intro w hSw; (try dsimp only at hSw); obtain ⟨⟨g0, g1, g2, g3, g4, g5, g6⟩, q0, q1⟩ := hSw; go_simp; (try with_reducible rfl)
          simp only [List.getElem_toArray, List.getElem_cons_succ, List.getElem_cons_zero, Act.put, List.setIfInBounds_toArray, List.set_cons_zero, List.set_cons_succ]
          refine wpAnyH_take (i := 4) (v := ?_) rfl (by kernel_rfl) (by kernel_rfl) (by kernel_rfl) (fun _ _ _ h => h) (Or.inl ⟨by rfl, ?_⟩) (by assumption) ?_
          rotate_left
          · intro w hSw; (try dsimp only at hSw); obtain ⟨⟨g0, g1, g2, g3, g4, g5, g6⟩, q0, q1⟩ := hSw; go_simp; (try with_reducible rfl)
          simp only [List.getElem_toArray, List.getElem_cons_succ, List.getElem_cons_zero, Act.put, List.setIfInBounds_toArray, List.set_cons_zero, List.set_cons_succ]
          refine wpAnyH_ready (rs := [5, 6]) (by kernel_rfl) (by simp) ?_
          refine AllReadyH.cons rfl (fun K hK => ?_) (AllReadyH.cons rfl (fun K hK => ?_) AllReadyH.nil)
          · go_simp
            (go_at_call 10; (refine (EV.out _ (below_drew (Below.refl _ _))).mono ?_); rintro z w4 ⟨rfl, b4⟩)
            have B4 := Lib.hid ((below_drew (Below.refl _ _)).trans b4)
            refine hK.out _ _ ?_ (fun hHeld1 => ?_)
            · exact CF.out _ B4.out
            clear hK K b4
            try simp only [List.getElem_toArray, List.getElem_cons_succ, List.getElem_cons_zero, Act.put, List.setIfInBounds_toArray, List.set_cons_zero, List.set_cons_succ]
            refine wpAnyH_ready (rs := [6]) (by kernel_rfl) (by simp) ?_
            refine AllReadyH.cons rfl (fun K hK => ?_) AllReadyH.nil
            go_simp
            refine hK.out _ _ ?_ (fun hHeld2 => ?_)
            · exact CF.out _ (B4.out.alloc B4.out.size _)
            clear hK K
            try simp only [List.getElem_toArray, List.getElem_cons_succ, List.getElem_cons_zero, Act.put, List.setIfInBounds_toArray, List.set_cons_zero, List.set_cons_succ]
            refine wpAnyH_ready (rs := [7]) (by kernel_rfl) (by simp) ?_
            refine AllReadyH.cons rfl (fun K hK => ?_) AllReadyH.nil
            go_simp
            refine hK.out _ _ ?_ (fun hHeld3 => ?_)
            · exact CF.out _ (B4.out.alloc B4.out.size _)
            clear hK K
            refine wpAnyH_done (by kernel_rfl) ?_ _
            go_wp2_with fail
            go_meet
            case rel => exact ⟨w4.heap.size, rfl, heap_new _ _, B4.out.size, B4.out.alloc B4.out.size _⟩
          · go_simp
            have b3 : Below wr.heap.size wr (wr.alloc (.cells #[.int .i64 0, .int .i64 0, .int .i64 0, .int .i64 0, .int .i64 0, .string ⟨#[]⟩, .string ⟨#[]⟩, .string ⟨#[]⟩] 29)).drew := below_drew ((Below.refl _ _).alloc (Nat.le_refl _) _)
            have s3 : (wr.alloc (.cells #[.int .i64 0, .int .i64 0, .int .i64 0, .int .i64 0, .int .i64 0, .string ⟨#[]⟩, .string ⟨#[]⟩, .string ⟨#[]⟩] 29)).drew.heap.size = wr.heap.size + 1 := by simp [World.drew]
            refine hK.out _ _ ?_ (fun hHeld1 => ?_)
            · exact CF.out _ b3
            clear hK K
            try simp only [List.getElem_toArray, List.getElem_cons_succ, List.getElem_cons_zero, Act.put, List.setIfInBounds_toArray, List.set_cons_zero, List.set_cons_succ]
            refine wpAnyH_ready (rs := [5]) (by kernel_rfl) (by simp) ?_
            refine AllReadyH.cons rfl (fun K hK => ?_) AllReadyH.nil
            go_simp
            (go_at_call 10; (refine (EV.out _ (b3)).mono ?_); rintro z w4 ⟨rfl, b4⟩)
            have B4 := Lib.hid (b3.trans (b4.mono (by omega)))
            have hz : w4.heap[wr.heap.size]? = some ((.cells #[.int .i64 0, .int .i64 0, .int .i64 0, .int .i64 0, .int .i64 0, .string ⟨#[]⟩, .string ⟨#[]⟩, .string ⟨#[]⟩] 29)) := (b4.block wr.heap.size (by omega)).trans (heap_new wr (.cells #[.int .i64 0, .int .i64 0, .int .i64 0, .int .i64 0, .int .i64 0, .string ⟨#[]⟩, .string ⟨#[]⟩, .string ⟨#[]⟩] 29))
            obtain ⟨y0, y1, y2, y3, y4, y5, y6, y7⟩ := EvAt.of (e := ⟨0, 0, 0, 0, 0, ⟨#[]⟩, ⟨#[]⟩, ⟨#[]⟩⟩) hz
            have yf := fun j => frozen_of_row _ _ j _ _ hz
            have HZ := Lib.hid (ev_set (e0 := ⟨0, 0, 0, 0, 0, ⟨#[]⟩, ⟨#[]⟩, ⟨#[]⟩⟩) hz ⟨kd, ac, pu, t, nu, ea, eb, ec⟩)
            simp only at y0 y1 y2 y3 y4 y5 y6 y7
            refine hK.out _ _ ?_ (fun hHeld2 => ?_)
            · exact CF.out _ B4.out
            clear hK K b4 hz
            try simp only [List.getElem_toArray, List.getElem_cons_succ, List.getElem_cons_zero, Act.put, List.setIfInBounds_toArray, List.set_cons_zero, List.set_cons_succ]
            refine wpAnyH_ready (rs := [7]) (by kernel_rfl) (by simp) ?_
            refine AllReadyH.cons rfl (fun K hK => ?_) AllReadyH.nil
            go_simp
            refine hK.out _ _ ?_ (fun hHeld3 => ?_)
            · exact CF.out _ (below_ev B4.out (Nat.le_refl _) _ _ _ _ _ _ _ _)
            clear hK K
            refine wpAnyH_done (by kernel_rfl) ?_ _
            go_wp2_with fail
            go_meet
            case rel => exact ⟨wr.heap.size, rfl, HZ.out, Nat.le_refl _, below_ev B4.out (Nat.le_refl _) _ _ _ _ _ _ _ _⟩
        case rest =>
          obtain ⟨ge, rfl, he, hge, bc⟩ := hcut
          obtain ⟨y0, y1, y2, y3, y4, y5, y6, y7⟩ := EVG.out _ _ he
          simp only at y0 y1 y2 y3 y4 y5 y6 y7
          have BC := Lib.hid bc
          have HE := Lib.hid he
          obtain ⟨_, k0, k1⟩ := CF.out _ bc
          clear EV bc he
          go_wp2_with ((go_at_call 11; (with_reducible refine (AP.out _ BC.out).mono ?_); rintro z w5 ⟨a, c, a', c', rfl, o5, b5⟩; have O5 := Lib.hid o5; have B5 := Lib.hid (BC.out.trans (b5.mono BC.out.size)); have HE5 := Lib.hid ((b5.block ge (heap_lt HE.out)).trans HE.out); clear o5 b5))
          have s5 := B5.out.size
          have h6a := heap_new w5 (pobj (.slice a X.ps.length c) (.slice a' X.ss.length c'))
          have b56 : Below w5.heap.size w5 (w5.alloc (pobj (.slice a X.ps.length c) (.slice a' X.ss.length c'))) := (Below.refl _ _).alloc (Nat.le_refl _) _
          have s6 : (w5.alloc (pobj (.slice a X.ps.length c) (.slice a' X.ss.length c'))).heap.size = w5.heap.size + 1 := by simp
          have HB6 := Lib.hid h6a
          have B6W := Lib.hid (B5.out.trans (b56.mono s5))
          have HE6 := Lib.hid ((b56.block ge (heap_lt HE5.out)).trans HE5.out)
          have OX6 := Lib.hid (O5.out.below b56)
          have HBX6 := Lib.hid ((B6W.out.block w1.heap.size hg1).trans HBX.out)
          have S6 := Lib.hid s6
          clear h6a b56
          obtain ⟨w6, hw6⟩ : ∃ w6, w5.alloc (pobj (.slice a X.ps.length c) (.slice a' X.ss.length c')) = w6 := ⟨_, rfl⟩
          rw [hw6] at HB6 B6W HE6 OX6 HBX6 S6 s6
          unfold pobj at hw6
          rw [hw6]
          clear hw6
          have OS6 : Hid (Ses.owns w6 W.heap.size (.slice a' X.ss.length c') X.ss) := Lib.hid (by
            obtain ⟨_, _, _, _, hq, _, hs⟩ := OX6.out
            simp only [Value.agg.injEq, Array.mk.injEq, List.cons.injEq, and_true] at hq
            rw [hq.2]
            exact hs)
          have F6 : Hid (∀ w2, Below w6.heap.size w6 w2 → (w2.cell? ⟨w5.heap.size, 0, none⟩ = some (.slice a X.ps.length c) ∧ w2.cell? ⟨w5.heap.size, 1, none⟩ = some (.slice a' X.ss.length c')) ∧ EvAt w2 ge ⟨kd, ac, pu, t, nu, ea, eb, ec⟩) := Lib.hid (fun w2 b2 => ⟨(pcell_of ((b2.block _ (by omega)).trans HB6.out)).1, EvAt.of ((b2.block _ (heap_lt HE6.out)).trans HE6.out)⟩)
          have hsl16 := HX.out.slen
          go_loopw [12] (fun i wq => ∃ k : Nat, k ≤ X.ss.length ∧ i = .int .i64 k ∧ Below w6.heap.size w6 wq) (fun i _ => X.ss.length - (intOf i).toNat)
          case atStart => exact ⟨0, Nat.zero_le _, rfl, Below.refl _ _⟩
          case round =>
            obtain ⟨k, hk, rfl, bq⟩ := hrel
            have BQ := Lib.hid bq
            obtain ⟨⟨n0, n1⟩, v0, v1, v2, v3, v4, v5, v6, v7⟩ := F6.out _ bq
            simp only at v0 v1 v2 v3 v4 v5 v6 v7
            by_cases hkp : k < X.ss.length
            · have hkp' : (k : Int) < X.ss.length := by omega
              have hk0 : (0 : Int) ≤ k := by omega
              have hsf := SX.out.find hkp tq
              have MM : Hid (∀ w2, Below w6.heap.size w6 w2 → ∃ g, a' = some ⟨g, 0, none⟩ ∧ w2.cell? ⟨g, k * 3, none⟩ = some (.string X.ss[k].dig) ∧ w2.cell? ⟨g, k * 3 + 1, none⟩ = some (.int .i64 X.ss[k].acc) ∧ w2.cell? ⟨g, k * 3 + 2, none⟩ = some (.int .i64 X.ss[k].exp)) := Lib.hid (fun w2 b2 => by
                obtain ⟨g, hg, _, _, h⟩ := (OS6.out.below b2).all k hkp
                rw [List.getElem?_eq_getElem hkp, Option.getD_some] at h
                exact ⟨g, hg, h⟩)
              have FY : Hid (∀ w2, Below w6.heap.size w6 w2 → Calls Tryd.prog 14 #[.agg #[.slice a X.ps.length c, .slice a' X.ss.length c'], .string X.ss[k].dig, .int .i64 tq] w2 fun r w' => r = .returned (.tuple #[(spick X.ss (lives X.ss[k].dig tq)).agg, .bool (decide (tq < X.ss[k].exp))]) ∧ Below w2.heap.size w2 w') := Lib.hid (fun w2 b2 => by
                have h := psession_any (OX6.out.below b2) HX.out.few X.ss[k].dig tq
                rw [hsf.1] at h
                exact h)
              have SR := Lib.hid hsf.2
              have GN := Lib.hid (fun hk9 h0 => SGONE.out hk9 h0 k hkp)
              have NER := Lib.hid (fun w => Ses.ne_run X.ss[k] X.ss[k] w)
              have NEB : Hid (Ses.eqB X.ss[k] X.ss[k] = true) := Lib.hid ((Ses.eqB_iff _ _).2 rfl)
              generalize spick X.ss (lives X.ss[k].dig tq) = rs at *
              generalize X.ss[k] = x at *
              obtain ⟨xd, xa, xx⟩ := x
              obtain ⟨rd, ra, rx⟩ := rs
              unfold Ses.R.agg at FY NER
              simp only at MM FY SR GN NER hsf
              rw [NEB.out] at NER
              clear NEB hsf
              obtain ⟨g, hg, m0, m1, m2⟩ := MM.out _ bq
              subst hg
              have CF2 : Hid (∀ w2, Below wr.heap.size wr w2 → (w2.cell? ⟨w5.heap.size, 0, none⟩ = some (.slice a X.ps.length c) ∧ w2.cell? ⟨w5.heap.size, 1, none⟩ = some (.slice (some ⟨g, 0, none⟩) X.ss.length c')) ∧ w2.cell? ⟨g, k * 3, none⟩ = some (.string xd) ∧ w2.cell? ⟨g, k * 3 + 1, none⟩ = some (.int .i64 xa) ∧ w2.cell? ⟨g, k * 3 + 2, none⟩ = some (.int .i64 xx)) := Lib.hid (fun w2 b2 => by
                have b := BQ.out.trans (b2.mono BQ.out.size)
                obtain ⟨g2, hg2, h⟩ := MM.out w2 b
                cases hg2
                exact ⟨(F6.out w2 b).1, h⟩)
              go_wp2_with fail
              go_cut [13, 14] (fun x13 x14 wx => ∃ gs, x13 = .pointer (some ⟨gs, 0, none⟩) ∧ x14 = .bool (decide (tq < xx)) ∧ wx.heap[gs]? = some (.cells #[.string rd, .int .i64 ra, .int .i64 rx] 47) ∧ wr.heap.size ≤ gs ∧ Below wr.heap.size wr wx)
              case first =>
                refine wp_region_held_drew (S := fun w2 => (w2.cell? ⟨w5.heap.size, 0, none⟩ = some (.slice a X.ps.length c) ∧ w2.cell? ⟨w5.heap.size, 1, none⟩ = some (.slice (some ⟨g, 0, none⟩) X.ss.length c')) ∧ w2.cell? ⟨g, k * 3, none⟩ = some (.string xd) ∧ w2.cell? ⟨g, k * 3 + 1, none⟩ = some (.int .i64 xa) ∧ w2.cell? ⟨g, k * 3 + 2, none⟩ = some (.int .i64 xx)) (by kernel_rfl) ?_ (fun hHeld0 => ?_)
                · exact CF2.out _ (below_drew (Below.refl _ _))
                refine wpAnyH_take (i := 0) (v := ?_) rfl (by kernel_rfl) (by kernel_rfl) (by kernel_rfl) (fun _ _ _ h => h) (Or.inl ⟨by rfl, ?_⟩) (by assumption) ?_
                rotate_left
                · intro w hSw; (try dsimp only at hSw); obtain ⟨⟨q0, q1⟩, q2, q3, q4⟩ := hSw; go_simp; (try with_reducible rfl)
                simp only [List.getElem_toArray, List.getElem_cons_zero, Act.put, List.setIfInBounds_toArray, List.set_cons_zero, List.set_cons_succ]
                refine wpAnyH_take (i := 1) (v := ?_) rfl (by kernel_rfl) (by kernel_rfl) (by kernel_rfl) (fun _ _ _ h => h) (Or.inl ⟨by rfl, ?_⟩) (by assumption) ?_
                rotate_left
                · intro w hSw; (try dsimp only at hSw); obtain ⟨⟨q0, q1⟩, q2, q3, q4⟩ := hSw; go_simp; (try with_reducible rfl)
                simp only [List.getElem_toArray, List.getElem_cons_succ, List.getElem_cons_zero, Act.put, List.setIfInBounds_toArray, List.set_cons_zero, List.set_cons_succ]
                refine wpAnyH_take (i := 2) (v := ?_) rfl (by kernel_rfl) (by kernel_rfl) (by kernel_rfl) (fun _ _ _ h => h) (Or.inl ⟨by rfl, ?_⟩) (by assumption) ?_
                rotate_left
                · intro w hSw; (try dsimp only at hSw); obtain ⟨⟨q0, q1⟩, q2, q3, q4⟩ := hSw; go_simp; (try with_reducible rfl)
                simp only [List.getElem_toArray, List.getElem_cons_succ, List.getElem_cons_zero, Act.put, List.setIfInBounds_toArray, List.set_cons_zero, List.set_cons_succ]
                refine wpAnyH_take (i := 3) (v := ?_) rfl (by kernel_rfl) (by kernel_rfl) (by kernel_rfl) (fun _ _ _ h => h) (Or.inl ⟨by rfl, ?_⟩) (by assumption) ?_
                rotate_left
                · intro w hSw; (try dsimp only at hSw); obtain ⟨⟨q0, q1⟩, q2, q3, q4⟩ := hSw; go_simp; (try with_reducible rfl)
                simp only [List.getElem_toArray, List.getElem_cons_succ, List.getElem_cons_zero, Act.put, List.setIfInBounds_toArray, List.set_cons_zero, List.set_cons_succ]
                refine wpAnyH_take (i := 4) (v := ?_) rfl (by kernel_rfl) (by kernel_rfl) (by kernel_rfl) (fun _ _ _ h => h) (Or.inl ⟨by rfl, ?_⟩) (by assumption) ?_
                rotate_left
                · intro w hSw; (try dsimp only at hSw); obtain ⟨⟨q0, q1⟩, q2, q3, q4⟩ := hSw; go_simp; (try with_reducible rfl)
                simp only [List.getElem_toArray, List.getElem_cons_succ, List.getElem_cons_zero, Act.put, List.setIfInBounds_toArray, List.set_cons_zero, List.set_cons_succ]
                refine wpAnyH_take (i := 5) (v := ?_) rfl (by kernel_rfl) (by kernel_rfl) (by kernel_rfl) (fun _ _ _ h => h) (Or.inl ⟨by rfl, ?_⟩) (by assumption) ?_
                rotate_left
                · intro w hSw; (try dsimp only at hSw); obtain ⟨⟨q0, q1⟩, q2, q3, q4⟩ := hSw; go_simp; (try with_reducible rfl)
                simp only [List.getElem_toArray, List.getElem_cons_succ, List.getElem_cons_zero, Act.put, List.setIfInBounds_toArray, List.set_cons_zero, List.set_cons_succ]
                refine wpAnyH_take (i := 6) (v := ?_) rfl (by kernel_rfl) (by kernel_rfl) (by kernel_rfl) (fun _ _ _ h => h) (Or.inl ⟨by rfl, ?_⟩) (by assumption) ?_
                rotate_left
                · intro w hSw; (try dsimp only at hSw); obtain ⟨⟨q0, q1⟩, q2, q3, q4⟩ := hSw; go_simp; (try with_reducible rfl)
                simp only [List.getElem_toArray, List.getElem_cons_succ, List.getElem_cons_zero, Act.put, List.setIfInBounds_toArray, List.set_cons_zero, List.set_cons_succ]
                refine wpAnyH_take (i := 7) (v := ?_) rfl (by kernel_rfl) (by kernel_rfl) (by kernel_rfl) (fun _ _ _ h => h) (Or.inl ⟨by rfl, ?_⟩) (by assumption) ?_
                rotate_left
                · intro w hSw; (try dsimp only at hSw); obtain ⟨⟨q0, q1⟩, q2, q3, q4⟩ := hSw; go_simp; (try with_reducible rfl)
                simp only [List.getElem_toArray, List.getElem_cons_succ, List.getElem_cons_zero, Act.put, List.setIfInBounds_toArray, List.set_cons_zero, List.set_cons_succ]
                refine wpAnyH_ready (rs := [8, 12]) (by kernel_rfl) (by simp) ?_
                refine AllReadyH.cons rfl (fun K hK => ?_) (AllReadyH.cons rfl (fun K hK => ?_) AllReadyH.nil)
                · go_simp
                  (go_at_call 14; (refine (FY.out _ (BQ.out.trans ((below_drew (Below.refl _ _)).mono BQ.out.size))).mono ?_); rintro z w8 ⟨rfl, b8⟩)
                  have B8 := Lib.hid ((below_drew (Below.refl wr.heap.size wr)).trans b8)
                  refine hK.out _ _ ?_ (fun hHeld1 => ?_)
                  · exact CF2.out _ B8.out
                  clear hK K
                  try simp only [List.getElem_toArray, List.getElem_cons_succ, List.getElem_cons_zero, Act.put, List.setIfInBounds_toArray, List.set_cons_zero, List.set_cons_succ]
                  refine wpAnyH_take (i := 9) (v := ?_) rfl (by kernel_rfl) (by kernel_rfl) (by kernel_rfl) (fun _ _ _ h => h) (Or.inl ⟨by rfl, ?_⟩) (by assumption) ?_
                  rotate_left
                  · intro w hSw; (try dsimp only at hSw); obtain ⟨⟨q0, q1⟩, q2, q3, q4⟩ := hSw; go_simp; (try with_reducible rfl)
                  simp only [List.getElem_toArray, List.getElem_cons_succ, List.getElem_cons_zero, Act.put, List.setIfInBounds_toArray, List.set_cons_zero, List.set_cons_succ]
                  refine wpAnyH_take (i := 10) (v := ?_) rfl (by kernel_rfl) (by kernel_rfl) (by kernel_rfl) (fun _ _ _ h => h) (Or.inl ⟨by rfl, ?_⟩) (by assumption) ?_
                  rotate_left
                  · intro w hSw; (try dsimp only at hSw); obtain ⟨⟨q0, q1⟩, q2, q3, q4⟩ := hSw; go_simp; (try with_reducible rfl)
                  simp only [List.getElem_toArray, List.getElem_cons_succ, List.getElem_cons_zero, Act.put, List.setIfInBounds_toArray, List.set_cons_zero, List.set_cons_succ]
                  refine wpAnyH_take (i := 11) (v := ?_) rfl (by kernel_rfl) (by kernel_rfl) (by kernel_rfl) (fun _ _ _ h => h) (Or.inl ⟨by rfl, ?_⟩) (by assumption) ?_
                  rotate_left
                  · intro w hSw; (try dsimp only at hSw); obtain ⟨⟨q0, q1⟩, q2, q3, q4⟩ := hSw; go_simp; (try with_reducible rfl)
                  simp only [List.getElem_toArray, List.getElem_cons_succ, List.getElem_cons_zero, Act.put, List.setIfInBounds_toArray, List.set_cons_zero, List.set_cons_succ]
                  refine wpAnyH_ready (rs := [12]) (by kernel_rfl) (by simp) ?_
                  refine AllReadyH.cons rfl (fun K hK => ?_) AllReadyH.nil
                  go_simp
                  refine hK.out _ _ ?_ (fun hHeld2 => ?_)
                  · exact CF2.out _ (B8.out.alloc B8.out.size _)
                  clear hK K
                  try simp only [List.getElem_toArray, List.getElem_cons_succ, List.getElem_cons_zero, Act.put, List.setIfInBounds_toArray, List.set_cons_zero, List.set_cons_succ]
                  refine wpAnyH_ready (rs := [13]) (by kernel_rfl) (by simp) ?_
                  refine AllReadyH.cons rfl (fun K hK => ?_) AllReadyH.nil
                  go_simp
                  refine hK.out _ _ ?_ (fun hHeld3 => ?_)
                  · exact CF2.out _ (B8.out.alloc B8.out.size _)
                  clear hK K
                  try simp only [List.getElem_toArray, List.getElem_cons_succ, List.getElem_cons_zero, Act.put, List.setIfInBounds_toArray, List.set_cons_zero, List.set_cons_succ]
                  refine wpAnyH_take (i := 14) (v := ?_) rfl (by kernel_rfl) (by kernel_rfl) (by kernel_rfl) (fun _ _ _ h => h) (Or.inl ⟨by rfl, ?_⟩) (by assumption) ?_
                  rotate_left
                  · intro w hSw; (try dsimp only at hSw); obtain ⟨⟨q0, q1⟩, q2, q3, q4⟩ := hSw; go_simp; (try with_reducible rfl)
                  try simp only [List.getElem_toArray, List.getElem_cons_succ, List.getElem_cons_zero, Act.put, List.setIfInBounds_toArray, List.set_cons_zero, List.set_cons_succ]
                  refine wpAnyH_done (by kernel_rfl) ?_ _
                  go_wp2_with fail
                  go_meet
                  case rel => exact ⟨w8.heap.size, rfl, rfl, heap_new _ _, B8.out.size, B8.out.alloc B8.out.size _⟩
                · go_simp
                  have b3 : Below wr.heap.size wr (wr.alloc (.cells #[.string ⟨#[]⟩, .int .i64 0, .int .i64 0] 47)).drew := below_drew ((Below.refl _ _).alloc (Nat.le_refl _) _)
                  have s3 : (wr.alloc (.cells #[.string ⟨#[]⟩, .int .i64 0, .int .i64 0] 47)).drew.heap.size = wr.heap.size + 1 := by simp [World.drew]
                  refine hK.out _ _ ?_ (fun hHeld1 => ?_)
                  · exact CF2.out _ b3
                  clear hK K
                  try simp only [List.getElem_toArray, List.getElem_cons_succ, List.getElem_cons_zero, Act.put, List.setIfInBounds_toArray, List.set_cons_zero, List.set_cons_succ]
                  refine wpAnyH_ready (rs := [8]) (by kernel_rfl) (by simp) ?_
                  refine AllReadyH.cons rfl (fun K hK => ?_) AllReadyH.nil
                  go_simp
                  (go_at_call 14; (refine (FY.out _ (BQ.out.trans ((b3).mono BQ.out.size))).mono ?_); rintro z w8 ⟨rfl, b8⟩)
                  have B8 := Lib.hid (b3.trans (b8.mono (by omega)))
                  have hz : w8.heap[wr.heap.size]? = some (.cells #[.string ⟨#[]⟩, .int .i64 0, .int .i64 0] 47) := (b8.block wr.heap.size (by omega)).trans (heap_new wr (.cells #[.string ⟨#[]⟩, .int .i64 0, .int .i64 0] 47))
                  obtain ⟨y0, y1, y2⟩ := Ses.At.of_heap (m := ⟨⟨#[]⟩, 0, 0⟩) hz
                  have yf := fun j => frozen_of_row _ _ j _ _ hz
                  have HZ := Lib.hid (ses_set hz (.string rd) (.int .i64 ra) (.int .i64 rx))
                  simp only at y0 y1 y2
                  clear hz
                  refine hK.out _ _ ?_ (fun hHeld2 => ?_)
                  · exact CF2.out _ B8.out
                  clear hK K
                  try simp only [List.getElem_toArray, List.getElem_cons_succ, List.getElem_cons_zero, Act.put, List.setIfInBounds_toArray, List.set_cons_zero, List.set_cons_succ]
                  refine wpAnyH_take (i := 9) (v := ?_) rfl (by kernel_rfl) (by kernel_rfl) (by kernel_rfl) (fun _ _ _ h => h) (Or.inl ⟨by rfl, ?_⟩) (by assumption) ?_
                  rotate_left
                  · intro w hSw; (try dsimp only at hSw); obtain ⟨⟨q0, q1⟩, q2, q3, q4⟩ := hSw; go_simp; (try with_reducible rfl)
                  simp only [List.getElem_toArray, List.getElem_cons_succ, List.getElem_cons_zero, Act.put, List.setIfInBounds_toArray, List.set_cons_zero, List.set_cons_succ]
                  refine wpAnyH_take (i := 10) (v := ?_) rfl (by kernel_rfl) (by kernel_rfl) (by kernel_rfl) (fun _ _ _ h => h) (Or.inl ⟨by rfl, ?_⟩) (by assumption) ?_
                  rotate_left
                  · intro w hSw; (try dsimp only at hSw); obtain ⟨⟨q0, q1⟩, q2, q3, q4⟩ := hSw; go_simp; (try with_reducible rfl)
                  simp only [List.getElem_toArray, List.getElem_cons_succ, List.getElem_cons_zero, Act.put, List.setIfInBounds_toArray, List.set_cons_zero, List.set_cons_succ]
                  refine wpAnyH_take (i := 11) (v := ?_) rfl (by kernel_rfl) (by kernel_rfl) (by kernel_rfl) (fun _ _ _ h => h) (Or.inl ⟨by rfl, ?_⟩) (by assumption) ?_
                  rotate_left
                  · intro w hSw; (try dsimp only at hSw); obtain ⟨⟨q0, q1⟩, q2, q3, q4⟩ := hSw; go_simp; (try with_reducible rfl)
                  simp only [List.getElem_toArray, List.getElem_cons_succ, List.getElem_cons_zero, Act.put, List.setIfInBounds_toArray, List.set_cons_zero, List.set_cons_succ]
                  refine wpAnyH_ready (rs := [13]) (by kernel_rfl) (by simp) ?_
                  refine AllReadyH.cons rfl (fun K hK => ?_) AllReadyH.nil
                  go_simp
                  refine hK.out _ _ ?_ (fun hHeld3 => ?_)
                  · exact CF2.out _ (Ses.below_put (o := 0) B8.out (Nat.le_refl _) _ _ _)
                  clear hK K
                  try simp only [List.getElem_toArray, List.getElem_cons_succ, List.getElem_cons_zero, Act.put, List.setIfInBounds_toArray, List.set_cons_zero, List.set_cons_succ]
                  refine wpAnyH_take (i := 14) (v := ?_) rfl (by kernel_rfl) (by kernel_rfl) (by kernel_rfl) (fun _ _ _ h => h) (Or.inl ⟨by rfl, ?_⟩) (by assumption) ?_
                  rotate_left
                  · intro w hSw; (try dsimp only at hSw); obtain ⟨⟨q0, q1⟩, q2, q3, q4⟩ := hSw; go_simp; (try with_reducible rfl)
                  try simp only [List.getElem_toArray, List.getElem_cons_succ, List.getElem_cons_zero, Act.put, List.setIfInBounds_toArray, List.set_cons_zero, List.set_cons_succ]
                  refine wpAnyH_done (by kernel_rfl) ?_ _
                  go_wp2_with fail
                  go_meet
                  case rel => exact ⟨wr.heap.size, rfl, rfl, HZ.out, Nat.le_refl _, Ses.below_put (o := 0) B8.out (Nat.le_refl _) _ _ _⟩
              case rest =>
                obtain ⟨gs, rfl, rfl, hgs, hgl, bc2⟩ := hcut
                obtain ⟨⟨o0, o1⟩, l0, l1, l2⟩ := CF2.out _ bc2
                obtain ⟨u0, u1, u2⟩ := Ses.At.of_heap (m := ⟨rd, ra, rx⟩) hgs
                simp only at u0 u1 u2
                have BW2 := Lib.hid (BQ.out.trans (bc2.mono BQ.out.size))
                obtain ⟨_, z0, z1, z2, z3, z4, z5, z6, z7⟩ := F6.out _ BW2.out
                simp only at z0 z1 z2 z3 z4 z5 z6 z7
                have NE := NER.out
                by_cases hq : tq < xx
                · have hsr := SR.out hq
                  simp only [Ses.R.mk.injEq] at hsr
                  obtain ⟨rfl, rfl, rfl⟩ := hsr
                  have hd := decide_eq_true hq
                  rw [hd]
                  by_cases hf : fe = 0
                  · by_cases h9 : kd = 9
                    · have hx : (ra == ac) = false := beq_eq_false_iff_ne.2 (GN.out h9 hf)
                      subst hf h9
                      go_wp2_with fail
                      go_quiet (fail)
                      go_wp2_with fail
                      go_quiet (fail)
                      go_wp2_with fail
                      go_roundw
                      case rel => exact ⟨k + 1, by omega, by go_num, below_drewN BW2.out _⟩
                      case measure => simp [intOf]; omega
                    · have hx : (kd == 9) = false := beq_eq_false_iff_ne.2 h9
                      subst hf
                      go_wp2_with fail
                      go_quiet (fail)
                      go_wp2_with fail
                      go_quiet (fail)
                      go_wp2_with fail
                      go_roundw
                      case rel => exact ⟨k + 1, by omega, by go_num, below_drewN BW2.out _⟩
                      case measure => simp [intOf]; omega
                  · have hx : (fe == 0) = false := beq_eq_false_iff_ne.2 hf
                    go_wp2_with fail
                    go_quiet (fail)
                    go_wp2_with fail
                    go_quiet (fail)
                    go_wp2_with fail
                    go_roundw
                    case rel => exact ⟨k + 1, by omega, by go_num, below_drewN BW2.out _⟩
                    case measure => simp [intOf]; omega
                · have hd := decide_eq_false hq
                  rw [hd]
                  by_cases hf : fe = 0
                  · by_cases h9 : kd = 9
                    · have hx : (xa == ac) = false := beq_eq_false_iff_ne.2 (GN.out h9 hf)
                      subst hf h9
                      go_wp2_with fail
                      go_quiet (fail)
                      go_wp2_with fail
                      go_quiet (fail)
                      go_wp2_with fail
                      go_roundw
                      case rel => exact ⟨k + 1, by omega, by go_num, below_drewN BW2.out _⟩
                      case measure => simp [intOf]; omega
                    · have hx : (kd == 9) = false := beq_eq_false_iff_ne.2 h9
                      subst hf
                      go_wp2_with fail
                      go_quiet (fail)
                      go_wp2_with fail
                      go_quiet (fail)
                      go_wp2_with fail
                      go_roundw
                      case rel => exact ⟨k + 1, by omega, by go_num, below_drewN BW2.out _⟩
                      case measure => simp [intOf]; omega
                  · have hx : (fe == 0) = false := beq_eq_false_iff_ne.2 hf
                    go_wp2_with fail
                    go_quiet (fail)
                    go_wp2_with fail
                    go_quiet (fail)
                    go_wp2_with fail
                    go_roundw
                    case rel => exact ⟨k + 1, by omega, by go_num, below_drewN BW2.out _⟩
                    case measure => simp [intOf]; omega
            · have hkp' : ¬ (k : Int) < X.ss.length := by omega
              have hbx := (BQ.out.block w1.heap.size (by have := BE.out.size; have := B6W.out.size; omega)).trans HBX6.out
              obtain ⟨⟨r0, r1⟩, rf⟩ := pcell_of hbx
              have H1 := Lib.hid hbx
              have O7 := Lib.hid (OX6.out.below bq)
              have BW := Lib.hid (BE.out.trans ((B6W.out.trans (bq.mono B6W.out.size)).mono BE.out.size))
              clear hbx bq
              by_cases h8 : kd = 8
              · by_cases hf : fe = 0
                · have hsn := SNEW.out h8 hf (nu - 1) (by omega)
                  have hnu := NUM.out
                  have hwn : IntKind.i64.wrap (nu - 1) = nu - 1 := by rw [IntKind.wrap_i64] <;> omega
                  have FZ : Hid (∀ w2, Below w6.heap.size w6 w2 → Calls Tryd.prog 14 #[.agg #[.slice a X.ps.length c, .slice a' X.ss.length c'], .string ec, .int .i64 (nu - 1)] w2 fun r w' => r = .returned (.tuple #[.agg #[.string ec, .int .i64 ac, .int .i64 nu], .bool true]) ∧ Below w2.heap.size w2 w') := Lib.hid (fun w2 b2 => by
                    have h := psession_any (OX6.out.below b2) HX.out.few ec (nu - 1)
                    rw [hsn.1, hsn.2] at h
                    exact h)
                  subst hf h8
                  clear hsn
                  go_wp2_with (go_at_call 14; (refine (FZ.out _ BQ.out).mono ?_); rintro z w8 ⟨rfl, b8⟩; have b9 := b8.alloc b8.size (.cells #[.string ec, .int .i64 ac, .int .i64 nu] 47); have hq1 := (b9.block w1.heap.size (heap_lt H1.out)).trans H1.out; have B9 := Lib.hid b9; obtain ⟨⟨j0, j1⟩, y0, y1, y2, y3, y4, y5, y6, y7⟩ := F6.out _ (BQ.out.trans (b9.mono BQ.out.size)); simp only at y0 y1 y2 y3 y4 y5 y6 y7; obtain ⟨⟨s0, s1'⟩, sf⟩ := pcell_of hq1; have H9 := Lib.hid hq1; clear hq1 b8 b9)
                  go_roundw
                  case rel => exact ⟨n + 1, X, _, _, by omega, by omega, by go_num, HX.out, SX.out, (O7.out.below B9.out).apart H9.out _ _, pbox_set H9.out _ _, ((BW.out.trans (B9.out.mono BW.out.size)).setCell s1 _).setCell s1 _⟩
                  case measure => simp [intOf]; omega
                · have hx : (fe == 0) = false := beq_eq_false_iff_ne.2 hf
                  subst h8
                  go_wp2_with fail
                  go_roundw
                  case rel => exact ⟨n + 1, X, _, _, by omega, by omega, by go_num, HX.out, SX.out, O7.out.apart H1.out _ _, pbox_set H1.out _ _, (BW.out.setCell s1 _).setCell s1 _⟩
                  case measure => simp [intOf]; omega
              · have hx8 : (kd == 8) = false := beq_eq_false_iff_ne.2 h8
                by_cases h9 : kd = 9
                · subst h9
                  by_cases hf : fe = 0
                  · subst hf
                    go_wp2_with fail
                    go_roundw
                    case rel => exact ⟨n + 1, X, _, _, by omega, by omega, by go_num, HX.out, SX.out, O7.out.apart H1.out _ _, pbox_set H1.out _ _, (BW.out.setCell s1 _).setCell s1 _⟩
                    case measure => simp [intOf]; omega
                  · have hx : (fe == 0) = false := beq_eq_false_iff_ne.2 hf
                    go_wp2_with fail
                    go_roundw
                    case rel => exact ⟨n + 1, X, _, _, by omega, by omega, by go_num, HX.out, SX.out, O7.out.apart H1.out _ _, pbox_set H1.out _ _, (BW.out.setCell s1 _).setCell s1 _⟩
                    case measure => simp [intOf]; omega
                · have hx9 : (kd == 9) = false := beq_eq_false_iff_ne.2 h9
                  have hl : X.ss.length = p.ss.length := by rw [SSAME.out h8 h9]
                  have hl' : (X.ss.length : Int) = p.ss.length := by omega
                  by_cases hf : fe = 0
                  · subst hf
                    go_wp2_with fail
                    go_roundw
                    case rel => exact ⟨n + 1, X, _, _, by omega, by omega, by go_num, HX.out, SX.out, O7.out.apart H1.out _ _, (by have h := pbox_set H1.out (.slice a X.ps.length c) (.slice a' X.ss.length c'); rw [hl] at h ⊢; exact h), (BW.out.setCell s1 _).setCell s1 _⟩
                    case measure => simp [intOf]; omega
                  · have hx : (fe == 0) = false := beq_eq_false_iff_ne.2 hf
                    go_wp2_with fail
                    go_roundw
                    case rel => exact ⟨n + 1, X, _, _, by omega, by omega, by go_num, HX.out, SX.out, O7.out.apart H1.out _ _, (by have h := pbox_set H1.out (.slice a X.ps.length c) (.slice a' X.ss.length c'); rw [hl] at h ⊢; exact h), (BW.out.setCell s1 _).setCell s1 _⟩
                    case measure => simp [intOf]; omega
      · have hB' : ¬ (n : Int) < 60 := by omega
        have hA' : (n : Int) < len := by omega
        clear ho hb bel hp hsi
        go_wp2_with fail
        go_ret
        exact ⟨rfl, BE.out⟩
    · have hA' : ¬ (n : Int) < len := by omega
      clear ho hb bel hp hsi
      go_wp2_with fail
      go_ret
      exact ⟨rfl, BE.out⟩
end Go.Proofs.YtkihleecjgoipaaDoor
