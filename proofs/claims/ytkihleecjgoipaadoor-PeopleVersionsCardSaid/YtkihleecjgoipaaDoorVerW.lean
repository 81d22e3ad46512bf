/- PeopleVersions: the walk. Written by wip/tools/mkver.py. -/
import Derived.Test.YtkihleecjgoipaaDoorScr16
import Derived.Test.YtkihleecjgoipaaDoorPpV
import Derived.Deep.DeepCutAuto
import Derived.Deep.CutBlock
namespace Go.Proofs.YtkihleecjgoipaaDoor
open Go.RowKit Go.Maps Go.Proofs.YtkihleecjgoipaaDoor.Rw

set_option maxHeartbeats 8000000 in
set_option maxRecDepth 100000 in
theorem versions_walk (a0 : Option Addr) (len cap : Nat) (W : World) (hm : ML W)
    (hsl : ∀ i, i < len → ∃ b off o, a0 = some ⟨b, off, none⟩ ∧ b < W.heap.size ∧ NumAt W b (off + i * 7) o) :
    Calls Tryd.prog 3 #[.slice a0 len cap] W fun e W' => e = .returned (.bool true) ∧ Below W.heap.size W W' := by
  have AW := Lib.hid (awake_any W hm)
  have HM := Lib.hid hm
  clear hm
  go_enter Tryd.func3, Tryd.ntmps3
  go_wp2_with ((go_at_call 9; (with_reducible refine (AW.out).mono ?_); rintro e w1 ⟨rfl, q1⟩; have WR := Lib.hid q1; clear q1; have XB := Lib.hid (heap_new w1 (pobj (.slice none 0 0) (.slice none 0 0))); have WR2 := Lib.hid (WR.out.alloc WR.out.size (pobj (.slice none 0 0) (.slice none 0 0))); unfold pobj at WR2))
  have s1 := WR.out.size
  clear AW
  go_loopw [5] (fun i wr => ∃ (n : Nat) (p : Ppl) (s1 s2 : Value), n ≤ len ∧ n ≤ 80 ∧ i = .int .i64 n ∧ PI n p ∧ pown wr W.heap.size (.agg #[s1, s2]) p ∧ wr.heap[w1.heap.size]? = some (pobj s1 s2) ∧ Below W.heap.size W wr) (fun i _ => 80 - (intOf i).toNat)
  case atStart => exact ⟨0, ⟨[], []⟩, _, _, Nat.zero_le _, by omega, rfl, PI.nil, pown.nil _ _, XB.out, WR2.out⟩
  case round =>
    obtain ⟨n, p, p1, p2, hnl, hn80, rfl, hp, ho, hb, bel⟩ := hrel
    obtain ⟨ap, cp, ap', cp', hpv, oq1, oq2⟩ := id ho
    simp only [Value.agg.injEq, Array.mk.injEq, List.cons.injEq, and_true] at hpv
    obtain ⟨rfl, rfl⟩ := hpv
    have OP1 := Lib.hid oq1
    have OW := Lib.hid ho
    clear oq1 oq2
    have BE := Lib.hid bel
    have HP := Lib.hid hp
    have HBX := Lib.hid hb
    have hg1 := heap_lt hb
    obtain ⟨⟨c0, c1⟩, cf⟩ := pcell_of hb
    by_cases hA : n < len
    · by_cases hB : n < 80
      · have hA' : (n : Int) < len := by omega
        have hB' : (n : Int) < 80 := by omega
        have hn0' : (0 : Int) ≤ n := by omega
        obtain ⟨b, off, nv, rfl, hb0, hnum⟩ := hsl n hA
        have hat := hnum.below bel hb0
        obtain ⟨kind, who, mail, salt, chk, at0, nn⟩ := nv
        obtain ⟨e0, e1, e2, e3, e4, e5, e6⟩ := hat
        simp only at e0 e1 e2 e3 e4 e5 e6
        obtain ⟨ev, hev⟩ : ∃ ev, evN ⟨kind, who, mail, salt, chk, at0, nn⟩ p = ev := ⟨_, rfl⟩
        have hok : EvOk ev := by rw [← hev]; exact evN_ok _ _
        have EV : Hid (∀ w2, Below wr.heap.size wr w2 → Calls Tryd.prog 10 #[.agg #[.int .i64 kind, .int .i64 who, .int .i64 mail, .int .i64 salt, .int .i64 chk, .int .i64 at0, .int .i64 nn], .agg #[.slice ap p.ps.length cp, .slice ap' p.ss.length cp']] w2 fun e w' => e = .returned ev.agg ∧ Below w2.heap.size w2 w') := Lib.hid (fun w2 b2 => by
          have h := event_any ⟨kind, who, mail, salt, chk, at0, nn⟩ (OW.out.below b2) HP.out.few (HP.out.small (by omega))
          rwa [hev] at h)
        have AP : Hid (∀ w2, Below wr.heap.size wr w2 → Calls Tryd.prog 11 #[.agg #[.slice ap p.ps.length cp, .slice ap' p.ss.length cp'], ev.agg] w2 fun r w' => ∃ a c a' c', r = .returned (.tuple #[.agg #[.slice a (appR p ev).ps.length c, .slice a' (appR p ev).ss.length c'], .int .i64 (appE p ev)]) ∧ pown w' W.heap.size (.agg #[.slice a (appR p ev).ps.length c, .slice a' (appR p ev).ss.length c']) (appR p ev) ∧ Below w2.heap.size w2 w') := Lib.hid (fun w2 b2 => by
          have bw := BE.out.trans (b2.mono BE.out.size)
          refine (papply_any (OW.out.below b2) HP.out.few (HP.out.small (by omega)) bw.size ev (by have := hok.sz; omega) (HM.out.below bw)).mono fun r w' ⟨v', q1, q2, q3⟩ => ?_
          obtain ⟨a, c, a', c', rfl⟩ := q2.form
          exact ⟨a, c, a', c', q1, q2, q3⟩)
        have VF := Lib.hid (fun k (hk : k < p.ps.length) b hb => ver_facts (e := ev) HP.out (by omega) hk b hb)
        have HX := Lib.hid (HP.out.app (e := ev) (by omega) hok)
        have NA := Lib.hid (fun k (hk : k < p.ps.length) => HP.out.next_at (e := ev) hk)
        have GR := Lib.hid (HP.out.grows (e := ev))
        have FDX : Hid (∀ w2 v, pown w2 W.heap.size v (appR p ev) → ∀ k (hk : k < p.ps.length), Calls Tryd.prog 12 #[v, .int .i64 ((k : Int) + 1)] w2 fun r w' => r = .returned (.tuple #[(if hits p ev k = true then doesF p p.ps[k] ev else p.ps[k]).agg, .bool true]) ∧ Below w2.heap.size w2 w') := Lib.hid (fun w2 v o k hk => by
          have hx := HX.out
          have hkx : k < (appR p ev).ps.length := Nat.lt_of_lt_of_le hk GR.out
          have h := find_any o hx.few ((k : Int) + 1)
          have hf := hx.find hkx
          unfold pick at h
          rw [hf.1, hf.2] at h
          have hn := NA.out k hk
          rw [List.getElem?_eq_getElem hkx] at hn
          rw [Option.some.inj hn] at h
          exact h)
        have EVG : Hid (∀ w2 g, w2.heap[g]? = some ev.obj → EvAt w2 g ev) := Lib.hid (fun w2 g h => EvAt.of h)
        have HB0 := Lib.hid hb0
        clear hev hsl hnum hb0 ho hb bel hp
        have RB : Hid (∀ k : Nat, risesB p ev k = (decide (appE p ev = 0) && decide (ev.kind = 3) && decide (ev.acc = (k : Int) + 1))) := Lib.hid (fun k => rfl)
        have IDS := Lib.hid HP.out.id
        have PPS := Lib.hid HP.out.pp
        generalize appR p ev = X at *
        generalize appE p ev = fe at *
        have CF : Hid (∀ w2, Below wr.heap.size wr w2 → (w2.cell? ⟨b, off + n * 7, none⟩ = some (.int .i64 kind) ∧ w2.cell? ⟨b, off + n * 7 + 1, none⟩ = some (.int .i64 who) ∧ w2.cell? ⟨b, off + n * 7 + 2, none⟩ = some (.int .i64 mail) ∧ w2.cell? ⟨b, off + n * 7 + 3, none⟩ = some (.int .i64 salt) ∧ w2.cell? ⟨b, off + n * 7 + 4, none⟩ = some (.int .i64 chk) ∧ w2.cell? ⟨b, off + n * 7 + 5, none⟩ = some (.int .i64 at0) ∧ w2.cell? ⟨b, off + n * 7 + 6, none⟩ = some (.int .i64 nn)) ∧ w2.cell? ⟨w1.heap.size, 0, none⟩ = some (.slice ap p.ps.length cp) ∧ w2.cell? ⟨w1.heap.size, 1, none⟩ = some (.slice ap' p.ss.length cp')) := Lib.hid (fun w2 b2 => by
          have hb1 : b < wr.heap.size := Nat.lt_of_lt_of_le HB0.out BE.out.size
          exact ⟨⟨(b2.cell (p := ⟨b, off + n * 7, none⟩) hb1).trans e0, (b2.cell (p := ⟨b, off + n * 7 + 1, none⟩) hb1).trans e1, (b2.cell (p := ⟨b, off + n * 7 + 2, none⟩) hb1).trans e2, (b2.cell (p := ⟨b, off + n * 7 + 3, none⟩) hb1).trans e3, (b2.cell (p := ⟨b, off + n * 7 + 4, none⟩) hb1).trans e4, (b2.cell (p := ⟨b, off + n * 7 + 5, none⟩) hb1).trans e5, (b2.cell (p := ⟨b, off + n * 7 + 6, none⟩) hb1).trans e6⟩, (b2.cell (p := ⟨w1.heap.size, 0, none⟩) hg1).trans c0, (b2.cell (p := ⟨w1.heap.size, 1, none⟩) hg1).trans c1⟩)
        obtain ⟨kd, ac, pu, t, nu, ea, eb, ec⟩ := ev
        unfold Evn.agg at EV AP
        unfold Evn.obj at EVG
        simp only at *
        go_wp2_with fail
        go_cut [6] (fun x6 wx => ∃ ge, x6 = .pointer (some ⟨ge, 0, none⟩) ∧ wx.heap[ge]? = some (.cells #[.int .i64 kd, .int .i64 ac, .int .i64 pu, .int .i64 t, .int .i64 nu, .string ea, .string eb, .string ec] 29) ∧ wr.heap.size ≤ ge ∧ Below wr.heap.size wr wx)
        case first =>
          refine wp_region_held_drew (S := fun w2 => (w2.cell? ⟨b, off + n * 7, none⟩ = some (.int .i64 kind) ∧ w2.cell? ⟨b, off + n * 7 + 1, none⟩ = some (.int .i64 who) ∧ w2.cell? ⟨b, off + n * 7 + 2, none⟩ = some (.int .i64 mail) ∧ w2.cell? ⟨b, off + n * 7 + 3, none⟩ = some (.int .i64 salt) ∧ w2.cell? ⟨b, off + n * 7 + 4, none⟩ = some (.int .i64 chk) ∧ w2.cell? ⟨b, off + n * 7 + 5, none⟩ = some (.int .i64 at0) ∧ w2.cell? ⟨b, off + n * 7 + 6, none⟩ = some (.int .i64 nn)) ∧ w2.cell? ⟨w1.heap.size, 0, none⟩ = some (.slice ap p.ps.length cp) ∧ w2.cell? ⟨w1.heap.size, 1, none⟩ = some (.slice ap' p.ss.length cp')) (by kernel_rfl) ?_ (fun hHeld0 => ?_)
          · exact CF.out _ (below_drew (Below.refl _ _))
          refine wpAnyH_take (i := 0) (v := ?_) rfl (by kernel_rfl) (by kernel_rfl) (by kernel_rfl) (fun _ _ _ h => h) (Or.inl ⟨by rfl, ?_⟩) (by assumption) ?_
          rotate_left
          · intro w hSw; (try dsimp only at hSw); obtain ⟨⟨g0, g1, g2, g3, g4, g5, g6⟩, q0, q1⟩ := hSw; go_simp; (try with_reducible rfl)
          simp only [List.getElem_toArray, List.getElem_cons_zero, Act.put, List.setIfInBounds_toArray, List.set_cons_zero, List.set_cons_succ]
          refine wpAnyH_take (i := 1) (v := ?_) rfl (by kernel_rfl) (by kernel_rfl) (by kernel_rfl) (fun _ _ _ h => h) (Or.inl ⟨by rfl, ?_⟩) (by assumption) ?_
          rotate_left
          · intro w hSw; (try dsimp only at hSw); obtain ⟨⟨g0, g1, g2, g3, g4, g5, g6⟩, q0, q1⟩ := hSw; go_simp; (try with_reducible rfl)
          simp only [List.getElem_toArray, List.getElem_cons_succ, List.getElem_cons_zero, Act.put, List.setIfInBounds_toArray, List.set_cons_zero, List.set_cons_succ]
          refine wpAnyH_take (i := 2) (v := ?_) rfl (by kernel_rfl) (by kernel_rfl) (by kernel_rfl) (fun _ _ _ h => h) (Or.inl ⟨by rfl, ?_⟩) (by assumption) ?_
          rotate_left
          · intro w hSw; (try dsimp only at hSw); obtain ⟨⟨g0, g1, g2, g3, g4, g5, g6⟩, q0, q1⟩ := hSw; go_simp; (try with_reducible rfl)
          simp only [List.getElem_toArray, List.getElem_cons_succ, List.getElem_cons_zero, Act.put, List.setIfInBounds_toArray, List.set_cons_zero, List.set_cons_succ]
          refine wpAnyH_take (i := 3) (v := ?_) rfl (by kernel_rfl) (by kernel_rfl) (by kernel_rfl) (fun _ _ _ h => h) (Or.inl ⟨by rfl, ?_⟩) (by assumption) ?_
          rotate_left
          · intro w hSw; (try dsimp only at hSw); obtain ⟨⟨g0, g1, g2, g3, g4, g5, g6⟩, q0, q1⟩ := hSw; go_simp; (try with_reducible rfl)
          simp only [List.getElem_toArray, List.getElem_cons_succ, List.getElem_cons_zero, Act.put, List.setIfInBounds_toArray, List.set_cons_zero, List.set_cons_succ]
          refine wpAnyH_take (i := 4) (v := ?_) rfl (by kernel_rfl) (by kernel_rfl) (by kernel_rfl) (fun _ _ _ h => h) (Or.inl ⟨by rfl, ?_⟩) (by assumption) ?_
          rotate_left
          · intro w hSw; (try dsimp only at hSw); obtain ⟨⟨g0, g1, g2, g3, g4, g5, g6⟩, q0, q1⟩ := hSw; go_simp; (try with_reducible rfl)
          simp only [List.getElem_toArray, List.getElem_cons_succ, List.getElem_cons_zero, Act.put, List.setIfInBounds_toArray, List.set_cons_zero, List.set_cons_succ]
          refine wpAnyH_ready (rs := [5, 6]) (by kernel_rfl) (by simp) ?_
          refine AllReadyH.cons rfl (fun K hK => ?_) (AllReadyH.cons rfl (fun K hK => ?_) AllReadyH.nil)
          · go_simp
            (go_at_call 10; (refine (EV.out _ (below_drew (Below.refl _ _))).mono ?_); rintro z w4 ⟨rfl, b4⟩)
            have B4 := Lib.hid ((below_drew (Below.refl _ _)).trans b4)
            refine hK.out _ _ ?_ (fun hHeld1 => ?_)
            · exact CF.out _ B4.out
            clear hK K b4
            try simp only [List.getElem_toArray, List.getElem_cons_succ, List.getElem_cons_zero, Act.put, List.setIfInBounds_toArray, List.set_cons_zero, List.set_cons_succ]
            refine wpAnyH_ready (rs := [6]) (by kernel_rfl) (by simp) ?_
            refine AllReadyH.cons rfl (fun K hK => ?_) AllReadyH.nil
            go_simp
            refine hK.out _ _ ?_ (fun hHeld2 => ?_)
            · exact CF.out _ (B4.out.alloc B4.out.size _)
            clear hK K
            try simp only [List.getElem_toArray, List.getElem_cons_succ, List.getElem_cons_zero, Act.put, List.setIfInBounds_toArray, List.set_cons_zero, List.set_cons_succ]
            refine wpAnyH_ready (rs := [7]) (by kernel_rfl) (by simp) ?_
            refine AllReadyH.cons rfl (fun K hK => ?_) AllReadyH.nil
            go_simp
            refine hK.out _ _ ?_ (fun hHeld3 => ?_)
            · exact CF.out _ (B4.out.alloc B4.out.size _)
            clear hK K
            refine wpAnyH_done (by kernel_rfl) ?_ _
            go_wp2_with fail
            go_meet
            case rel => exact ⟨w4.heap.size, rfl, heap_new _ _, B4.out.size, B4.out.alloc B4.out.size _⟩
          · go_simp
            have b3 : Below wr.heap.size wr (wr.alloc (.cells #[.int .i64 0, .int .i64 0, .int .i64 0, .int .i64 0, .int .i64 0, .string ⟨#[]⟩, .string ⟨#[]⟩, .string ⟨#[]⟩] 29)).drew := below_drew ((Below.refl _ _).alloc (Nat.le_refl _) _)
            have s3 : (wr.alloc (.cells #[.int .i64 0, .int .i64 0, .int .i64 0, .int .i64 0, .int .i64 0, .string ⟨#[]⟩, .string ⟨#[]⟩, .string ⟨#[]⟩] 29)).drew.heap.size = wr.heap.size + 1 := by simp [World.drew]
            refine hK.out _ _ ?_ (fun hHeld1 => ?_)
            · exact CF.out _ b3
            clear hK K
            try simp only [List.getElem_toArray, List.getElem_cons_succ, List.getElem_cons_zero, Act.put, List.setIfInBounds_toArray, List.set_cons_zero, List.set_cons_succ]
            refine wpAnyH_ready (rs := [5]) (by kernel_rfl) (by simp) ?_
            refine AllReadyH.cons rfl (fun K hK => ?_) AllReadyH.nil
            go_simp
            (go_at_call 10; (refine (EV.out _ (b3)).mono ?_); rintro z w4 ⟨rfl, b4⟩)
            have B4 := Lib.hid (b3.trans (b4.mono (by omega)))
            have hz : w4.heap[wr.heap.size]? = some ((.cells #[.int .i64 0, .int .i64 0, .int .i64 0, .int .i64 0, .int .i64 0, .string ⟨#[]⟩, .string ⟨#[]⟩, .string ⟨#[]⟩] 29)) := (b4.block wr.heap.size (by omega)).trans (heap_new wr (.cells #[.int .i64 0, .int .i64 0, .int .i64 0, .int .i64 0, .int .i64 0, .string ⟨#[]⟩, .string ⟨#[]⟩, .string ⟨#[]⟩] 29))
            obtain ⟨y0, y1, y2, y3, y4, y5, y6, y7⟩ := EvAt.of (e := ⟨0, 0, 0, 0, 0, ⟨#[]⟩, ⟨#[]⟩, ⟨#[]⟩⟩) hz
            have yf := fun j => frozen_of_row _ _ j _ _ hz
            have HZ := Lib.hid (ev_set (e0 := ⟨0, 0, 0, 0, 0, ⟨#[]⟩, ⟨#[]⟩, ⟨#[]⟩⟩) hz ⟨kd, ac, pu, t, nu, ea, eb, ec⟩)
            simp only at y0 y1 y2 y3 y4 y5 y6 y7
            refine hK.out _ _ ?_ (fun hHeld2 => ?_)
            · exact CF.out _ B4.out
            clear hK K b4 hz
            try simp only [List.getElem_toArray, List.getElem_cons_succ, List.getElem_cons_zero, Act.put, List.setIfInBounds_toArray, List.set_cons_zero, List.set_cons_succ]
            refine wpAnyH_ready (rs := [7]) (by kernel_rfl) (by simp) ?_
            refine AllReadyH.cons rfl (fun K hK => ?_) AllReadyH.nil
            go_simp
            refine hK.out _ _ ?_ (fun hHeld3 => ?_)
            · exact CF.out _ (below_ev B4.out (Nat.le_refl _) _ _ _ _ _ _ _ _)
            clear hK K
            refine wpAnyH_done (by kernel_rfl) ?_ _
            go_wp2_with fail
            go_meet
            case rel => exact ⟨wr.heap.size, rfl, HZ.out, Nat.le_refl _, below_ev B4.out (Nat.le_refl _) _ _ _ _ _ _ _ _⟩
        case rest =>
          obtain ⟨ge, rfl, he, hge, bc⟩ := hcut
          obtain ⟨y0, y1, y2, y3, y4, y5, y6, y7⟩ := EVG.out _ _ he
          simp only at y0 y1 y2 y3 y4 y5 y6 y7
          have BC := Lib.hid bc
          have HE := Lib.hid he
          obtain ⟨_, k0, k1⟩ := CF.out _ bc
          clear EV bc he
          go_wp2_with ((go_at_call 11; (with_reducible refine (AP.out _ BC.out).mono ?_); rintro z w5 ⟨a, c, a', c', rfl, o5, b5⟩; have O5 := Lib.hid o5; have B5 := Lib.hid (BC.out.trans (b5.mono BC.out.size)); have HE5 := Lib.hid ((b5.block ge (heap_lt HE.out)).trans HE.out); clear o5 b5))
          have s5 := B5.out.size
          have h6a := heap_new w5 (pobj (.slice a X.ps.length c) (.slice a' X.ss.length c'))
          have b56 : Below w5.heap.size w5 (w5.alloc (pobj (.slice a X.ps.length c) (.slice a' X.ss.length c'))) := (Below.refl _ _).alloc (Nat.le_refl _) _
          have s6 : (w5.alloc (pobj (.slice a X.ps.length c) (.slice a' X.ss.length c'))).heap.size = w5.heap.size + 1 := by simp
          have HB6 := Lib.hid h6a
          have B6W := Lib.hid (B5.out.trans (b56.mono s5))
          have HE6 := Lib.hid ((b56.block ge (heap_lt HE5.out)).trans HE5.out)
          have OX6 := Lib.hid (O5.out.below b56)
          have HBX6 := Lib.hid ((B6W.out.block w1.heap.size hg1).trans HBX.out)
          have OP6 := Lib.hid (OP1.out.below B6W.out)
          have S6 := Lib.hid s6
          clear h6a b56
          obtain ⟨w6, hw6⟩ : ∃ w6, w5.alloc (pobj (.slice a X.ps.length c) (.slice a' X.ss.length c')) = w6 := ⟨_, rfl⟩
          rw [hw6] at HB6 B6W HE6 OX6 HBX6 OP6 S6 s6
          unfold pobj at hw6
          rw [hw6]
          clear hw6
          go_loopw [9] (fun i wq => ∃ k : Nat, k ≤ p.ps.length ∧ i = .int .i64 k ∧ Below w6.heap.size w6 wq) (fun i _ => p.ps.length - (intOf i).toNat)
          case atStart => exact ⟨0, Nat.zero_le _, rfl, Below.refl _ _⟩
          case round =>
            obtain ⟨k, hk, rfl, bq⟩ := hrel
            have hlp := HP.out.len
            have BQ := Lib.hid bq
            have f1 := (bq.block _ (heap_lt HBX6.out)).trans HBX6.out
            obtain ⟨⟨c0', c1'⟩, _⟩ := pcell_of f1
            by_cases hkp : k < p.ps.length
            · have hkp' : (k : Int) < p.ps.length := by omega
              have hk0 : (0 : Int) ≤ k := by omega
              obtain ⟨g, hg, _, _, m0, m1, m2, m3, m4, m5, m6, m7, m8, m9, m10, m11, m12⟩ := (OP6.out.below bq).all k hkp
              subst hg
              rw [List.getElem?_eq_getElem hkp, Option.getD_some] at m0 m1 m2 m3 m4 m5 m6 m7 m8 m9 m10 m11 m12
              have hid := IDS.out k hkp
              have hpp := (PPS.out k hkp).vers
              have hvf := VF.out k hkp _ rfl
              rw [RB.out k] at hvf
              have FY : Hid (∀ w2, Below w6.heap.size w6 w2 → Calls Tryd.prog 12 #[.agg #[.slice a X.ps.length c, .slice a' X.ss.length c'], .int .i64 ((k : Int) + 1)] w2 fun r w' => r = .returned (.tuple #[(if hits p ⟨kd, ac, pu, t, nu, ea, eb, ec⟩ k = true then doesF p p.ps[k] ⟨kd, ac, pu, t, nu, ea, eb, ec⟩ else p.ps[k]).agg, .bool true]) ∧ Below w2.heap.size w2 w') := Lib.hid (fun w2 b2 => FDX.out w2 _ (OX6.out.below b2) k hkp)
              generalize (if hits p ⟨kd, ac, pu, t, nu, ea, eb, ec⟩ k = true then doesF p p.ps[k] ⟨kd, ac, pu, t, nu, ea, eb, ec⟩ else p.ps[k]) = y at *
              generalize p.ps[k] = x at *
              obtain ⟨xid, xmail, xver, xsalt, xchk, xvers, xmiss, xlock, xc0, xc1, xc2, xc3, xc4⟩ := x
              obtain ⟨yid, ymail, yver, ysalt, ychk, yvers, ymiss, ylock, yc0, yc1, yc2, yc3, yc4⟩ := y
              simp only at m0 m1 m2 m3 m4 m5 m6 m7 m8 m9 m10 m11 m12 hid hpp hvf
              subst hid
              have hwv : IntKind.i64.wrap (xvers + 1) = xvers + 1 := by rw [IntKind.wrap_i64] <;> omega
              have F6 : Hid (∀ w2, Below w6.heap.size w6 w2 → (w2.cell? ⟨w5.heap.size, 0, none⟩ = some (.slice a X.ps.length c) ∧ w2.cell? ⟨w5.heap.size, 1, none⟩ = some (.slice a' X.ss.length c')) ∧ EvAt w2 ge ⟨kd, ac, pu, t, nu, ea, eb, ec⟩) := Lib.hid (fun w2 b2 => ⟨(pcell_of ((b2.block _ (by omega)).trans HB6.out)).1, EvAt.of ((b2.block _ (heap_lt HE6.out)).trans HE6.out)⟩)
              have bx := bq.alloc bq.size (.cells #[.int .i64 ((k : Int) + 1), .string xmail, .bool xver, .string xsalt, .string xchk, .int .i64 xvers, .int .i64 xmiss, .int .i64 xlock, .string xc0, .string xc1, .string xc2, .string xc3, .string xc4] 38)
              obtain ⟨⟨n0, n1⟩, _⟩ := F6.out _ bx
              have BX := Lib.hid bx
              have XN := Lib.hid (heap_new wr (.cells #[.int .i64 ((k : Int) + 1), .string xmail, .bool xver, .string xsalt, .string xchk, .int .i64 xvers, .int .i64 xmiss, .int .i64 xlock, .string xc0, .string xc1, .string xc2, .string xc3, .string xc4] 38))
              unfold Per.R.agg at FY
              clear f1 bq bx
              by_cases hf : fe = 0
              · by_cases h3 : kd = 3
                · by_cases hac : ac = (k : Int) + 1
                  · have hr : (decide (fe = 0) && decide (kd = 3) && decide (ac = (k : Int) + 1)) = true := by rw [hf, h3, hac]; simp
                    rw [hr] at hvf
                    obtain ⟨hv1, hv2, _⟩ := hvf
                    obtain ⟨rfl, rfl, rfl, rfl⟩ := hv2 rfl
                    obtain rfl := hv1.2 rfl
                    subst hf h3 hac
                    clear hv1 hv2 hr
                    go_wp2_with (go_at_call 12; (refine (FY.out _ BX.out).mono ?_); rintro z w8 ⟨rfl, b8⟩; have b9 := b8.alloc b8.size (.cells #[.int .i64 yid, .string ymail, .bool yver, .string ysalt, .string ychk, .int .i64 (xvers + 1), .int .i64 0, .int .i64 0, .string yc0, .string yc1, .string yc2, .string yc3, .string yc4] 38); have B9 := Lib.hid (BX.out.trans (b9.mono BX.out.size)); obtain ⟨d0, d1, d2, d3, d4, d5, d6, d7, d8, d9, d10, d11, d12⟩ := Per.At.of_heap (m := ⟨(k : Int) + 1, xmail, xver, xsalt, xchk, xvers, xmiss, xlock, xc0, xc1, xc2, xc3, xc4⟩) ((b9.block wr.heap.size (by simp)).trans XN.out); obtain ⟨_, v0, v1, v2, v3, v4, v5, v6, v7⟩ := F6.out _ B9.out; simp only at d0 d1 d2 d3 d4 d5 d6 d7 d8 d9 d10 d11 d12 v0 v1 v2 v3 v4 v5 v6 v7; clear b8 b9)
                    go_roundw
                    case rel => exact ⟨k + 1, by omega, by go_num, B9.out⟩
                    case measure => simp [intOf]; omega
                  · have q3 : (ac == (k : Int) + 1) = false := beq_eq_false_iff_ne.2 hac
                    have hr : (decide (fe = 0) && decide (kd = 3) && decide (ac = (k : Int) + 1)) = false := by simp [hac]
                    rw [hr] at hvf
                    obtain ⟨hv1, _, hv2⟩ := hvf
                    obtain ⟨rfl, rfl⟩ := hv2 rfl
                    have hv3 : (yvers == xvers + 1) = false := beq_eq_false_iff_ne.2 (fun c => by cases hv1.1 c)
                    clear hv1 hv2 hr
                    subst hf h3
                    go_wp2_with (go_at_call 12; (refine (FY.out _ BX.out).mono ?_); rintro z w8 ⟨rfl, b8⟩; have b9 := b8.alloc b8.size (.cells #[.int .i64 yid, .string ymail, .bool yver, .string ysalt, .string ychk, .int .i64 yvers, .int .i64 ymiss, .int .i64 ylock, .string yc0, .string yc1, .string yc2, .string yc3, .string yc4] 38); have B9 := Lib.hid (BX.out.trans (b9.mono BX.out.size)); obtain ⟨d0, d1, d2, d3, d4, d5, d6, d7, d8, d9, d10, d11, d12⟩ := Per.At.of_heap (m := ⟨(k : Int) + 1, xmail, xver, ysalt, ychk, xvers, xmiss, xlock, xc0, xc1, xc2, xc3, xc4⟩) ((b9.block wr.heap.size (by simp)).trans XN.out); obtain ⟨_, v0, v1, v2, v3, v4, v5, v6, v7⟩ := F6.out _ B9.out; simp only at d0 d1 d2 d3 d4 d5 d6 d7 d8 d9 d10 d11 d12 v0 v1 v2 v3 v4 v5 v6 v7; clear b8 b9)
                    go_roundw
                    case rel => exact ⟨k + 1, by omega, by go_num, B9.out⟩
                    case measure => simp [intOf]; omega
                · have q2 : (kd == 3) = false := beq_eq_false_iff_ne.2 h3
                  have hr : (decide (fe = 0) && decide (kd = 3) && decide (ac = (k : Int) + 1)) = false := by simp [h3]
                  rw [hr] at hvf
                  obtain ⟨hv1, _, hv2⟩ := hvf
                  obtain ⟨rfl, rfl⟩ := hv2 rfl
                  have hv3 : (yvers == xvers + 1) = false := beq_eq_false_iff_ne.2 (fun c => by cases hv1.1 c)
                  clear hv1 hv2 hr
                  subst hf
                  go_wp2_with (go_at_call 12; (refine (FY.out _ BX.out).mono ?_); rintro z w8 ⟨rfl, b8⟩; have b9 := b8.alloc b8.size (.cells #[.int .i64 yid, .string ymail, .bool yver, .string ysalt, .string ychk, .int .i64 yvers, .int .i64 ymiss, .int .i64 ylock, .string yc0, .string yc1, .string yc2, .string yc3, .string yc4] 38); have B9 := Lib.hid (BX.out.trans (b9.mono BX.out.size)); obtain ⟨d0, d1, d2, d3, d4, d5, d6, d7, d8, d9, d10, d11, d12⟩ := Per.At.of_heap (m := ⟨(k : Int) + 1, xmail, xver, ysalt, ychk, xvers, xmiss, xlock, xc0, xc1, xc2, xc3, xc4⟩) ((b9.block wr.heap.size (by simp)).trans XN.out); obtain ⟨_, v0, v1, v2, v3, v4, v5, v6, v7⟩ := F6.out _ B9.out; simp only at d0 d1 d2 d3 d4 d5 d6 d7 d8 d9 d10 d11 d12 v0 v1 v2 v3 v4 v5 v6 v7; clear b8 b9)
                  go_roundw
                  case rel => exact ⟨k + 1, by omega, by go_num, B9.out⟩
                  case measure => simp [intOf]; omega
              · have q1 : (fe == 0) = false := beq_eq_false_iff_ne.2 hf
                have hr : (decide (fe = 0) && decide (kd = 3) && decide (ac = (k : Int) + 1)) = false := by simp [hf]
                rw [hr] at hvf
                obtain ⟨hv1, _, hv2⟩ := hvf
                obtain ⟨rfl, rfl⟩ := hv2 rfl
                have hv3 : (yvers == xvers + 1) = false := beq_eq_false_iff_ne.2 (fun c => by cases hv1.1 c)
                clear hv1 hv2 hr
                go_wp2_with (go_at_call 12; (refine (FY.out _ BX.out).mono ?_); rintro z w8 ⟨rfl, b8⟩; have b9 := b8.alloc b8.size (.cells #[.int .i64 yid, .string ymail, .bool yver, .string ysalt, .string ychk, .int .i64 yvers, .int .i64 ymiss, .int .i64 ylock, .string yc0, .string yc1, .string yc2, .string yc3, .string yc4] 38); have B9 := Lib.hid (BX.out.trans (b9.mono BX.out.size)); obtain ⟨d0, d1, d2, d3, d4, d5, d6, d7, d8, d9, d10, d11, d12⟩ := Per.At.of_heap (m := ⟨(k : Int) + 1, xmail, xver, ysalt, ychk, xvers, xmiss, xlock, xc0, xc1, xc2, xc3, xc4⟩) ((b9.block wr.heap.size (by simp)).trans XN.out); obtain ⟨_, v0, v1, v2, v3, v4, v5, v6, v7⟩ := F6.out _ B9.out; simp only at d0 d1 d2 d3 d4 d5 d6 d7 d8 d9 d10 d11 d12 v0 v1 v2 v3 v4 v5 v6 v7; clear b8 b9)
                go_roundw
                case rel => exact ⟨k + 1, by omega, by go_num, B9.out⟩
                case measure => simp [intOf]; omega
            · have hkp' : ¬ (k : Int) < p.ps.length := by omega
              obtain ⟨⟨n0, n1⟩, _⟩ := pcell_of ((BQ.out.block _ (by omega)).trans HB6.out)
              obtain ⟨⟨_, _⟩, nf⟩ := pcell_of f1
              have H1 := Lib.hid f1
              have bw := B6W.out.trans (bq.mono B6W.out.size)
              have O7 := Lib.hid (OX6.out.below bq)
              have BW := Lib.hid (BE.out.trans (bw.mono BE.out.size))
              clear bq f1 bw
              go_wp2_with fail
              go_roundw
              case rel => exact ⟨n + 1, X, _, _, by omega, by omega, by go_num, HX.out, O7.out.apart H1.out _ _, pbox_set H1.out _ _, (BW.out.setCell s1 _).setCell s1 _⟩
              case measure => simp [intOf]; omega
      · have hB' : ¬ (n : Int) < 80 := by omega
        have hA' : (n : Int) < len := by omega
        clear ho hb bel hp
        go_wp2_with fail
        go_ret
        exact ⟨rfl, BE.out⟩
    · have hA' : ¬ (n : Int) < len := by omega
      clear ho hb bel hp
      go_wp2_with fail
      go_ret
      exact ⟨rfl, BE.out⟩
end Go.Proofs.YtkihleecjgoipaaDoor
