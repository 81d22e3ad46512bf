/- The law's played: people behind events, by the reference. Written by wip/tools/mkpld.py. -/
import Derived.Test.YtkihleecjgoipaaGreatDoorR16F
import Derived.Test.YtkihleecjgoipaaGreatDoorMg14
import Derived.Deep.DeepCutAuto
import Derived.Deep.CutBlock
namespace Go.Proofs.YtkihleecjgoipaaGreatDoor
open Go.RowKit Go.Maps Go.Proofs.YtkihleecjgoipaaGreatDoor.Rw

theorem PI.upto {N M : Nat} {p : Ppl} (h : PI N p) (hM : N ≤ M) : PI M p := ⟨h.len, h.slen, h.id, fun k hk => by
  have q := h.pp k hk
  exact ⟨⟨q.vers.1, by have := q.vers.2; omega⟩, q.miss, q.lock, q.mail, q.key⟩⟩
set_option maxHeartbeats 8000000 in
set_option maxRecDepth 100000 in
theorem played_any (a0 : Option Addr) (len cap most : Nat) (hmost : most ≤ 1000) (W : World)
    (hsl : ∀ i, i < len → ∃ b off o, a0 = some ⟨b, off, none⟩ ∧ b < W.heap.size ∧ NumAt W b (off + i * 7) o) :
    Calls Tryz.prog 6 #[.slice a0 len cap, .int .i64 most] W fun e W' => ∃ N p v, e = .returned v ∧ N ≤ most ∧ PI N p ∧ PC p ∧ pown W' W.heap.size v p ∧ Below W.heap.size W W' := by
  have b1 : Below W.heap.size W (W.alloc (pobj (.slice none 0 0) (.slice none 0 0))) := (Below.refl _ _).alloc (Nat.le_refl _) _
  have z1 : (W.alloc (pobj (.slice none 0 0) (.slice none 0 0))).heap.size = W.heap.size + 1 := by simp
  have b2 := b1.alloc (by simp) (pobj (.slice none 0 0) (.slice none 0 0))
  have h0 : ((W.alloc (pobj (.slice none 0 0) (.slice none 0 0))).alloc (pobj (.slice none 0 0) (.slice none 0 0))).heap[W.heap.size]? = some (pobj (.slice none 0 0) (.slice none 0 0)) := (Lib.alloc_old _ _ _ (by simp)).trans (heap_new _ _)
  have h1 : ((W.alloc (pobj (.slice none 0 0) (.slice none 0 0))).alloc (pobj (.slice none 0 0) (.slice none 0 0))).heap[W.heap.size + 1]? = some (pobj (.slice none 0 0) (.slice none 0 0)) := by
    rw [← z1]; exact heap_new _ _
  have H0 := Lib.hid h0
  have H1 := Lib.hid h1
  have HB2 := Lib.hid b2
  clear b1 z1 b2 h0 h1
  unfold pobj at H0 H1 HB2
  go_enter Tryz.func6, Tryz.ntmps6
  go_wp2_with fail
  go_loopw [6] (fun i wr => ∃ (n : Nat) (p : Ppl) (s1 s2 : Value), n ≤ len ∧ n ≤ most ∧ i = .int .i64 n ∧ PI n p ∧ PC p ∧ pown wr W.heap.size (.agg #[s1, s2]) p ∧ wr.heap[W.heap.size + 1]? = some (pobj s1 s2) ∧ wr.heap[W.heap.size]? = some (pobj (.slice none 0 0) (.slice none 0 0)) ∧ Below W.heap.size W wr) (fun i _ => most - (intOf i).toNat)
  case atStart => exact ⟨0, ⟨[], []⟩, _, _, Nat.zero_le _, Nat.zero_le _, rfl, PI.nil, PC.nil, pown.nil _ _, H1.out, H0.out, HB2.out⟩
  case round =>
    obtain ⟨n, p, p1, p2, hnl, hnm, rfl, hp, hpc, ho, hb, hres, bel⟩ := hrel
    obtain ⟨ap, cp, ap', cp', hpv, oq1, oq2⟩ := id ho
    simp only [Value.agg.injEq, Array.mk.injEq, List.cons.injEq, and_true] at hpv
    obtain ⟨rfl, rfl⟩ := hpv
    have OW := Lib.hid ho
    clear oq1 oq2
    have BE := Lib.hid bel
    have HP := Lib.hid hp
    have HPC := Lib.hid hpc
    have HBX := Lib.hid hb
    have HRS := Lib.hid hres
    have hg1 := heap_lt hb
    obtain ⟨⟨c0, c1⟩, cf⟩ := pcell_of hb
    by_cases hA : n < len
    · by_cases hB : n < most
      · have hA' : (n : Int) < len := by omega
        have hB' : (n : Int) < most := by omega
        have hn0' : (0 : Int) ≤ n := by omega
        obtain ⟨b, off, nv, rfl, hb0, hnum⟩ := hsl n hA
        have hat := hnum.below bel hb0
        obtain ⟨kind, who, mail, salt, chk, at0, nn⟩ := nv
        obtain ⟨e0, e1, e2, e3, e4, e5, e6⟩ := hat
        simp only at e0 e1 e2 e3 e4 e5 e6
        obtain ⟨ev, hev⟩ : ∃ ev, evN ⟨kind, who, mail, salt, chk, at0, nn⟩ p = ev := ⟨_, rfl⟩
        have hok : EvOk ev := by rw [← hev]; exact evN_ok _ _
        have EV : Hid (∀ w2, Below wr.heap.size wr w2 → Calls Tryz.prog 16 #[.agg #[.int .i64 kind, .int .i64 who, .int .i64 mail, .int .i64 salt, .int .i64 chk, .int .i64 at0, .int .i64 nn], .agg #[.slice ap p.ps.length cp, .slice ap' p.ss.length cp']] w2 fun e w' => e = .returned ev.agg ∧ Below w2.heap.size w2 w') := Lib.hid (fun w2 b2 => by
          have h := event_any ⟨kind, who, mail, salt, chk, at0, nn⟩ (OW.out.below b2) HP.out.few (HP.out.small (by omega))
          rwa [hev] at h)
        have AP : Hid (∀ w2, Below wr.heap.size wr w2 → Calls Tryz.prog 15 #[.agg #[.slice ap p.ps.length cp, .slice ap' p.ss.length cp'], ev.agg] w2 fun r w' => ∃ a c a' c', r = .returned (.tuple #[.agg #[.slice a (appR p ev).ps.length c, .slice a' (appR p ev).ss.length c'], .int .i64 (appE p ev)]) ∧ pown w' W.heap.size (.agg #[.slice a (appR p ev).ps.length c, .slice a' (appR p ev).ss.length c']) (appR p ev) ∧ Below w2.heap.size w2 w') := Lib.hid (fun w2 b2 => by
          have bw := BE.out.trans (b2.mono BE.out.size)
          refine (apply16_any (OW.out.below b2) HP.out HPC.out (by omega) bw.size ev hok).mono fun r w' ⟨v', q1, q2, q3⟩ => ?_
          obtain ⟨a, c, a', c', rfl⟩ := q2.form
          exact ⟨a, c, a', c', q1, q2, q3⟩)
        have HX := Lib.hid (HP.out.app (e := ev) (by omega) hok)
        have HXC := Lib.hid (HPC.out.app HP.out hok)
        have HB0 := Lib.hid hb0
        clear hev hsl hnum hb0 ho hb bel hp hpc hres
        generalize appR p ev = X at *
        generalize appE p ev = fe at *
        have CF : Hid (∀ w2, Below wr.heap.size wr w2 → (w2.cell? ⟨b, off + n * 7, none⟩ = some (.int .i64 kind) ∧ w2.cell? ⟨b, off + n * 7 + 1, none⟩ = some (.int .i64 who) ∧ w2.cell? ⟨b, off + n * 7 + 2, none⟩ = some (.int .i64 mail) ∧ w2.cell? ⟨b, off + n * 7 + 3, none⟩ = some (.int .i64 salt) ∧ w2.cell? ⟨b, off + n * 7 + 4, none⟩ = some (.int .i64 chk) ∧ w2.cell? ⟨b, off + n * 7 + 5, none⟩ = some (.int .i64 at0) ∧ w2.cell? ⟨b, off + n * 7 + 6, none⟩ = some (.int .i64 nn)) ∧ w2.cell? ⟨W.heap.size + 1, 0, none⟩ = some (.slice ap p.ps.length cp) ∧ w2.cell? ⟨W.heap.size + 1, 1, none⟩ = some (.slice ap' p.ss.length cp')) := Lib.hid (fun w2 b2 => by
          have hb1 : b < wr.heap.size := Nat.lt_of_lt_of_le HB0.out BE.out.size
          exact ⟨⟨(b2.cell (p := ⟨b, off + n * 7, none⟩) hb1).trans e0, (b2.cell (p := ⟨b, off + n * 7 + 1, none⟩) hb1).trans e1, (b2.cell (p := ⟨b, off + n * 7 + 2, none⟩) hb1).trans e2, (b2.cell (p := ⟨b, off + n * 7 + 3, none⟩) hb1).trans e3, (b2.cell (p := ⟨b, off + n * 7 + 4, none⟩) hb1).trans e4, (b2.cell (p := ⟨b, off + n * 7 + 5, none⟩) hb1).trans e5, (b2.cell (p := ⟨b, off + n * 7 + 6, none⟩) hb1).trans e6⟩, (b2.cell (p := ⟨W.heap.size + 1, 0, none⟩) hg1).trans c0, (b2.cell (p := ⟨W.heap.size + 1, 1, none⟩) hg1).trans c1⟩)
        obtain ⟨kd, ac, pu, t, nu, ea, eb, ec⟩ := ev
        unfold Evn.agg at EV AP
        simp only at *
        go_wp2_with fail
        go_cut [7, 8] (fun x6 x7 wx => ∃ (w6 : World) (ge : Nat) (a : Option Addr) (c : Nat) (a' : Option Addr) (c' : Nat), w6 = wx ∧ x6 = .pointer (some ⟨ge, 0, none⟩) ∧ x7 = .int .i64 fe ∧ wx.heap[ge]? = some (pobj (.slice a X.ps.length c) (.slice a' X.ss.length c')) ∧ wr.heap.size ≤ ge ∧ pown wx W.heap.size (.agg #[.slice a X.ps.length c, .slice a' X.ss.length c']) X ∧ Below wr.heap.size wr wx)
        case first =>
          refine wp_region_held_drew (S := fun w2 => (w2.cell? ⟨b, off + n * 7, none⟩ = some (.int .i64 kind) ∧ w2.cell? ⟨b, off + n * 7 + 1, none⟩ = some (.int .i64 who) ∧ w2.cell? ⟨b, off + n * 7 + 2, none⟩ = some (.int .i64 mail) ∧ w2.cell? ⟨b, off + n * 7 + 3, none⟩ = some (.int .i64 salt) ∧ w2.cell? ⟨b, off + n * 7 + 4, none⟩ = some (.int .i64 chk) ∧ w2.cell? ⟨b, off + n * 7 + 5, none⟩ = some (.int .i64 at0) ∧ w2.cell? ⟨b, off + n * 7 + 6, none⟩ = some (.int .i64 nn)) ∧ w2.cell? ⟨W.heap.size + 1, 0, none⟩ = some (.slice ap p.ps.length cp) ∧ w2.cell? ⟨W.heap.size + 1, 1, none⟩ = some (.slice ap' p.ss.length cp')) (by kernel_rfl) ?_ (fun hHeld0 => ?_)
          · exact CF.out _ (below_drew (Below.refl _ _))
          refine wpAnyH_take (i := 0) (v := ?_) rfl (by kernel_rfl) (by kernel_rfl) (by kernel_rfl) (fun _ _ _ h => h) (Or.inl ⟨by rfl, ?_⟩) (by assumption) ?_
          rotate_left
          · intro w hSw; (try dsimp only at hSw); obtain ⟨⟨g0, g1, g2, g3, g4, g5, g6⟩, q0, q1⟩ := hSw; go_simp; (try with_reducible rfl)
          simp only [List.getElem_toArray, List.getElem_cons_zero, Act.put, List.setIfInBounds_toArray, List.set_cons_zero, List.set_cons_succ]
          refine wpAnyH_take (i := 1) (v := ?_) rfl (by kernel_rfl) (by kernel_rfl) (by kernel_rfl) (fun _ _ _ h => h) (Or.inl ⟨by rfl, ?_⟩) (by assumption) ?_
          rotate_left
          · intro w hSw; (try dsimp only at hSw); obtain ⟨⟨g0, g1, g2, g3, g4, g5, g6⟩, q0, q1⟩ := hSw; go_simp; (try with_reducible rfl)
          simp only [List.getElem_toArray, List.getElem_cons_succ, List.getElem_cons_zero, Act.put, List.setIfInBounds_toArray, List.set_cons_zero, List.set_cons_succ]
          refine wpAnyH_take (i := 2) (v := ?_) rfl (by kernel_rfl) (by kernel_rfl) (by kernel_rfl) (fun _ _ _ h => h) (Or.inl ⟨by rfl, ?_⟩) (by assumption) ?_
          rotate_left
          · intro w hSw; (try dsimp only at hSw); obtain ⟨⟨g0, g1, g2, g3, g4, g5, g6⟩, q0, q1⟩ := hSw; go_simp; (try with_reducible rfl)
          simp only [List.getElem_toArray, List.getElem_cons_succ, List.getElem_cons_zero, Act.put, List.setIfInBounds_toArray, List.set_cons_zero, List.set_cons_succ]
          refine wpAnyH_take (i := 3) (v := ?_) rfl (by kernel_rfl) (by kernel_rfl) (by kernel_rfl) (fun _ _ _ h => h) (Or.inl ⟨by rfl, ?_⟩) (by assumption) ?_
          rotate_left
          · intro w hSw; (try dsimp only at hSw); obtain ⟨⟨g0, g1, g2, g3, g4, g5, g6⟩, q0, q1⟩ := hSw; go_simp; (try with_reducible rfl)
          simp only [List.getElem_toArray, List.getElem_cons_succ, List.getElem_cons_zero, Act.put, List.setIfInBounds_toArray, List.set_cons_zero, List.set_cons_succ]
          refine wpAnyH_take (i := 4) (v := ?_) rfl (by kernel_rfl) (by kernel_rfl) (by kernel_rfl) (fun _ _ _ h => h) (Or.inl ⟨by rfl, ?_⟩) (by assumption) ?_
          rotate_left
          · intro w hSw; (try dsimp only at hSw); obtain ⟨⟨g0, g1, g2, g3, g4, g5, g6⟩, q0, q1⟩ := hSw; go_simp; (try with_reducible rfl)
          simp only [List.getElem_toArray, List.getElem_cons_succ, List.getElem_cons_zero, Act.put, List.setIfInBounds_toArray, List.set_cons_zero, List.set_cons_succ]
          refine wpAnyH_take (i := 5) (v := ?_) rfl (by kernel_rfl) (by kernel_rfl) (by kernel_rfl) (fun _ _ _ h => h) (Or.inl ⟨by rfl, ?_⟩) (by assumption) ?_
          rotate_left
          · intro w hSw; (try dsimp only at hSw); obtain ⟨⟨g0, g1, g2, g3, g4, g5, g6⟩, q0, q1⟩ := hSw; go_simp; (try with_reducible rfl)
          simp only [List.getElem_toArray, List.getElem_cons_succ, List.getElem_cons_zero, Act.put, List.setIfInBounds_toArray, List.set_cons_zero, List.set_cons_succ]
          refine wpAnyH_ready (rs := [6, 11]) (by kernel_rfl) (by simp) ?_
          refine AllReadyH.cons rfl (fun K hK => ?_) (AllReadyH.cons rfl (fun K hK => ?_) (AllReadyH.nil))
          · go_simp
            (go_at_call 16; (refine (EV.out _ (below_drew (Below.refl _ _))).mono ?_); rintro z w4 ⟨rfl, b4⟩)
            have B4 := Lib.hid ((below_drew (Below.refl _ _)).trans b4)
            refine hK.out _ _ ?_ (fun hHeldN => ?_)
            · exact CF.out _ B4.out
            clear hK K
            try simp only [List.getElem_toArray, List.getElem_cons_succ, List.getElem_cons_zero, Act.put, List.setIfInBounds_toArray, List.set_cons_zero, List.set_cons_succ]
            refine wpAnyH_ready (rs := [7, 11]) (by kernel_rfl) (by simp) ?_
            refine AllReadyH.cons rfl (fun K hK => ?_) (AllReadyH.cons rfl (fun K hK => ?_) (AllReadyH.nil))
            · go_simp
              (go_at_call 15; (refine (AP.out _ (B4.out)).mono ?_); rintro z w5 ⟨a, c, a', c', rfl, o5, b5⟩; have O5 := Lib.hid o5)
              have B5 := Lib.hid (B4.out.trans (b5.mono B4.out.size))
              refine hK.out _ _ ?_ (fun hHeldN => ?_)
              · exact CF.out _ B5.out
              clear hK K
              try simp only [List.getElem_toArray, List.getElem_cons_succ, List.getElem_cons_zero, Act.put, List.setIfInBounds_toArray, List.set_cons_zero, List.set_cons_succ]
              refine wpAnyH_take (i := 8) (v := ?_) rfl (by kernel_rfl) (by kernel_rfl) (by kernel_rfl) (fun _ _ _ h => h) (Or.inl ⟨by rfl, ?_⟩) (by assumption) ?_
              rotate_left
              · intro w hSw; (try dsimp only at hSw); obtain ⟨⟨g0, g1, g2, g3, g4, g5, g6⟩, q0, q1⟩ := hSw; go_simp; (try with_reducible rfl)
              try simp only [List.getElem_toArray, List.getElem_cons_succ, List.getElem_cons_zero, Act.put, List.setIfInBounds_toArray, List.set_cons_zero, List.set_cons_succ]
              refine wpAnyH_take (i := 9) (v := ?_) rfl (by kernel_rfl) (by kernel_rfl) (by kernel_rfl) (fun _ _ _ h => h) (Or.inl ⟨by rfl, ?_⟩) (by assumption) ?_
              rotate_left
              · intro w hSw; (try dsimp only at hSw); obtain ⟨⟨g0, g1, g2, g3, g4, g5, g6⟩, q0, q1⟩ := hSw; go_simp; (try with_reducible rfl)
              try simp only [List.getElem_toArray, List.getElem_cons_succ, List.getElem_cons_zero, Act.put, List.setIfInBounds_toArray, List.set_cons_zero, List.set_cons_succ]
              refine wpAnyH_take (i := 10) (v := ?_) rfl (by kernel_rfl) (by kernel_rfl) (by kernel_rfl) (fun _ _ _ h => h) (Or.inl ⟨by rfl, ?_⟩) (by assumption) ?_
              rotate_left
              · intro w hSw; (try dsimp only at hSw); obtain ⟨⟨g0, g1, g2, g3, g4, g5, g6⟩, q0, q1⟩ := hSw; go_simp; (try with_reducible rfl)
              try simp only [List.getElem_toArray, List.getElem_cons_succ, List.getElem_cons_zero, Act.put, List.setIfInBounds_toArray, List.set_cons_zero, List.set_cons_succ]
              refine wpAnyH_ready (rs := [11]) (by kernel_rfl) (by simp) ?_
              refine AllReadyH.cons rfl (fun K hK => ?_) (AllReadyH.nil)
              go_simp
              refine hK.out _ _ ?_ (fun hHeldN => ?_)
              · exact CF.out _ (B5.out.alloc B5.out.size _)
              clear hK K
              try simp only [List.getElem_toArray, List.getElem_cons_succ, List.getElem_cons_zero, Act.put, List.setIfInBounds_toArray, List.set_cons_zero, List.set_cons_succ]
              refine wpAnyH_ready (rs := [12]) (by kernel_rfl) (by simp) ?_
              refine AllReadyH.cons rfl (fun K hK => ?_) (AllReadyH.nil)
              go_simp
              refine hK.out _ _ ?_ (fun hHeldN => ?_)
              · exact CF.out _ (B5.out.alloc B5.out.size _)
              clear hK K
              try simp only [List.getElem_toArray, List.getElem_cons_succ, List.getElem_cons_zero, Act.put, List.setIfInBounds_toArray, List.set_cons_zero, List.set_cons_succ]
              refine wpAnyH_take (i := 13) (v := ?_) rfl (by kernel_rfl) (by kernel_rfl) (by kernel_rfl) (fun _ _ _ h => h) (Or.inl ⟨by rfl, ?_⟩) (by assumption) ?_
              rotate_left
              · intro w hSw; (try dsimp only at hSw); obtain ⟨⟨g0, g1, g2, g3, g4, g5, g6⟩, q0, q1⟩ := hSw; go_simp; (try with_reducible rfl)
              try simp only [List.getElem_toArray, List.getElem_cons_succ, List.getElem_cons_zero, Act.put, List.setIfInBounds_toArray, List.set_cons_zero, List.set_cons_succ]
              refine wpAnyH_done (by kernel_rfl) ?_ _
              go_wp2_with fail
              go_meet
              case rel => exact ⟨_, _, a, c, a', c', rfl, rfl, rfl, heap_new _ _, B5.out.size, O5.out.below ((Below.refl _ _).alloc (Nat.le_refl _) _), B5.out.alloc B5.out.size _⟩
            · go_simp
              have B4A := Lib.hid (B4.out.alloc B4.out.size (.cells #[.slice none 0 0, .slice none 0 0] 25))
              have HZ4 := Lib.hid (heap_new w4 (pobj (.slice none 0 0) (.slice none 0 0)))
              refine hK.out _ _ ?_ (fun hHeldN => ?_)
              · exact CF.out _ B4A.out
              clear hK K
              try simp only [List.getElem_toArray, List.getElem_cons_succ, List.getElem_cons_zero, Act.put, List.setIfInBounds_toArray, List.set_cons_zero, List.set_cons_succ]
              refine wpAnyH_ready (rs := [7]) (by kernel_rfl) (by simp) ?_
              refine AllReadyH.cons rfl (fun K hK => ?_) (AllReadyH.nil)
              go_simp
              (go_at_call 15; (refine (AP.out _ (B4A.out)).mono ?_); rintro z w5 ⟨a, c, a', c', rfl, o5, b5⟩; have O5 := Lib.hid o5)
              have B5 := Lib.hid (B4A.out.trans (b5.mono B4A.out.size))
              have HZ5 := Lib.hid ((b5.block w4.heap.size (by simp)).trans HZ4.out)
              refine hK.out _ _ ?_ (fun hHeldN => ?_)
              · exact CF.out _ B5.out
              clear hK K
              try simp only [List.getElem_toArray, List.getElem_cons_succ, List.getElem_cons_zero, Act.put, List.setIfInBounds_toArray, List.set_cons_zero, List.set_cons_succ]
              refine wpAnyH_take (i := 8) (v := ?_) rfl (by kernel_rfl) (by kernel_rfl) (by kernel_rfl) (fun _ _ _ h => h) (Or.inl ⟨by rfl, ?_⟩) (by assumption) ?_
              rotate_left
              · intro w hSw; (try dsimp only at hSw); obtain ⟨⟨g0, g1, g2, g3, g4, g5, g6⟩, q0, q1⟩ := hSw; go_simp; (try with_reducible rfl)
              try simp only [List.getElem_toArray, List.getElem_cons_succ, List.getElem_cons_zero, Act.put, List.setIfInBounds_toArray, List.set_cons_zero, List.set_cons_succ]
              refine wpAnyH_take (i := 9) (v := ?_) rfl (by kernel_rfl) (by kernel_rfl) (by kernel_rfl) (fun _ _ _ h => h) (Or.inl ⟨by rfl, ?_⟩) (by assumption) ?_
              rotate_left
              · intro w hSw; (try dsimp only at hSw); obtain ⟨⟨g0, g1, g2, g3, g4, g5, g6⟩, q0, q1⟩ := hSw; go_simp; (try with_reducible rfl)
              try simp only [List.getElem_toArray, List.getElem_cons_succ, List.getElem_cons_zero, Act.put, List.setIfInBounds_toArray, List.set_cons_zero, List.set_cons_succ]
              refine wpAnyH_take (i := 10) (v := ?_) rfl (by kernel_rfl) (by kernel_rfl) (by kernel_rfl) (fun _ _ _ h => h) (Or.inl ⟨by rfl, ?_⟩) (by assumption) ?_
              rotate_left
              · intro w hSw; (try dsimp only at hSw); obtain ⟨⟨g0, g1, g2, g3, g4, g5, g6⟩, q0, q1⟩ := hSw; go_simp; (try with_reducible rfl)
              try simp only [List.getElem_toArray, List.getElem_cons_succ, List.getElem_cons_zero, Act.put, List.setIfInBounds_toArray, List.set_cons_zero, List.set_cons_succ]
              obtain ⟨⟨u0, u1⟩, uf⟩ := pcell_of HZ5.out
              refine wpAnyH_ready (rs := [12]) (by kernel_rfl) (by simp) ?_
              refine AllReadyH.cons rfl (fun K hK => ?_) (AllReadyH.nil)
              go_simp
              refine hK.out _ _ ?_ (fun hHeldN => ?_)
              · exact CF.out _ ((B5.out.setCell (by first | exact Nat.le_refl _ | exact B4.out.size) _).setCell (by first | exact Nat.le_refl _ | exact B4.out.size) _)
              clear hK K
              try simp only [List.getElem_toArray, List.getElem_cons_succ, List.getElem_cons_zero, Act.put, List.setIfInBounds_toArray, List.set_cons_zero, List.set_cons_succ]
              refine wpAnyH_take (i := 13) (v := ?_) rfl (by kernel_rfl) (by kernel_rfl) (by kernel_rfl) (fun _ _ _ h => h) (Or.inl ⟨by rfl, ?_⟩) (by assumption) ?_
              rotate_left
              · intro w hSw; (try dsimp only at hSw); obtain ⟨⟨g0, g1, g2, g3, g4, g5, g6⟩, q0, q1⟩ := hSw; go_simp; (try with_reducible rfl)
              try simp only [List.getElem_toArray, List.getElem_cons_succ, List.getElem_cons_zero, Act.put, List.setIfInBounds_toArray, List.set_cons_zero, List.set_cons_succ]
              refine wpAnyH_done (by kernel_rfl) ?_ _
              go_wp2_with fail
              go_meet
              case rel => exact ⟨_, _, a, c, a', c', rfl, rfl, rfl, pbox_set HZ5.out _ _, (by first | exact Nat.le_refl _ | exact B4.out.size), O5.out.apart HZ5.out _ _, (B5.out.setCell (by first | exact Nat.le_refl _ | exact B4.out.size) _).setCell (by first | exact Nat.le_refl _ | exact B4.out.size) _⟩
          · go_simp
            have b3 : Below wr.heap.size wr (wr.alloc (.cells #[.slice none 0 0, .slice none 0 0] 25)).drew := below_drew ((Below.refl _ _).alloc (Nat.le_refl _) _)
            have s3 : (wr.alloc (.cells #[.slice none 0 0, .slice none 0 0] 25)).drew.heap.size = wr.heap.size + 1 := by simp [World.drew]
            refine hK.out _ _ ?_ (fun hHeldN => ?_)
            · exact CF.out _ b3
            clear hK K
            try simp only [List.getElem_toArray, List.getElem_cons_succ, List.getElem_cons_zero, Act.put, List.setIfInBounds_toArray, List.set_cons_zero, List.set_cons_succ]
            refine wpAnyH_ready (rs := [6]) (by kernel_rfl) (by simp) ?_
            refine AllReadyH.cons rfl (fun K hK => ?_) (AllReadyH.nil)
            go_simp
            (go_at_call 16; (refine (EV.out _ (b3)).mono ?_); rintro z w4 ⟨rfl, b4⟩)
            have B4 := Lib.hid (b3.trans (b4.mono (by omega)))
            have HZ4 := Lib.hid ((b4.block wr.heap.size (by omega)).trans (heap_new wr (pobj (.slice none 0 0) (.slice none 0 0))))
            refine hK.out _ _ ?_ (fun hHeldN => ?_)
            · exact CF.out _ B4.out
            clear hK K
            try simp only [List.getElem_toArray, List.getElem_cons_succ, List.getElem_cons_zero, Act.put, List.setIfInBounds_toArray, List.set_cons_zero, List.set_cons_succ]
            refine wpAnyH_ready (rs := [7]) (by kernel_rfl) (by simp) ?_
            refine AllReadyH.cons rfl (fun K hK => ?_) (AllReadyH.nil)
            go_simp
            (go_at_call 15; (refine (AP.out _ (B4.out)).mono ?_); rintro z w5 ⟨a, c, a', c', rfl, o5, b5⟩; have O5 := Lib.hid o5)
            have B5 := Lib.hid (B4.out.trans (b5.mono B4.out.size))
            have HZ5 := Lib.hid ((b5.block wr.heap.size (heap_lt HZ4.out)).trans HZ4.out)
            refine hK.out _ _ ?_ (fun hHeldN => ?_)
            · exact CF.out _ B5.out
            clear hK K
            try simp only [List.getElem_toArray, List.getElem_cons_succ, List.getElem_cons_zero, Act.put, List.setIfInBounds_toArray, List.set_cons_zero, List.set_cons_succ]
            refine wpAnyH_take (i := 8) (v := ?_) rfl (by kernel_rfl) (by kernel_rfl) (by kernel_rfl) (fun _ _ _ h => h) (Or.inl ⟨by rfl, ?_⟩) (by assumption) ?_
            rotate_left
            · intro w hSw; (try dsimp only at hSw); obtain ⟨⟨g0, g1, g2, g3, g4, g5, g6⟩, q0, q1⟩ := hSw; go_simp; (try with_reducible rfl)
            try simp only [List.getElem_toArray, List.getElem_cons_succ, List.getElem_cons_zero, Act.put, List.setIfInBounds_toArray, List.set_cons_zero, List.set_cons_succ]
            refine wpAnyH_take (i := 9) (v := ?_) rfl (by kernel_rfl) (by kernel_rfl) (by kernel_rfl) (fun _ _ _ h => h) (Or.inl ⟨by rfl, ?_⟩) (by assumption) ?_
            rotate_left
            · intro w hSw; (try dsimp only at hSw); obtain ⟨⟨g0, g1, g2, g3, g4, g5, g6⟩, q0, q1⟩ := hSw; go_simp; (try with_reducible rfl)
            try simp only [List.getElem_toArray, List.getElem_cons_succ, List.getElem_cons_zero, Act.put, List.setIfInBounds_toArray, List.set_cons_zero, List.set_cons_succ]
            refine wpAnyH_take (i := 10) (v := ?_) rfl (by kernel_rfl) (by kernel_rfl) (by kernel_rfl) (fun _ _ _ h => h) (Or.inl ⟨by rfl, ?_⟩) (by assumption) ?_
            rotate_left
            · intro w hSw; (try dsimp only at hSw); obtain ⟨⟨g0, g1, g2, g3, g4, g5, g6⟩, q0, q1⟩ := hSw; go_simp; (try with_reducible rfl)
            try simp only [List.getElem_toArray, List.getElem_cons_succ, List.getElem_cons_zero, Act.put, List.setIfInBounds_toArray, List.set_cons_zero, List.set_cons_succ]
            obtain ⟨⟨u0, u1⟩, uf⟩ := pcell_of HZ5.out
            refine wpAnyH_ready (rs := [12]) (by kernel_rfl) (by simp) ?_
            refine AllReadyH.cons rfl (fun K hK => ?_) (AllReadyH.nil)
            go_simp
            refine hK.out _ _ ?_ (fun hHeldN => ?_)
            · exact CF.out _ ((B5.out.setCell (by first | exact Nat.le_refl _ | exact B4.out.size) _).setCell (by first | exact Nat.le_refl _ | exact B4.out.size) _)
            clear hK K
            try simp only [List.getElem_toArray, List.getElem_cons_succ, List.getElem_cons_zero, Act.put, List.setIfInBounds_toArray, List.set_cons_zero, List.set_cons_succ]
            refine wpAnyH_take (i := 13) (v := ?_) rfl (by kernel_rfl) (by kernel_rfl) (by kernel_rfl) (fun _ _ _ h => h) (Or.inl ⟨by rfl, ?_⟩) (by assumption) ?_
            rotate_left
            · intro w hSw; (try dsimp only at hSw); obtain ⟨⟨g0, g1, g2, g3, g4, g5, g6⟩, q0, q1⟩ := hSw; go_simp; (try with_reducible rfl)
            try simp only [List.getElem_toArray, List.getElem_cons_succ, List.getElem_cons_zero, Act.put, List.setIfInBounds_toArray, List.set_cons_zero, List.set_cons_succ]
            refine wpAnyH_done (by kernel_rfl) ?_ _
            go_wp2_with fail
            go_meet
            case rel => exact ⟨_, _, a, c, a', c', rfl, rfl, rfl, pbox_set HZ5.out _ _, (by first | exact Nat.le_refl _ | exact B4.out.size), O5.out.apart HZ5.out _ _, (B5.out.setCell (by first | exact Nat.le_refl _ | exact B4.out.size) _).setCell (by first | exact Nat.le_refl _ | exact B4.out.size) _⟩
        case rest =>
          obtain ⟨w6, ge, a, c, a', c', hw6, rfl, rfl, hgx, hge, ox, bc⟩ := hcut
          subst hw6
          have OX6 := Lib.hid ox
          have BW := Lib.hid (BE.out.trans (bc.mono BE.out.size))
          have HBX6 := Lib.hid ((bc.block (W.heap.size + 1) hg1).trans HBX.out)
          have HRS6 := Lib.hid ((bc.block W.heap.size (heap_lt HRS.out)).trans HRS.out)
          obtain ⟨⟨k0, k1⟩, _⟩ := pcell_of hgx
          obtain ⟨⟨k2, k3⟩, kf⟩ := pcell_of HBX6.out
          have HRT := Lib.hid ((Below.heap_setCell (w6.setCell ⟨W.heap.size + 1, 0, none⟩ (.slice a X.ps.length c)) ⟨W.heap.size + 1, 1, none⟩ (.slice a' X.ss.length c') W.heap.size (by simp)).trans ((Below.heap_setCell w6 ⟨W.heap.size + 1, 0, none⟩ (.slice a X.ps.length c) W.heap.size (by simp)).trans HRS6.out))
          clear EV AP bc hgx ox
          go_wp2_with fail
          go_roundw
          case rel => exact ⟨n + 1, X, _, _, by omega, by omega, by go_num, HX.out, HXC.out, OX6.out.apart HBX6.out _ _, pbox_set HBX6.out _ _, HRT.out, (BW.out.setCell (by simp) _).setCell (by simp) _⟩
          case measure => simp [intOf]; omega
      · have hB' : ¬ (n : Int) < most := by omega
        have hA' : (n : Int) < len := by omega
        obtain ⟨⟨r0, r1⟩, rf⟩ := pcell_of hres
        clear ho hb bel hp hpc hres
        go_wp2_with fail
        refine bodyPost_ret (v := .agg #[.slice ap p.ps.length cp, .slice ap' p.ss.length cp']) ?_ rfl ⟨n, p, _, rfl, hnm, HP.out, HPC.out, OW.out.apart HRS.out _ _, (BE.out.setCell (Nat.le_refl _) _).setCell (Nat.le_refl _) _⟩
        simp [results, Tryz.f6, go_sem, r0, r1]
    · have hA' : ¬ (n : Int) < len := by omega
      obtain ⟨⟨r0, r1⟩, rf⟩ := pcell_of hres
      clear ho hb bel hp hpc hres
      go_wp2_with fail
      refine bodyPost_ret (v := .agg #[.slice ap p.ps.length cp, .slice ap' p.ss.length cp']) ?_ rfl ⟨n, p, _, rfl, hnm, HP.out, HPC.out, OW.out.apart HRS.out _ _, (BE.out.setCell (Nat.le_refl _) _).setCell (Nat.le_refl _) _⟩
      simp [results, Tryz.f6, go_sem, r0, r1]
end Go.Proofs.YtkihleecjgoipaaGreatDoor
