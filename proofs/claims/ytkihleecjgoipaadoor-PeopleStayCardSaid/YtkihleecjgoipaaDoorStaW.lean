/- PeopleStay: the walk. Written by wip/tools/mkstw.py. -/
import Derived.Test.YtkihleecjgoipaaDoorScr16
import Derived.Test.YtkihleecjgoipaaDoorStaC
import Derived.Test.YtkihleecjgoipaaDoorStaS
import Derived.BigQuiet
import Derived.Deep.QuietTactic
import Derived.Deep.DeepCutAuto
import Derived.Deep.CutBlock
namespace Go.Proofs.YtkihleecjgoipaaDoor
open Go.RowKit Go.Maps Go.Proofs.YtkihleecjgoipaaDoor.Rw

theorem per_set {w : World} {b : Nat} {e0 : Per.R} (h : w.heap[b]? = some e0.obj) (e : Per.R) : ((((((((((((((w.setCell ⟨b, 0, none⟩ (.int .i64 e.id)).setCell ⟨b, 1, none⟩ (.string e.mail)).setCell ⟨b, 2, none⟩ (.bool e.ver)).setCell ⟨b, 3, none⟩ (.string e.salt)).setCell ⟨b, 4, none⟩ (.string e.chk)).setCell ⟨b, 5, none⟩ (.int .i64 e.vers)).setCell ⟨b, 6, none⟩ (.int .i64 e.miss)).setCell ⟨b, 7, none⟩ (.int .i64 e.lock)).setCell ⟨b, 8, none⟩ (.string e.c0)).setCell ⟨b, 9, none⟩ (.string e.c1)).setCell ⟨b, 10, none⟩ (.string e.c2)).setCell ⟨b, 11, none⟩ (.string e.c3)).setCell ⟨b, 12, none⟩ (.string e.c4)).heap[b]?) = some e.obj := by
  unfold Per.R.obj at h
  have h0 := heap_setCell_same w b 0 _ 38 (.int .i64 e.id) h
  have h1 := heap_setCell_same _ b 1 _ 38 (.string e.mail) h0
  have h2 := heap_setCell_same _ b 2 _ 38 (.bool e.ver) h1
  have h3 := heap_setCell_same _ b 3 _ 38 (.string e.salt) h2
  have h4 := heap_setCell_same _ b 4 _ 38 (.string e.chk) h3
  have h5 := heap_setCell_same _ b 5 _ 38 (.int .i64 e.vers) h4
  have h6 := heap_setCell_same _ b 6 _ 38 (.int .i64 e.miss) h5
  have h7 := heap_setCell_same _ b 7 _ 38 (.int .i64 e.lock) h6
  have h8 := heap_setCell_same _ b 8 _ 38 (.string e.c0) h7
  have h9 := heap_setCell_same _ b 9 _ 38 (.string e.c1) h8
  have h10 := heap_setCell_same _ b 10 _ 38 (.string e.c2) h9
  have h11 := heap_setCell_same _ b 11 _ 38 (.string e.c3) h10
  have h12 := heap_setCell_same _ b 12 _ 38 (.string e.c4) h11
  refine h12.trans ?_
  simp only [List.setIfInBounds_toArray, List.set_cons_zero, List.set_cons_succ, Per.R.obj]
theorem sz4 {p : Ppl} (c : PC p) : ∀ x ∈ p.ps, x.mail.size ≤ 4000000000 ∧ ∀ d ∈ x.cs, d.size ≤ 4000000000 := fun x hx => ⟨by have := (c.sz x hx).1; omega, fun d hd => by have := (c.sz x hx).2 d hd; omega⟩
set_option maxHeartbeats 16000000 in
set_option maxRecDepth 100000 in
theorem stay_walk (a0 : Option Addr) (len cap : Nat) (W : World) (hm : ML W)
    (hsl : ∀ i, i < len → ∃ b off o, a0 = some ⟨b, off, none⟩ ∧ b < W.heap.size ∧ NumAt W b (off + i * 7) o) :
    Calls Tryd.prog 8 #[.slice a0 len cap] W fun e W' => e = .returned (.bool true) ∧ Below W.heap.size W W' := by
  have AW := Lib.hid (awake_any W hm)
  have HM := Lib.hid hm
  clear hm
  go_enter Tryd.func8, Tryd.ntmps8
  go_wp2_with ((go_at_call 9; (with_reducible refine (AW.out).mono ?_); rintro e w1 ⟨rfl, q1⟩; have WR := Lib.hid q1; clear q1; have XB := Lib.hid (heap_new w1 (pobj (.slice none 0 0) (.slice none 0 0))); have WR2 := Lib.hid (WR.out.alloc WR.out.size (pobj (.slice none 0 0) (.slice none 0 0))); unfold pobj at WR2))
  have s1 := WR.out.size
  clear AW
  go_loopw [5] (fun i wr => ∃ (n : Nat) (p : Ppl) (s1 s2 : Value), n ≤ len ∧ n ≤ 80 ∧ i = .int .i64 n ∧ PI n p ∧ PC p ∧ pown wr W.heap.size (.agg #[s1, s2]) p ∧ wr.heap[w1.heap.size]? = some (pobj s1 s2) ∧ Below W.heap.size W wr) (fun i _ => 80 - (intOf i).toNat)
  case atStart => exact ⟨0, ⟨[], []⟩, _, _, Nat.zero_le _, by omega, rfl, PI.nil, PC.nil, pown.nil _ _, XB.out, WR2.out⟩
  case round =>
    obtain ⟨n, p, p1, p2, hnl, hn80, rfl, hp, hpc, ho, hb, bel⟩ := hrel
    obtain ⟨ap, cp, ap', cp', hpv, oq1, oq2⟩ := id ho
    simp only [Value.agg.injEq, Array.mk.injEq, List.cons.injEq, and_true] at hpv
    obtain ⟨rfl, rfl⟩ := hpv
    have OP1 := Lib.hid oq1
    have OW := Lib.hid ho
    clear oq1 oq2
    have BE := Lib.hid bel
    have HP := Lib.hid hp
    have HPC := Lib.hid hpc
    clear hpc
    have HBX := Lib.hid hb
    have hg1 := heap_lt hb
    obtain ⟨⟨c0, c1⟩, cf⟩ := pcell_of hb
    by_cases hA : n < len
    · by_cases hB : n < 80
      · have hA' : (n : Int) < len := by omega
        have hB' : (n : Int) < 80 := by omega
        have hn0' : (0 : Int) ≤ n := by omega
        obtain ⟨b, off, nv, rfl, hb0, hnum⟩ := hsl n hA
        have hat := hnum.below bel hb0
        obtain ⟨kind, who, mail, salt, chk, at0, nn⟩ := nv
        obtain ⟨e0, e1, e2, e3, e4, e5, e6⟩ := hat
        simp only at e0 e1 e2 e3 e4 e5 e6
        obtain ⟨ev, hev⟩ : ∃ ev, evN ⟨kind, who, mail, salt, chk, at0, nn⟩ p = ev := ⟨_, rfl⟩
        have hok : EvOk ev := by rw [← hev]; exact evN_ok _ _
        have EV : Hid (∀ w2, Below wr.heap.size wr w2 → Calls Tryd.prog 10 #[.agg #[.int .i64 kind, .int .i64 who, .int .i64 mail, .int .i64 salt, .int .i64 chk, .int .i64 at0, .int .i64 nn], .agg #[.slice ap p.ps.length cp, .slice ap' p.ss.length cp']] w2 fun e w' => e = .returned ev.agg ∧ Below w2.heap.size w2 w') := Lib.hid (fun w2 b2 => by
          have h := event_any ⟨kind, who, mail, salt, chk, at0, nn⟩ (OW.out.below b2) HP.out.few (HP.out.small (by omega))
          rwa [hev] at h)
        have AP : Hid (∀ w2, Below wr.heap.size wr w2 → Calls Tryd.prog 11 #[.agg #[.slice ap p.ps.length cp, .slice ap' p.ss.length cp'], ev.agg] w2 fun r w' => ∃ a c a' c', r = .returned (.tuple #[.agg #[.slice a (appR p ev).ps.length c, .slice a' (appR p ev).ss.length c'], .int .i64 (appE p ev)]) ∧ pown w' W.heap.size (.agg #[.slice a (appR p ev).ps.length c, .slice a' (appR p ev).ss.length c']) (appR p ev) ∧ Below w2.heap.size w2 w') := Lib.hid (fun w2 b2 => by
          have bw := BE.out.trans (b2.mono BE.out.size)
          refine (papply_any (OW.out.below b2) HP.out.few (HP.out.small (by omega)) bw.size ev (by have := hok.sz; omega) (HM.out.below bw)).mono fun r w' ⟨v', q1, q2, q3⟩ => ?_
          obtain ⟨a, c, a', c', rfl⟩ := q2.form
          exact ⟨a, c, a', c', q1, q2, q3⟩)
        have SF := Lib.hid (fun k (hk : k < p.ps.length) b hb => stay_facts (e := ev) HP.out (by omega) hk b hb)
        have HX := Lib.hid (HP.out.app (e := ev) (by omega) hok)
        have HXC := Lib.hid (HPC.out.app HP.out hok)
        have NA := Lib.hid (fun k (hk : k < p.ps.length) => HP.out.next_at (e := ev) hk)
        have GR := Lib.hid (HP.out.grows (e := ev))
        have AS := Lib.hid (fun h => app_same (p := p) (e := ev) h)
        have CHX : Hid (∀ w2 v, pown w2 W.heap.size v (appR p ev) → Below W.heap.size W w2 → Calls Tryd.prog 19 #[v] w2 fun r w' => r = .returned (.bool true) ∧ Below w2.heap.size w2 w') := Lib.hid (fun w2 v o b => by
          have h := check_any o HX.out.few (HM.out.below b) (sz4 HXC.out)
          rwa [HXC.out.chk HX.out (by omega)] at h)
        have SMX : Hid (appE p ev ≠ 0 → ∀ w2 v v2, pown w2 W.heap.size v (appR p ev) → pown w2 W.heap.size v2 p → Calls Tryd.prog 20 #[v, v2] w2 fun r w' => r = .returned (.bool true) ∧ Below w2.heap.size w2 w') := Lib.hid (fun hne w2 v v2 o o2 => by
          have h := same_any o o2 HX.out.few HP.out.few
          rwa [(sameB_iff _ _).2 (AS.out hne)] at h)
        have BYX : Hid (∀ w2 v, pown w2 W.heap.size v (appR p ev) → ∀ k (hk : k < (appR p ev).ps.length), Calls Tryd.prog 21 #[v, .string (appR p ev).ps[k].mail] w2 fun r w' => r = .returned (.tuple #[(appR p ev).ps[k].agg, .bool true]) ∧ Below w2.heap.size w2 w') := Lib.hid (fun w2 v o k hk => by
          have h := by_any o HX.out.few (appR p ev).ps[k].mail
          have hf := HXC.out.by hk
          unfold pick at h
          rwa [hf.1, hf.2] at h)
        have EVG : Hid (∀ w2 g, w2.heap[g]? = some ev.obj → EvAt w2 g ev) := Lib.hid (fun w2 g h => EvAt.of h)
        have HB0 := Lib.hid hb0
        clear hev hsl hnum hb0 ho hb bel hp
        have IDS := Lib.hid HP.out.id
        have PPS := Lib.hid HP.out.pp
        have IDX := Lib.hid HX.out.id
        generalize appR p ev = X at *
        generalize appE p ev = fe at *
        have CF : Hid (∀ w2, Below wr.heap.size wr w2 → (w2.cell? ⟨b, off + n * 7, none⟩ = some (.int .i64 kind) ∧ w2.cell? ⟨b, off + n * 7 + 1, none⟩ = some (.int .i64 who) ∧ w2.cell? ⟨b, off + n * 7 + 2, none⟩ = some (.int .i64 mail) ∧ w2.cell? ⟨b, off + n * 7 + 3, none⟩ = some (.int .i64 salt) ∧ w2.cell? ⟨b, off + n * 7 + 4, none⟩ = some (.int .i64 chk) ∧ w2.cell? ⟨b, off + n * 7 + 5, none⟩ = some (.int .i64 at0) ∧ w2.cell? ⟨b, off + n * 7 + 6, none⟩ = some (.int .i64 nn)) ∧ w2.cell? ⟨w1.heap.size, 0, none⟩ = some (.slice ap p.ps.length cp) ∧ w2.cell? ⟨w1.heap.size, 1, none⟩ = some (.slice ap' p.ss.length cp')) := Lib.hid (fun w2 b2 => by
          have hb1 : b < wr.heap.size := Nat.lt_of_lt_of_le HB0.out BE.out.size
          exact ⟨⟨(b2.cell (p := ⟨b, off + n * 7, none⟩) hb1).trans e0, (b2.cell (p := ⟨b, off + n * 7 + 1, none⟩) hb1).trans e1, (b2.cell (p := ⟨b, off + n * 7 + 2, none⟩) hb1).trans e2, (b2.cell (p := ⟨b, off + n * 7 + 3, none⟩) hb1).trans e3, (b2.cell (p := ⟨b, off + n * 7 + 4, none⟩) hb1).trans e4, (b2.cell (p := ⟨b, off + n * 7 + 5, none⟩) hb1).trans e5, (b2.cell (p := ⟨b, off + n * 7 + 6, none⟩) hb1).trans e6⟩, (b2.cell (p := ⟨w1.heap.size, 0, none⟩) hg1).trans c0, (b2.cell (p := ⟨w1.heap.size, 1, none⟩) hg1).trans c1⟩)
        obtain ⟨kd, ac, pu, t, nu, ea, eb, ec⟩ := ev
        unfold Evn.agg at EV AP
        simp only at *
        clear EVG
        go_wp2_with fail
        go_cut [6, 7] (fun x6 x7 wx => ∃ (w6 : World) (ge : Nat) (a : Option Addr) (c : Nat) (a' : Option Addr) (c' : Nat), w6 = wx ∧ x6 = .pointer (some ⟨ge, 0, none⟩) ∧ x7 = .int .i64 fe ∧ wx.heap[ge]? = some (pobj (.slice a X.ps.length c) (.slice a' X.ss.length c')) ∧ wr.heap.size ≤ ge ∧ pown wx W.heap.size (.agg #[.slice a X.ps.length c, .slice a' X.ss.length c']) X ∧ Below wr.heap.size wr wx)
        case first =>
          refine wp_region_held_drew (S := fun w2 => (w2.cell? ⟨b, off + n * 7, none⟩ = some (.int .i64 kind) ∧ w2.cell? ⟨b, off + n * 7 + 1, none⟩ = some (.int .i64 who) ∧ w2.cell? ⟨b, off + n * 7 + 2, none⟩ = some (.int .i64 mail) ∧ w2.cell? ⟨b, off + n * 7 + 3, none⟩ = some (.int .i64 salt) ∧ w2.cell? ⟨b, off + n * 7 + 4, none⟩ = some (.int .i64 chk) ∧ w2.cell? ⟨b, off + n * 7 + 5, none⟩ = some (.int .i64 at0) ∧ w2.cell? ⟨b, off + n * 7 + 6, none⟩ = some (.int .i64 nn)) ∧ w2.cell? ⟨w1.heap.size, 0, none⟩ = some (.slice ap p.ps.length cp) ∧ w2.cell? ⟨w1.heap.size, 1, none⟩ = some (.slice ap' p.ss.length cp')) (by kernel_rfl) ?_ (fun hHeld0 => ?_)
          · exact CF.out _ (below_drew (Below.refl _ _))
          refine wpAnyH_take (i := 0) (v := ?_) rfl (by kernel_rfl) (by kernel_rfl) (by kernel_rfl) (fun _ _ _ h => h) (Or.inl ⟨by rfl, ?_⟩) (by assumption) ?_
          rotate_left
          · intro w hSw; (try dsimp only at hSw); obtain ⟨⟨g0, g1, g2, g3, g4, g5, g6⟩, q0, q1⟩ := hSw; go_simp; (try with_reducible rfl)
          simp only [List.getElem_toArray, List.getElem_cons_zero, Act.put, List.setIfInBounds_toArray, List.set_cons_zero, List.set_cons_succ]
          refine wpAnyH_take (i := 1) (v := ?_) rfl (by kernel_rfl) (by kernel_rfl) (by kernel_rfl) (fun _ _ _ h => h) (Or.inl ⟨by rfl, ?_⟩) (by assumption) ?_
          rotate_left
          · intro w hSw; (try dsimp only at hSw); obtain ⟨⟨g0, g1, g2, g3, g4, g5, g6⟩, q0, q1⟩ := hSw; go_simp; (try with_reducible rfl)
          simp only [List.getElem_toArray, List.getElem_cons_succ, List.getElem_cons_zero, Act.put, List.setIfInBounds_toArray, List.set_cons_zero, List.set_cons_succ]
          refine wpAnyH_take (i := 2) (v := ?_) rfl (by kernel_rfl) (by kernel_rfl) (by kernel_rfl) (fun _ _ _ h => h) (Or.inl ⟨by rfl, ?_⟩) (by assumption) ?_
          rotate_left
          · intro w hSw; (try dsimp only at hSw); obtain ⟨⟨g0, g1, g2, g3, g4, g5, g6⟩, q0, q1⟩ := hSw; go_simp; (try with_reducible rfl)
          simp only [List.getElem_toArray, List.getElem_cons_succ, List.getElem_cons_zero, Act.put, List.setIfInBounds_toArray, List.set_cons_zero, List.set_cons_succ]
          refine wpAnyH_take (i := 3) (v := ?_) rfl (by kernel_rfl) (by kernel_rfl) (by kernel_rfl) (fun _ _ _ h => h) (Or.inl ⟨by rfl, ?_⟩) (by assumption) ?_
          rotate_left
          · intro w hSw; (try dsimp only at hSw); obtain ⟨⟨g0, g1, g2, g3, g4, g5, g6⟩, q0, q1⟩ := hSw; go_simp; (try with_reducible rfl)
          simp only [List.getElem_toArray, List.getElem_cons_succ, List.getElem_cons_zero, Act.put, List.setIfInBounds_toArray, List.set_cons_zero, List.set_cons_succ]
          refine wpAnyH_take (i := 4) (v := ?_) rfl (by kernel_rfl) (by kernel_rfl) (by kernel_rfl) (fun _ _ _ h => h) (Or.inl ⟨by rfl, ?_⟩) (by assumption) ?_
          rotate_left
          · intro w hSw; (try dsimp only at hSw); obtain ⟨⟨g0, g1, g2, g3, g4, g5, g6⟩, q0, q1⟩ := hSw; go_simp; (try with_reducible rfl)
          simp only [List.getElem_toArray, List.getElem_cons_succ, List.getElem_cons_zero, Act.put, List.setIfInBounds_toArray, List.set_cons_zero, List.set_cons_succ]
          refine wpAnyH_take (i := 5) (v := ?_) rfl (by kernel_rfl) (by kernel_rfl) (by kernel_rfl) (fun _ _ _ h => h) (Or.inl ⟨by rfl, ?_⟩) (by assumption) ?_
          rotate_left
          · intro w hSw; (try dsimp only at hSw); obtain ⟨⟨g0, g1, g2, g3, g4, g5, g6⟩, q0, q1⟩ := hSw; go_simp; (try with_reducible rfl)
          simp only [List.getElem_toArray, List.getElem_cons_succ, List.getElem_cons_zero, Act.put, List.setIfInBounds_toArray, List.set_cons_zero, List.set_cons_succ]
          refine wpAnyH_ready (rs := [6, 11]) (by kernel_rfl) (by simp) ?_
          refine AllReadyH.cons rfl (fun K hK => ?_) (AllReadyH.cons rfl (fun K hK => ?_) (AllReadyH.nil))
          · go_simp
            (go_at_call 10; (refine (EV.out _ (below_drew (Below.refl _ _))).mono ?_); rintro z w4 ⟨rfl, b4⟩)
            have B4 := Lib.hid ((below_drew (Below.refl _ _)).trans b4)
            refine hK.out _ _ ?_ (fun hHeldN => ?_)
            · exact CF.out _ B4.out
            clear hK K
            try simp only [List.getElem_toArray, List.getElem_cons_succ, List.getElem_cons_zero, Act.put, List.setIfInBounds_toArray, List.set_cons_zero, List.set_cons_succ]
            refine wpAnyH_ready (rs := [7, 11]) (by kernel_rfl) (by simp) ?_
            refine AllReadyH.cons rfl (fun K hK => ?_) (AllReadyH.cons rfl (fun K hK => ?_) (AllReadyH.nil))
            · go_simp
              (go_at_call 11; (refine (AP.out _ (B4.out)).mono ?_); rintro z w5 ⟨a, c, a', c', rfl, o5, b5⟩; have O5 := Lib.hid o5)
              have B5 := Lib.hid (B4.out.trans (b5.mono B4.out.size))
              refine hK.out _ _ ?_ (fun hHeldN => ?_)
              · exact CF.out _ B5.out
              clear hK K
              try simp only [List.getElem_toArray, List.getElem_cons_succ, List.getElem_cons_zero, Act.put, List.setIfInBounds_toArray, List.set_cons_zero, List.set_cons_succ]
              refine wpAnyH_take (i := 8) (v := ?_) rfl (by kernel_rfl) (by kernel_rfl) (by kernel_rfl) (fun _ _ _ h => h) (Or.inl ⟨by rfl, ?_⟩) (by assumption) ?_
              rotate_left
              · intro w hSw; (try dsimp only at hSw); obtain ⟨⟨g0, g1, g2, g3, g4, g5, g6⟩, q0, q1⟩ := hSw; go_simp; (try with_reducible rfl)
              try simp only [List.getElem_toArray, List.getElem_cons_succ, List.getElem_cons_zero, Act.put, List.setIfInBounds_toArray, List.set_cons_zero, List.set_cons_succ]
              refine wpAnyH_take (i := 9) (v := ?_) rfl (by kernel_rfl) (by kernel_rfl) (by kernel_rfl) (fun _ _ _ h => h) (Or.inl ⟨by rfl, ?_⟩) (by assumption) ?_
              rotate_left
              · intro w hSw; (try dsimp only at hSw); obtain ⟨⟨g0, g1, g2, g3, g4, g5, g6⟩, q0, q1⟩ := hSw; go_simp; (try with_reducible rfl)
              try simp only [List.getElem_toArray, List.getElem_cons_succ, List.getElem_cons_zero, Act.put, List.setIfInBounds_toArray, List.set_cons_zero, List.set_cons_succ]
              refine wpAnyH_take (i := 10) (v := ?_) rfl (by kernel_rfl) (by kernel_rfl) (by kernel_rfl) (fun _ _ _ h => h) (Or.inl ⟨by rfl, ?_⟩) (by assumption) ?_
              rotate_left
              · intro w hSw; (try dsimp only at hSw); obtain ⟨⟨g0, g1, g2, g3, g4, g5, g6⟩, q0, q1⟩ := hSw; go_simp; (try with_reducible rfl)
              try simp only [List.getElem_toArray, List.getElem_cons_succ, List.getElem_cons_zero, Act.put, List.setIfInBounds_toArray, List.set_cons_zero, List.set_cons_succ]
              refine wpAnyH_ready (rs := [11]) (by kernel_rfl) (by simp) ?_
              refine AllReadyH.cons rfl (fun K hK => ?_) (AllReadyH.nil)
              go_simp
              refine hK.out _ _ ?_ (fun hHeldN => ?_)
              · exact CF.out _ (B5.out.alloc B5.out.size _)
              clear hK K
              try simp only [List.getElem_toArray, List.getElem_cons_succ, List.getElem_cons_zero, Act.put, List.setIfInBounds_toArray, List.set_cons_zero, List.set_cons_succ]
              refine wpAnyH_ready (rs := [12]) (by kernel_rfl) (by simp) ?_
              refine AllReadyH.cons rfl (fun K hK => ?_) (AllReadyH.nil)
              go_simp
              refine hK.out _ _ ?_ (fun hHeldN => ?_)
              · exact CF.out _ (B5.out.alloc B5.out.size _)
              clear hK K
              try simp only [List.getElem_toArray, List.getElem_cons_succ, List.getElem_cons_zero, Act.put, List.setIfInBounds_toArray, List.set_cons_zero, List.set_cons_succ]
              refine wpAnyH_take (i := 13) (v := ?_) rfl (by kernel_rfl) (by kernel_rfl) (by kernel_rfl) (fun _ _ _ h => h) (Or.inl ⟨by rfl, ?_⟩) (by assumption) ?_
              rotate_left
              · intro w hSw; (try dsimp only at hSw); obtain ⟨⟨g0, g1, g2, g3, g4, g5, g6⟩, q0, q1⟩ := hSw; go_simp; (try with_reducible rfl)
              try simp only [List.getElem_toArray, List.getElem_cons_succ, List.getElem_cons_zero, Act.put, List.setIfInBounds_toArray, List.set_cons_zero, List.set_cons_succ]
              refine wpAnyH_done (by kernel_rfl) ?_ _
              go_wp2_with fail
              go_meet
              case rel => exact ⟨_, _, a, c, a', c', rfl, rfl, rfl, heap_new _ _, B5.out.size, O5.out.below ((Below.refl _ _).alloc (Nat.le_refl _) _), B5.out.alloc B5.out.size _⟩
            · go_simp
              have B4A := Lib.hid (B4.out.alloc B4.out.size (.cells #[.slice none 0 0, .slice none 0 0] 27))
              have HZ4 := Lib.hid (heap_new w4 (pobj (.slice none 0 0) (.slice none 0 0)))
              refine hK.out _ _ ?_ (fun hHeldN => ?_)
              · exact CF.out _ B4A.out
              clear hK K
              try simp only [List.getElem_toArray, List.getElem_cons_succ, List.getElem_cons_zero, Act.put, List.setIfInBounds_toArray, List.set_cons_zero, List.set_cons_succ]
              refine wpAnyH_ready (rs := [7]) (by kernel_rfl) (by simp) ?_
              refine AllReadyH.cons rfl (fun K hK => ?_) (AllReadyH.nil)
              go_simp
              (go_at_call 11; (refine (AP.out _ (B4A.out)).mono ?_); rintro z w5 ⟨a, c, a', c', rfl, o5, b5⟩; have O5 := Lib.hid o5)
              have B5 := Lib.hid (B4A.out.trans (b5.mono B4A.out.size))
              have HZ5 := Lib.hid ((b5.block w4.heap.size (by simp)).trans HZ4.out)
              refine hK.out _ _ ?_ (fun hHeldN => ?_)
              · exact CF.out _ B5.out
              clear hK K
              try simp only [List.getElem_toArray, List.getElem_cons_succ, List.getElem_cons_zero, Act.put, List.setIfInBounds_toArray, List.set_cons_zero, List.set_cons_succ]
              refine wpAnyH_take (i := 8) (v := ?_) rfl (by kernel_rfl) (by kernel_rfl) (by kernel_rfl) (fun _ _ _ h => h) (Or.inl ⟨by rfl, ?_⟩) (by assumption) ?_
              rotate_left
              · intro w hSw; (try dsimp only at hSw); obtain ⟨⟨g0, g1, g2, g3, g4, g5, g6⟩, q0, q1⟩ := hSw; go_simp; (try with_reducible rfl)
              try simp only [List.getElem_toArray, List.getElem_cons_succ, List.getElem_cons_zero, Act.put, List.setIfInBounds_toArray, List.set_cons_zero, List.set_cons_succ]
              refine wpAnyH_take (i := 9) (v := ?_) rfl (by kernel_rfl) (by kernel_rfl) (by kernel_rfl) (fun _ _ _ h => h) (Or.inl ⟨by rfl, ?_⟩) (by assumption) ?_
              rotate_left
              · intro w hSw; (try dsimp only at hSw); obtain ⟨⟨g0, g1, g2, g3, g4, g5, g6⟩, q0, q1⟩ := hSw; go_simp; (try with_reducible rfl)
              try simp only [List.getElem_toArray, List.getElem_cons_succ, List.getElem_cons_zero, Act.put, List.setIfInBounds_toArray, List.set_cons_zero, List.set_cons_succ]
              refine wpAnyH_take (i := 10) (v := ?_) rfl (by kernel_rfl) (by kernel_rfl) (by kernel_rfl) (fun _ _ _ h => h) (Or.inl ⟨by rfl, ?_⟩) (by assumption) ?_
              rotate_left
              · intro w hSw; (try dsimp only at hSw); obtain ⟨⟨g0, g1, g2, g3, g4, g5, g6⟩, q0, q1⟩ := hSw; go_simp; (try with_reducible rfl)
              try simp only [List.getElem_toArray, List.getElem_cons_succ, List.getElem_cons_zero, Act.put, List.setIfInBounds_toArray, List.set_cons_zero, List.set_cons_succ]
              obtain ⟨⟨u0, u1⟩, uf⟩ := pcell_of HZ5.out
              refine wpAnyH_ready (rs := [12]) (by kernel_rfl) (by simp) ?_
              refine AllReadyH.cons rfl (fun K hK => ?_) (AllReadyH.nil)
              go_simp
              refine hK.out _ _ ?_ (fun hHeldN => ?_)
              · exact CF.out _ ((B5.out.setCell (by first | exact Nat.le_refl _ | exact B4.out.size) _).setCell (by first | exact Nat.le_refl _ | exact B4.out.size) _)
              clear hK K
              try simp only [List.getElem_toArray, List.getElem_cons_succ, List.getElem_cons_zero, Act.put, List.setIfInBounds_toArray, List.set_cons_zero, List.set_cons_succ]
              refine wpAnyH_take (i := 13) (v := ?_) rfl (by kernel_rfl) (by kernel_rfl) (by kernel_rfl) (fun _ _ _ h => h) (Or.inl ⟨by rfl, ?_⟩) (by assumption) ?_
              rotate_left
              · intro w hSw; (try dsimp only at hSw); obtain ⟨⟨g0, g1, g2, g3, g4, g5, g6⟩, q0, q1⟩ := hSw; go_simp; (try with_reducible rfl)
              try simp only [List.getElem_toArray, List.getElem_cons_succ, List.getElem_cons_zero, Act.put, List.setIfInBounds_toArray, List.set_cons_zero, List.set_cons_succ]
              refine wpAnyH_done (by kernel_rfl) ?_ _
              go_wp2_with fail
              go_meet
              case rel => exact ⟨_, _, a, c, a', c', rfl, rfl, rfl, pbox_set HZ5.out _ _, (by first | exact Nat.le_refl _ | exact B4.out.size), O5.out.apart HZ5.out _ _, (B5.out.setCell (by first | exact Nat.le_refl _ | exact B4.out.size) _).setCell (by first | exact Nat.le_refl _ | exact B4.out.size) _⟩
          · go_simp
            have b3 : Below wr.heap.size wr (wr.alloc (.cells #[.slice none 0 0, .slice none 0 0] 27)).drew := below_drew ((Below.refl _ _).alloc (Nat.le_refl _) _)
            have s3 : (wr.alloc (.cells #[.slice none 0 0, .slice none 0 0] 27)).drew.heap.size = wr.heap.size + 1 := by simp [World.drew]
            refine hK.out _ _ ?_ (fun hHeldN => ?_)
            · exact CF.out _ b3
            clear hK K
            try simp only [List.getElem_toArray, List.getElem_cons_succ, List.getElem_cons_zero, Act.put, List.setIfInBounds_toArray, List.set_cons_zero, List.set_cons_succ]
            refine wpAnyH_ready (rs := [6]) (by kernel_rfl) (by simp) ?_
            refine AllReadyH.cons rfl (fun K hK => ?_) (AllReadyH.nil)
            go_simp
            (go_at_call 10; (refine (EV.out _ (b3)).mono ?_); rintro z w4 ⟨rfl, b4⟩)
            have B4 := Lib.hid (b3.trans (b4.mono (by omega)))
            have HZ4 := Lib.hid ((b4.block wr.heap.size (by omega)).trans (heap_new wr (pobj (.slice none 0 0) (.slice none 0 0))))
            refine hK.out _ _ ?_ (fun hHeldN => ?_)
            · exact CF.out _ B4.out
            clear hK K
            try simp only [List.getElem_toArray, List.getElem_cons_succ, List.getElem_cons_zero, Act.put, List.setIfInBounds_toArray, List.set_cons_zero, List.set_cons_succ]
            refine wpAnyH_ready (rs := [7]) (by kernel_rfl) (by simp) ?_
            refine AllReadyH.cons rfl (fun K hK => ?_) (AllReadyH.nil)
            go_simp
            (go_at_call 11; (refine (AP.out _ (B4.out)).mono ?_); rintro z w5 ⟨a, c, a', c', rfl, o5, b5⟩; have O5 := Lib.hid o5)
            have B5 := Lib.hid (B4.out.trans (b5.mono B4.out.size))
            have HZ5 := Lib.hid ((b5.block wr.heap.size (heap_lt HZ4.out)).trans HZ4.out)
            refine hK.out _ _ ?_ (fun hHeldN => ?_)
            · exact CF.out _ B5.out
            clear hK K
            try simp only [List.getElem_toArray, List.getElem_cons_succ, List.getElem_cons_zero, Act.put, List.setIfInBounds_toArray, List.set_cons_zero, List.set_cons_succ]
            refine wpAnyH_take (i := 8) (v := ?_) rfl (by kernel_rfl) (by kernel_rfl) (by kernel_rfl) (fun _ _ _ h => h) (Or.inl ⟨by rfl, ?_⟩) (by assumption) ?_
            rotate_left
            · intro w hSw; (try dsimp only at hSw); obtain ⟨⟨g0, g1, g2, g3, g4, g5, g6⟩, q0, q1⟩ := hSw; go_simp; (try with_reducible rfl)
            try simp only [List.getElem_toArray, List.getElem_cons_succ, List.getElem_cons_zero, Act.put, List.setIfInBounds_toArray, List.set_cons_zero, List.set_cons_succ]
            refine wpAnyH_take (i := 9) (v := ?_) rfl (by kernel_rfl) (by kernel_rfl) (by kernel_rfl) (fun _ _ _ h => h) (Or.inl ⟨by rfl, ?_⟩) (by assumption) ?_
            rotate_left
            · intro w hSw; (try dsimp only at hSw); obtain ⟨⟨g0, g1, g2, g3, g4, g5, g6⟩, q0, q1⟩ := hSw; go_simp; (try with_reducible rfl)
            try simp only [List.getElem_toArray, List.getElem_cons_succ, List.getElem_cons_zero, Act.put, List.setIfInBounds_toArray, List.set_cons_zero, List.set_cons_succ]
            refine wpAnyH_take (i := 10) (v := ?_) rfl (by kernel_rfl) (by kernel_rfl) (by kernel_rfl) (fun _ _ _ h => h) (Or.inl ⟨by rfl, ?_⟩) (by assumption) ?_
            rotate_left
            · intro w hSw; (try dsimp only at hSw); obtain ⟨⟨g0, g1, g2, g3, g4, g5, g6⟩, q0, q1⟩ := hSw; go_simp; (try with_reducible rfl)
            try simp only [List.getElem_toArray, List.getElem_cons_succ, List.getElem_cons_zero, Act.put, List.setIfInBounds_toArray, List.set_cons_zero, List.set_cons_succ]
            obtain ⟨⟨u0, u1⟩, uf⟩ := pcell_of HZ5.out
            refine wpAnyH_ready (rs := [12]) (by kernel_rfl) (by simp) ?_
            refine AllReadyH.cons rfl (fun K hK => ?_) (AllReadyH.nil)
            go_simp
            refine hK.out _ _ ?_ (fun hHeldN => ?_)
            · exact CF.out _ ((B5.out.setCell (by first | exact Nat.le_refl _ | exact B4.out.size) _).setCell (by first | exact Nat.le_refl _ | exact B4.out.size) _)
            clear hK K
            try simp only [List.getElem_toArray, List.getElem_cons_succ, List.getElem_cons_zero, Act.put, List.setIfInBounds_toArray, List.set_cons_zero, List.set_cons_succ]
            refine wpAnyH_take (i := 13) (v := ?_) rfl (by kernel_rfl) (by kernel_rfl) (by kernel_rfl) (fun _ _ _ h => h) (Or.inl ⟨by rfl, ?_⟩) (by assumption) ?_
            rotate_left
            · intro w hSw; (try dsimp only at hSw); obtain ⟨⟨g0, g1, g2, g3, g4, g5, g6⟩, q0, q1⟩ := hSw; go_simp; (try with_reducible rfl)
            try simp only [List.getElem_toArray, List.getElem_cons_succ, List.getElem_cons_zero, Act.put, List.setIfInBounds_toArray, List.set_cons_zero, List.set_cons_succ]
            refine wpAnyH_done (by kernel_rfl) ?_ _
            go_wp2_with fail
            go_meet
            case rel => exact ⟨_, _, a, c, a', c', rfl, rfl, rfl, pbox_set HZ5.out _ _, (by first | exact Nat.le_refl _ | exact B4.out.size), O5.out.apart HZ5.out _ _, (B5.out.setCell (by first | exact Nat.le_refl _ | exact B4.out.size) _).setCell (by first | exact Nat.le_refl _ | exact B4.out.size) _⟩
        case rest =>
          obtain ⟨w6, ge, a, c, a', c', hw6, rfl, rfl, hgx, hge, ox, bc⟩ := hcut
          subst hw6
          have HGX := Lib.hid hgx
          have B6 := Lib.hid bc
          have OX6 := Lib.hid ox
          have B6W := Lib.hid (BE.out.trans (bc.mono BE.out.size))
          have HBX6 := Lib.hid ((bc.block w1.heap.size hg1).trans HBX.out)
          have OP6 := Lib.hid (OP1.out.below bc)
          have OW6 := Lib.hid (OW.out.below bc)
          obtain ⟨⟨k0, k1⟩, _⟩ := pcell_of hgx
          obtain ⟨_, k2, k3⟩ := CF.out _ bc
          have CX2 := Lib.hid (CHX.out _ _ OX6.out B6W.out)
          clear EV AP bc hgx ox
          have hlen : ¬ (X.ps.length : Int) < p.ps.length := by have := GR.out; omega
          have hlenX : p.ps.length ≤ X.ps.length := GR.out
          go_upto_region 7 with fail
          go_cut [57] (fun x57 wx => ∃ w7 : World, w7 = wx ∧ x57 = .bool false ∧ Below w6.heap.size w6 w7)
          case first =>
            by_cases hf : fe = 0
            · subst hf
              go_wp2_with (go_at_call 19; (with_reducible refine (CX2.out).mono ?_); rintro z w7 ⟨rfl, b7⟩; have B7 := Lib.hid b7; clear b7; obtain ⟨⟨r0, r1⟩, _⟩ := pcell_of ((B7.out.block _ (heap_lt HGX.out)).trans HGX.out); obtain ⟨_, r2, r3⟩ := CF.out _ (B6.out.trans (B7.out.mono B6.out.size)))
              go_meet
              case rel => exact ⟨_, rfl, (by rw [decide_eq_false (Nat.not_lt.2 hlenX)]), B7.out⟩
            · have hf' : (fe == 0) = false := beq_eq_false_iff_ne.2 hf
              have SX2 := Lib.hid (SMX.out hf)
              go_wp2_with (first
                | (go_at_call 19; (with_reducible refine (CX2.out).mono ?_); rintro z w7 ⟨rfl, b7⟩; have B7 := Lib.hid b7; clear b7; obtain ⟨⟨r0, r1⟩, _⟩ := pcell_of ((B7.out.block _ (heap_lt HGX.out)).trans HGX.out); obtain ⟨_, r2, r3⟩ := CF.out _ (B6.out.trans (B7.out.mono B6.out.size)); have SX3 := Lib.hid (SX2.out _ _ _ (OX6.out.below B7.out) (OW6.out.below B7.out)))
                | (go_at_call 20; (with_reducible refine (SX3.out).mono ?_); rintro z w8 ⟨rfl, b8⟩; have B8 := Lib.hid (B7.out.trans (b8.mono B7.out.size)); clear b8; obtain ⟨⟨t0, t1⟩, _⟩ := pcell_of ((B8.out.block _ (heap_lt HGX.out)).trans HGX.out); obtain ⟨_, t2, t3⟩ := CF.out _ (B6.out.trans (B8.out.mono B6.out.size))))
              go_meet
              case rel => exact ⟨_, rfl, (by rw [decide_eq_false (Nat.not_lt.2 hlenX)]), B8.out⟩
          case rest =>
            obtain ⟨w7, hw7, rfl, b7⟩ := hcut
            subst hw7
            have B7 := Lib.hid (B6.out.trans (b7.mono B6.out.size))
            have HGX7 := Lib.hid ((b7.block _ (heap_lt HGX.out)).trans HGX.out)
            have HBX7 := Lib.hid ((b7.block _ (heap_lt HBX6.out)).trans HBX6.out)
            have OX7 := Lib.hid (OX6.out.below b7)
            have OP7 := Lib.hid (OP6.out.below b7)
            have BW7 := Lib.hid (BE.out.trans (B7.out.mono BE.out.size))
            obtain ⟨⟨k0, k1⟩, _⟩ := pcell_of HGX7.out
            obtain ⟨⟨k2, k3⟩, _⟩ := pcell_of HBX7.out
            obtain ⟨a2, c2, a2', c2', hxe, oxp, oxs⟩ := id OX7.out
            simp only [Value.agg.injEq, Array.mk.injEq, List.cons.injEq, and_true] at hxe
            obtain ⟨hxe1, hxe2⟩ := hxe
            rw [← hxe1] at oxp
            have ORW7 := Lib.hid oxp
            clear CHX SMX CX2 b7 oxp oxs hxe1 hxe2 B6 HGX OX6 B6W HBX6 OP6 OW6
            go_wp2_with fail
            go_loopw [8] (fun i wq => ∃ k : Nat, k ≤ p.ps.length ∧ i = .int .i64 k ∧ Below w7.heap.size w7 wq) (fun i _ => p.ps.length - (intOf i).toNat)
            case atStart => exact ⟨0, Nat.zero_le _, rfl, Below.refl _ _⟩
            case round =>
              obtain ⟨k, hk, rfl, bq⟩ := hrel
              have hlp := HP.out.len
              have hlX := HX.out.len
              have BQ := Lib.hid bq
              have f1 := (bq.block _ (heap_lt HBX7.out)).trans HBX7.out
              obtain ⟨⟨n0, n1⟩, _⟩ := pcell_of f1
              have HF1 := Lib.hid f1
              clear f1
              by_cases hkp : k < p.ps.length
              · have hkp' : (k : Int) < p.ps.length := by omega
                have hk0 : (0 : Int) ≤ k := by omega
                have hkx : k < X.ps.length := by omega
                have hkx' : (k : Int) < X.ps.length := by omega
                obtain ⟨g, hg, hgl, hgu, m0, m1, m2, m3, m4, m5, m6, m7, m8, m9, m10, m11, m12⟩ := (OP7.out.below bq).all k hkp
                subst hg
                rw [List.getElem?_eq_getElem hkp, Option.getD_some] at m0 m1 m2 m3 m4 m5 m6 m7 m8 m9 m10 m11 m12
                have hyq := NA.out k hkp
                rw [List.getElem?_eq_getElem hkx] at hyq
                have hye := Option.some.inj hyq
                have hsf := SF.out k hkp X.ps[k] hye
                have hid := IDS.out k hkp
                have hpp := (PPS.out k hkp).vers
                clear hyq hye
                generalize p.ps[k] = x at *
                obtain ⟨xid, xmail, xver, xsalt, xchk, xvers, xmiss, xlock, xc0, xc1, xc2, xc3, xc4⟩ := x
                simp only at m0 m1 m2 m3 m4 m5 m6 m7 m8 m9 m10 m11 m12 hid hpp hsf
                subst hid
                have ba := bq.alloc bq.size (.cells #[.int .i64 ((k : Int) + 1), .string xmail, .bool xver, .string xsalt, .string xchk, .int .i64 xvers, .int .i64 xmiss, .int .i64 xlock, .string xc0, .string xc1, .string xc2, .string xc3, .string xc4] 38)
                have HXA := Lib.hid (heap_new wr (.cells #[.int .i64 ((k : Int) + 1), .string xmail, .bool xver, .string xsalt, .string xchk, .int .i64 xvers, .int .i64 xmiss, .int .i64 xlock, .string xc0, .string xc1, .string xc2, .string xc3, .string xc4] 38))
                have hga := (ba.block _ (heap_lt HGX7.out)).trans HGX7.out
                obtain ⟨⟨s0, s1'⟩, _⟩ := pcell_of hga
                obtain ⟨g3, hg3, _, _, f0, f1, f2, f3, f4, f5, f6, f7, f8, f9, f10, f11, f12⟩ := (ORW7.out.below ba).all k hkx
                subst hg3
                rw [List.getElem?_eq_getElem hkx, Option.getD_some] at f0 f1 f2 f3 f4 f5 f6 f7 f8 f9 f10 f11 f12
                generalize X.ps[k] = y at *
                obtain ⟨yid, ymail, yver, ysalt, ychk, yvers, ymiss, ylock, yc0, yc1, yc2, yc3, yc4⟩ := y
                simp only at f0 f1 f2 f3 f4 f5 f6 f7 f8 f9 f10 f11 f12 hsf
                obtain ⟨hs1, hs2, hs3, hs4⟩ := hsf
                subst hs1
                have hwv : IntKind.i64.wrap (xvers + 1) = xvers + 1 := by rw [IntKind.wrap_i64] <;> omega
                have hv1 : ¬ yvers < xvers := by omega
                have hv2 : ¬ xvers + 1 < yvers := by omega
                have bb := ba.alloc ba.size (.cells #[.int .i64 ((k : Int) + 1), .string ymail, .bool yver, .string ysalt, .string ychk, .int .i64 yvers, .int .i64 ymiss, .int .i64 ylock, .string yc0, .string yc1, .string yc2, .string yc3, .string yc4] 38)
                obtain ⟨i0, i1, i2, i3, i4, i5, i6, i7, i8, i9, i10, i11, i12⟩ := Per.At.of_heap (m := ⟨(k : Int) + 1, ymail, yver, ysalt, ychk, yvers, ymiss, ylock, yc0, yc1, yc2, yc3, yc4⟩) (heap_new (wr.alloc (.cells #[.int .i64 ((k : Int) + 1), .string xmail, .bool xver, .string xsalt, .string xchk, .int .i64 xvers, .int .i64 xmiss, .int .i64 xlock, .string xc0, .string xc1, .string xc2, .string xc3, .string xc4] 38)) (.cells #[.int .i64 ((k : Int) + 1), .string ymail, .bool yver, .string ysalt, .string ychk, .int .i64 yvers, .int .i64 ymiss, .int .i64 ylock, .string yc0, .string yc1, .string yc2, .string yc3, .string yc4] 38))
                obtain ⟨j0, j1, j2, j3, j4, j5, j6, j7, j8, j9, j10, j11, j12⟩ := Per.At.of_heap (w2 := (wr.alloc (.cells #[.int .i64 ((k : Int) + 1), .string xmail, .bool xver, .string xsalt, .string xchk, .int .i64 xvers, .int .i64 xmiss, .int .i64 xlock, .string xc0, .string xc1, .string xc2, .string xc3, .string xc4] 38)).alloc (.cells #[.int .i64 ((k : Int) + 1), .string ymail, .bool yver, .string ysalt, .string ychk, .int .i64 yvers, .int .i64 ymiss, .int .i64 ylock, .string yc0, .string yc1, .string yc2, .string yc3, .string yc4] 38)) (m := ⟨(k : Int) + 1, xmail, xver, xsalt, xchk, xvers, xmiss, xlock, xc0, xc1, xc2, xc3, xc4⟩) ((Lib.alloc_old _ _ _ (by simp)).trans HXA.out)
                have hsz : (wr.alloc (.cells #[.int .i64 ((k : Int) + 1), .string xmail, .bool xver, .string xsalt, .string xchk, .int .i64 xvers, .int .i64 xmiss, .int .i64 xlock, .string xc0, .string xc1, .string xc2, .string xc3, .string xc4] 38)).heap.size = wr.heap.size + 1 := by simp
                rw [hsz] at i0 i1 i2 i3 i4 i5 i6 i7 i8 i9 i10 i11 i12
                have BX := Lib.hid bb
                simp only at i0 i1 i2 i3 i4 i5 i6 i7 i8 i9 i10 i11 i12 j0 j1 j2 j3 j4 j5 j6 j7 j8 j9 j10 j11 j12
                clear hsz hga ba bb bq hpp hs2 hs3
                cases xver
                · go_wp2_with fail
                  go_roundw
                  case rel => exact ⟨k + 1, by omega, by go_num, BX.out⟩
                  case measure => simp [intOf]; omega
                · have hyv : yver = true := hs4 rfl
                  subst hyv
                  go_wp2_with fail
                  go_roundw
                  case rel => exact ⟨k + 1, by omega, by go_num, BX.out⟩
                  case measure => simp [intOf]; omega
              · have hkp' : ¬ (k : Int) < p.ps.length := by omega
                have BS := Lib.hid bq
                have HGX8 := Lib.hid ((bq.block _ (heap_lt HGX7.out)).trans HGX7.out)
                have OX8 := Lib.hid (OX7.out.below bq)
                have ORW8 := Lib.hid (ORW7.out.below bq)
                have BW8 := Lib.hid (BW7.out.trans (bq.mono BW7.out.size))
                obtain ⟨⟨s0, s1'⟩, _⟩ := pcell_of HGX8.out
                clear bq HGX7 OX7 ORW7 OP7 NA SF
                go_wp2_with fail
                go_loopw [11] (fun i wq => ∃ k : Nat, k ≤ X.ps.length ∧ i = .int .i64 k ∧ Below wr.heap.size wr wq) (fun i _ => X.ps.length - (intOf i).toNat)
                case atStart => exact ⟨0, Nat.zero_le _, rfl, Below.refl _ _⟩
                case round =>
                  obtain ⟨k, hk, rfl, bq⟩ := hrel
                  have BQ := Lib.hid bq
                  have hga := (bq.block _ (heap_lt HGX8.out)).trans HGX8.out
                  obtain ⟨⟨v0, v1⟩, _⟩ := pcell_of hga
                  have HGA := Lib.hid hga
                  by_cases hkx : k < X.ps.length
                  · have hkx' : (k : Int) < X.ps.length := by omega
                    have hk0 : (0 : Int) ≤ k := by omega
                    obtain ⟨g, hg, hgl, hgu, d0, d1, d2, d3, d4, d5, d6, d7, d8, d9, d10, d11, d12⟩ := (ORW8.out.below bq).all k hkx
                    subst hg
                    rw [List.getElem?_eq_getElem hkx, Option.getD_some] at d0 d1 d2 d3 d4 d5 d6 d7 d8 d9 d10 d11 d12
                    have BY2 : Hid (∀ w2, Below wr.heap.size wr w2 → Calls Tryd.prog 21 #[.agg #[.slice (some ⟨g, 0, none⟩) X.ps.length c, .slice a' X.ss.length c'], .string X.ps[k].mail] w2 fun r w' => r = .returned (.tuple #[X.ps[k].agg, .bool true]) ∧ Below w2.heap.size w2 w') := Lib.hid (fun w2 b => BYX.out w2 _ (OX8.out.below (bq.trans (b.mono bq.size))) k hkx)
                    have hid := IDX.out k hkx
                    generalize X.ps[k] = y at *
                    obtain ⟨yid, ymail, yver, ysalt, ychk, yvers, ymiss, ylock, yc0, yc1, yc2, yc3, yc4⟩ := y
                    simp only at d0 d1 d2 d3 d4 d5 d6 d7 d8 d9 d10 d11 d12 hid
                    subst hid
                    unfold Per.R.agg at BY2
                    have CF3 : Hid (∀ w2, Below wr.heap.size wr w2 → (w2.cell? ⟨ge, 0, none⟩ = some (.slice (some ⟨g, 0, none⟩) X.ps.length c) ∧ w2.cell? ⟨ge, 1, none⟩ = some (.slice a' X.ss.length c')) ∧ w2.cell? ⟨g, k * 13, none⟩ = some (.int .i64 ((k : Int) + 1)) ∧ w2.cell? ⟨g, k * 13 + 1, none⟩ = some (.string ymail)) := Lib.hid (fun w2 b => ⟨(pcell_of ((b.block _ (heap_lt HGA.out)).trans HGA.out)).1, (b.cell (p := ⟨g, k * 13, none⟩) hgu).trans d0, (b.cell (p := ⟨g, k * 13 + 1, none⟩) hgu).trans d1⟩)
                    clear hga bq OX8 ORW8 HGX8 CF k0 k1 k2 k3
                    go_wp2_with fail
                    go_cut [12, 13] (fun x12 x13 wx => ∃ gq, x12 = .pointer (some ⟨gq, 0, none⟩) ∧ x13 = .bool true ∧ wx.heap[gq]? = some (.cells #[.int .i64 ((k : Int) + 1), .string ymail, .bool yver, .string ysalt, .string ychk, .int .i64 yvers, .int .i64 ymiss, .int .i64 ylock, .string yc0, .string yc1, .string yc2, .string yc3, .string yc4] 38) ∧ Below wr.heap.size wr wx)
                    case first =>
                      refine wp_region_held_drew (S := fun w2 => Below wr.heap.size wr w2) (by kernel_rfl) ?_ (fun hHeld0 => ?_)
                      · exact below_drew (Below.refl _ _)
                      refine wpAnyH_take (i := 0) (v := ?_) rfl (by kernel_rfl) (by kernel_rfl) (by kernel_rfl) (fun _ _ _ h => h) (Or.inl ⟨by rfl, ?_⟩) (by assumption) ?_
                      rotate_left
                      · intro w hSw; (try dsimp only at hSw); obtain ⟨⟨v0, v1⟩, v2, v3⟩ := CF3.out w hSw; go_simp; (try with_reducible rfl)
                      simp only [List.getElem_toArray, List.getElem_cons_zero, Act.put, List.setIfInBounds_toArray, List.set_cons_zero, List.set_cons_succ]
                      refine wpAnyH_take (i := 1) (v := ?_) rfl (by kernel_rfl) (by kernel_rfl) (by kernel_rfl) (fun _ _ _ h => h) (Or.inl ⟨by rfl, ?_⟩) (by assumption) ?_
                      rotate_left
                      · intro w hSw; (try dsimp only at hSw); obtain ⟨⟨v0, v1⟩, v2, v3⟩ := CF3.out w hSw; go_simp; (try with_reducible rfl)
                      simp only [List.getElem_toArray, List.getElem_cons_succ, List.getElem_cons_zero, Act.put, List.setIfInBounds_toArray, List.set_cons_zero, List.set_cons_succ]
                      refine wpAnyH_take (i := 2) (v := ?_) rfl (by kernel_rfl) (by kernel_rfl) (by kernel_rfl) (fun _ _ _ h => h) (Or.inl ⟨by rfl, ?_⟩) (by assumption) ?_
                      rotate_left
                      · intro w hSw; (try dsimp only at hSw); obtain ⟨⟨v0, v1⟩, v2, v3⟩ := CF3.out w hSw; go_simp; (try with_reducible rfl)
                      simp only [List.getElem_toArray, List.getElem_cons_succ, List.getElem_cons_zero, Act.put, List.setIfInBounds_toArray, List.set_cons_zero, List.set_cons_succ]
                      refine wpAnyH_take (i := 3) (v := ?_) rfl (by kernel_rfl) (by kernel_rfl) (by kernel_rfl) (fun _ _ _ h => h) (Or.inl ⟨by rfl, ?_⟩) (by assumption) ?_
                      rotate_left
                      · intro w hSw; (try dsimp only at hSw); obtain ⟨⟨v0, v1⟩, v2, v3⟩ := CF3.out w hSw; go_simp; (try with_reducible rfl)
                      simp only [List.getElem_toArray, List.getElem_cons_succ, List.getElem_cons_zero, Act.put, List.setIfInBounds_toArray, List.set_cons_zero, List.set_cons_succ]
                      refine wpAnyH_take (i := 4) (v := ?_) rfl (by kernel_rfl) (by kernel_rfl) (by kernel_rfl) (fun _ _ _ h => h) (Or.inl ⟨by rfl, ?_⟩) (by assumption) ?_
                      rotate_left
                      · intro w hSw; (try dsimp only at hSw); obtain ⟨⟨v0, v1⟩, v2, v3⟩ := CF3.out w hSw; go_simp; (try with_reducible rfl)
                      simp only [List.getElem_toArray, List.getElem_cons_succ, List.getElem_cons_zero, Act.put, List.setIfInBounds_toArray, List.set_cons_zero, List.set_cons_succ]
                      refine wpAnyH_take (i := 5) (v := ?_) rfl (by kernel_rfl) (by kernel_rfl) (by kernel_rfl) (fun _ _ _ h => h) (Or.inl ⟨by rfl, ?_⟩) (by assumption) ?_
                      rotate_left
                      · intro w hSw; (try dsimp only at hSw); obtain ⟨⟨v0, v1⟩, v2, v3⟩ := CF3.out w hSw; go_simp; (try with_reducible rfl)
                      simp only [List.getElem_toArray, List.getElem_cons_succ, List.getElem_cons_zero, Act.put, List.setIfInBounds_toArray, List.set_cons_zero, List.set_cons_succ]
                      refine wpAnyH_take (i := 6) (v := ?_) rfl (by kernel_rfl) (by kernel_rfl) (by kernel_rfl) (fun _ _ _ h => h) (Or.inl ⟨by rfl, ?_⟩) (by assumption) ?_
                      rotate_left
                      · intro w hSw; (try dsimp only at hSw); obtain ⟨⟨v0, v1⟩, v2, v3⟩ := CF3.out w hSw; go_simp; (try with_reducible rfl)
                      simp only [List.getElem_toArray, List.getElem_cons_succ, List.getElem_cons_zero, Act.put, List.setIfInBounds_toArray, List.set_cons_zero, List.set_cons_succ]
                      refine wpAnyH_ready (rs := [7, 11]) (by kernel_rfl) (by simp) ?_
                      refine AllReadyH.cons rfl (fun K hK => ?_) (AllReadyH.cons rfl (fun K hK => ?_) (AllReadyH.nil))
                      · go_simp
                        (go_at_call 21; (refine (BY2.out _ (below_drew (Below.refl _ _))).mono ?_); rintro z w8 ⟨rfl, b8⟩)
                        have B8 := Lib.hid ((below_drew (Below.refl wr.heap.size wr)).trans b8)
                        refine hK.out _ _ ?_ (fun hHeldN => ?_)
                        · exact B8.out
                        clear hK K
                        try simp only [List.getElem_toArray, List.getElem_cons_succ, List.getElem_cons_zero, Act.put, List.setIfInBounds_toArray, List.set_cons_zero, List.set_cons_succ]
                        refine wpAnyH_take (i := 8) (v := ?_) rfl (by kernel_rfl) (by kernel_rfl) (by kernel_rfl) (fun _ _ _ h => h) (Or.inl ⟨by rfl, ?_⟩) (by assumption) ?_
                        rotate_left
                        · intro w hSw; (try dsimp only at hSw); obtain ⟨⟨v0, v1⟩, v2, v3⟩ := CF3.out w hSw; go_simp; (try with_reducible rfl)
                        try simp only [List.getElem_toArray, List.getElem_cons_succ, List.getElem_cons_zero, Act.put, List.setIfInBounds_toArray, List.set_cons_zero, List.set_cons_succ]
                        refine wpAnyH_take (i := 9) (v := ?_) rfl (by kernel_rfl) (by kernel_rfl) (by kernel_rfl) (fun _ _ _ h => h) (Or.inl ⟨by rfl, ?_⟩) (by assumption) ?_
                        rotate_left
                        · intro w hSw; (try dsimp only at hSw); obtain ⟨⟨v0, v1⟩, v2, v3⟩ := CF3.out w hSw; go_simp; (try with_reducible rfl)
                        try simp only [List.getElem_toArray, List.getElem_cons_succ, List.getElem_cons_zero, Act.put, List.setIfInBounds_toArray, List.set_cons_zero, List.set_cons_succ]
                        refine wpAnyH_take (i := 10) (v := ?_) rfl (by kernel_rfl) (by kernel_rfl) (by kernel_rfl) (fun _ _ _ h => h) (Or.inl ⟨by rfl, ?_⟩) (by assumption) ?_
                        rotate_left
                        · intro w hSw; (try dsimp only at hSw); obtain ⟨⟨v0, v1⟩, v2, v3⟩ := CF3.out w hSw; go_simp; (try with_reducible rfl)
                        try simp only [List.getElem_toArray, List.getElem_cons_succ, List.getElem_cons_zero, Act.put, List.setIfInBounds_toArray, List.set_cons_zero, List.set_cons_succ]
                        refine wpAnyH_ready (rs := [11]) (by kernel_rfl) (by simp) ?_
                        refine AllReadyH.cons rfl (fun K hK => ?_) (AllReadyH.nil)
                        go_simp
                        refine hK.out _ _ ?_ (fun hHeldN => ?_)
                        · exact B8.out.alloc B8.out.size _
                        clear hK K
                        try simp only [List.getElem_toArray, List.getElem_cons_succ, List.getElem_cons_zero, Act.put, List.setIfInBounds_toArray, List.set_cons_zero, List.set_cons_succ]
                        refine wpAnyH_ready (rs := [12]) (by kernel_rfl) (by simp) ?_
                        refine AllReadyH.cons rfl (fun K hK => ?_) (AllReadyH.nil)
                        go_simp
                        refine hK.out _ _ ?_ (fun hHeldN => ?_)
                        · exact B8.out.alloc B8.out.size _
                        clear hK K
                        try simp only [List.getElem_toArray, List.getElem_cons_succ, List.getElem_cons_zero, Act.put, List.setIfInBounds_toArray, List.set_cons_zero, List.set_cons_succ]
                        refine wpAnyH_take (i := 13) (v := ?_) rfl (by kernel_rfl) (by kernel_rfl) (by kernel_rfl) (fun _ _ _ h => h) (Or.inl ⟨by rfl, ?_⟩) (by assumption) ?_
                        rotate_left
                        · intro w hSw; (try dsimp only at hSw); obtain ⟨⟨v0, v1⟩, v2, v3⟩ := CF3.out w hSw; go_simp; (try with_reducible rfl)
                        try simp only [List.getElem_toArray, List.getElem_cons_succ, List.getElem_cons_zero, Act.put, List.setIfInBounds_toArray, List.set_cons_zero, List.set_cons_succ]
                        refine wpAnyH_done (by kernel_rfl) ?_ _
                        go_wp2_with fail
                        go_meet
                        case rel => exact ⟨_, rfl, rfl, heap_new _ _, B8.out.alloc B8.out.size _⟩
                      · go_simp
                        have b3 : Below wr.heap.size wr (wr.alloc (.cells #[.int .i64 0, .string ⟨#[]⟩, .bool false, .string ⟨#[]⟩, .string ⟨#[]⟩, .int .i64 0, .int .i64 0, .int .i64 0, .string ⟨#[]⟩, .string ⟨#[]⟩, .string ⟨#[]⟩, .string ⟨#[]⟩, .string ⟨#[]⟩] 38)).drew := below_drew ((Below.refl _ _).alloc (Nat.le_refl _) _)
                        have s3 : (wr.alloc (.cells #[.int .i64 0, .string ⟨#[]⟩, .bool false, .string ⟨#[]⟩, .string ⟨#[]⟩, .int .i64 0, .int .i64 0, .int .i64 0, .string ⟨#[]⟩, .string ⟨#[]⟩, .string ⟨#[]⟩, .string ⟨#[]⟩, .string ⟨#[]⟩] 38)).drew.heap.size = wr.heap.size + 1 := by simp [World.drew]
                        refine hK.out _ _ ?_ (fun hHeldN => ?_)
                        · exact b3
                        clear hK K
                        try simp only [List.getElem_toArray, List.getElem_cons_succ, List.getElem_cons_zero, Act.put, List.setIfInBounds_toArray, List.set_cons_zero, List.set_cons_succ]
                        refine wpAnyH_ready (rs := [7]) (by kernel_rfl) (by simp) ?_
                        refine AllReadyH.cons rfl (fun K hK => ?_) (AllReadyH.nil)
                        go_simp
                        (go_at_call 21; (refine (BY2.out _ (b3)).mono ?_); rintro z w8 ⟨rfl, b8⟩)
                        have B8 := Lib.hid (b3.trans (b8.mono (by omega)))
                        have HZ := Lib.hid ((b8.block wr.heap.size (by omega)).trans (heap_new wr (.cells #[.int .i64 0, .string ⟨#[]⟩, .bool false, .string ⟨#[]⟩, .string ⟨#[]⟩, .int .i64 0, .int .i64 0, .int .i64 0, .string ⟨#[]⟩, .string ⟨#[]⟩, .string ⟨#[]⟩, .string ⟨#[]⟩, .string ⟨#[]⟩] 38)))
                        obtain ⟨u0, u1, u2, u3, u4, u5, u6, u7, u8, u9, u10, u11, u12⟩ := Per.At.of_heap (m := Per.zero) HZ.out
                        have uf := fun j => frozen_of_row _ _ j _ _ HZ.out
                        unfold Per.zero at u0 u1 u2 u3 u4 u5 u6 u7 u8 u9 u10 u11 u12
                        simp only at u0 u1 u2 u3 u4 u5 u6 u7 u8 u9 u10 u11 u12
                        refine hK.out _ _ ?_ (fun hHeldN => ?_)
                        · exact B8.out
                        clear hK K
                        try simp only [List.getElem_toArray, List.getElem_cons_succ, List.getElem_cons_zero, Act.put, List.setIfInBounds_toArray, List.set_cons_zero, List.set_cons_succ]
                        refine wpAnyH_take (i := 8) (v := ?_) rfl (by kernel_rfl) (by kernel_rfl) (by kernel_rfl) (fun _ _ _ h => h) (Or.inl ⟨by rfl, ?_⟩) (by assumption) ?_
                        rotate_left
                        · intro w hSw; (try dsimp only at hSw); obtain ⟨⟨v0, v1⟩, v2, v3⟩ := CF3.out w hSw; go_simp; (try with_reducible rfl)
                        try simp only [List.getElem_toArray, List.getElem_cons_succ, List.getElem_cons_zero, Act.put, List.setIfInBounds_toArray, List.set_cons_zero, List.set_cons_succ]
                        refine wpAnyH_take (i := 9) (v := ?_) rfl (by kernel_rfl) (by kernel_rfl) (by kernel_rfl) (fun _ _ _ h => h) (Or.inl ⟨by rfl, ?_⟩) (by assumption) ?_
                        rotate_left
                        · intro w hSw; (try dsimp only at hSw); obtain ⟨⟨v0, v1⟩, v2, v3⟩ := CF3.out w hSw; go_simp; (try with_reducible rfl)
                        try simp only [List.getElem_toArray, List.getElem_cons_succ, List.getElem_cons_zero, Act.put, List.setIfInBounds_toArray, List.set_cons_zero, List.set_cons_succ]
                        refine wpAnyH_take (i := 10) (v := ?_) rfl (by kernel_rfl) (by kernel_rfl) (by kernel_rfl) (fun _ _ _ h => h) (Or.inl ⟨by rfl, ?_⟩) (by assumption) ?_
                        rotate_left
                        · intro w hSw; (try dsimp only at hSw); obtain ⟨⟨v0, v1⟩, v2, v3⟩ := CF3.out w hSw; go_simp; (try with_reducible rfl)
                        try simp only [List.getElem_toArray, List.getElem_cons_succ, List.getElem_cons_zero, Act.put, List.setIfInBounds_toArray, List.set_cons_zero, List.set_cons_succ]
                        refine wpAnyH_ready (rs := [12]) (by kernel_rfl) (by simp) ?_
                        refine AllReadyH.cons rfl (fun K hK => ?_) (AllReadyH.nil)
                        go_simp
                        refine hK.out _ _ ?_ (fun hHeldN => ?_)
                        · exact Per.below_put (o := 0) B8.out (Nat.le_refl _) _ _ _ _ _ _ _ _ _ _ _ _ _
                        clear hK K
                        try simp only [List.getElem_toArray, List.getElem_cons_succ, List.getElem_cons_zero, Act.put, List.setIfInBounds_toArray, List.set_cons_zero, List.set_cons_succ]
                        refine wpAnyH_take (i := 13) (v := ?_) rfl (by kernel_rfl) (by kernel_rfl) (by kernel_rfl) (fun _ _ _ h => h) (Or.inl ⟨by rfl, ?_⟩) (by assumption) ?_
                        rotate_left
                        · intro w hSw; (try dsimp only at hSw); obtain ⟨⟨v0, v1⟩, v2, v3⟩ := CF3.out w hSw; go_simp; (try with_reducible rfl)
                        try simp only [List.getElem_toArray, List.getElem_cons_succ, List.getElem_cons_zero, Act.put, List.setIfInBounds_toArray, List.set_cons_zero, List.set_cons_succ]
                        refine wpAnyH_done (by kernel_rfl) ?_ _
                        go_wp2_with fail
                        go_meet
                        case rel => exact ⟨_, rfl, rfl, per_set (e0 := Per.zero) HZ.out ⟨(k : Int) + 1, ymail, yver, ysalt, ychk, yvers, ymiss, ylock, yc0, yc1, yc2, yc3, yc4⟩, Per.below_put (o := 0) B8.out (Nat.le_refl _) _ _ _ _ _ _ _ _ _ _ _ _ _⟩
                    case rest =>
                      obtain ⟨gq, rfl, rfl, hq, b9⟩ := hcut
                      obtain ⟨⟨s0, s1'⟩, s2, s3⟩ := CF3.out _ b9
                      obtain ⟨i0, i1, i2, i3, i4, i5, i6, i7, i8, i9, i10, i11, i12⟩ := Per.At.of_heap (m := ⟨(k : Int) + 1, ymail, yver, ysalt, ychk, yvers, ymiss, ylock, yc0, yc1, yc2, yc3, yc4⟩) hq
                      have B9 := Lib.hid b9
                      simp only at i0
                      clear b9 hq i1 i2 i3 i4 i5 i6 i7 i8 i9 i10 i11 i12
                      go_wp2_with fail
                      go_quiet (fail)
                      go_wp2_with fail
                      go_roundw
                      case rel => exact ⟨k + 1, by omega, by go_num, below_drewN (BQ.out.trans (B9.out.mono BQ.out.size)) _⟩
                      case measure => simp [intOf]; omega
                  · have hkx' : ¬ (k : Int) < X.ps.length := by omega
                    have BWE := Lib.hid (BW8.out.trans (bq.mono BW8.out.size))
                    have OXE := Lib.hid (OX8.out.below bq)
                    have HBE := Lib.hid ((bq.block _ (heap_lt HF1.out)).trans HF1.out)
                    obtain ⟨_, nf⟩ := pcell_of HBE.out
                    obtain ⟨⟨t0, t1⟩, _⟩ := pcell_of HBE.out
                    clear bq hga
                    go_wp2_with fail
                    go_roundw
                    case rel => exact ⟨n + 1, X, _, _, by omega, by omega, by go_num, HX.out, HXC.out, OXE.out.apart HBE.out _ _, pbox_set HBE.out _ _, (BWE.out.setCell s1 _).setCell s1 _⟩
                    case measure => simp [intOf]; omega
      · have hB' : ¬ (n : Int) < 80 := by omega
        have hA' : (n : Int) < len := by omega
        clear ho hb bel hp
        go_wp2_with fail
        go_ret
        exact ⟨rfl, BE.out⟩
    · have hA' : ¬ (n : Int) < len := by omega
      clear ho hb bel hp
      go_wp2_with fail
      go_ret
      exact ⟨rfl, BE.out⟩
end Go.Proofs.YtkihleecjgoipaaDoor
