/- people.session. -/
import Derived.Test.YtkihleecjgoipaaGreatDoorPpH
import Derived.Deep.RegionLaw
namespace Go.Proofs.YtkihleecjgoipaaGreatDoor
open Go.RowKit Go.Maps Go.Proofs.YtkihleecjgoipaaGreatDoor.Rw

/-- A box of people, one of an event, one for what is returned: as session and signup begin. -/
def W3 (w : World) (s1 s2 : Value) (e : Evn) : World := ((w.alloc (pobj s1 s2)).alloc e.obj).alloc (pobj (.slice none 0 0) (.slice none 0 0))
theorem W3_size (w : World) (s1 s2 : Value) (e : Evn) : (W3 w s1 s2 e).heap.size = w.heap.size + 3 := by simp [W3]
theorem W3_below (w : World) (s1 s2 : Value) (e : Evn) : Below w.heap.size w (W3 w s1 s2 e) := by
  unfold W3
  exact (((Below.refl _ _).alloc (Nat.le_refl _) _).alloc (by simp) _).alloc (by simp; omega) _
structure At3 (w : World) (s0 : Nat) (s1 s2 : Value) (e : Evn) : Prop where
  p : w.cell? ⟨s0, 0, none⟩ = some s1 ∧ w.cell? ⟨s0, 1, none⟩ = some s2
  ev : EvAt w (s0 + 1) e
  r : ∃ u0 u1, w.cell? ⟨s0 + 2, 0, none⟩ = some u0 ∧ w.cell? ⟨s0 + 2, 1, none⟩ = some u1
  f : ∀ j, w.frozen? ⟨s0 + 2, j, none⟩ = false
  hb : w.heap[s0 + 2]? = some (pobj (.slice none 0 0) (.slice none 0 0))
theorem W3_at {w w2 : World} (s1 s2 : Value) (e : Evn) (b : Below (w.heap.size + 3) (W3 w s1 s2 e) w2) : At3 w2 w.heap.size s1 s2 e := by
  have z1 : (w.alloc (pobj s1 s2)).heap.size = w.heap.size + 1 := by simp
  have z2 : ((w.alloc (pobj s1 s2)).alloc e.obj).heap.size = w.heap.size + 2 := by simp
  have h0 : (W3 w s1 s2 e).heap[w.heap.size]? = some (pobj s1 s2) := by
    unfold W3; rw [Lib.alloc_old _ _ _ (by omega), Lib.alloc_old _ _ _ (by omega)]; exact heap_new _ _
  have h1 : (W3 w s1 s2 e).heap[w.heap.size + 1]? = some e.obj := by
    unfold W3; rw [Lib.alloc_old _ _ _ (by omega), ← z1]; exact heap_new _ _
  have h2 : (W3 w s1 s2 e).heap[w.heap.size + 2]? = some (pobj (.slice none 0 0) (.slice none 0 0)) := by
    unfold W3; rw [← z2]; exact heap_new _ _
  obtain ⟨y, _⟩ := pcell_of ((b.block _ (by omega)).trans h0)
  obtain ⟨⟨u0, u1⟩, uf⟩ := pcell_of ((b.block _ (by omega)).trans h2)
  exact ⟨y, EvAt.of ((b.block _ (by omega)).trans h1), ⟨_, _, u0, u1⟩, uf, (b.block _ (by omega)).trans h2⟩
set_option maxHeartbeats 4000000 in
set_option maxRecDepth 100000 in
theorem session_any {B0 : Nat} {w : World} {v : Value} {p : Ppl} (hown : pown w B0 v p) (lim : few p) (hB0 : B0 ≤ w.heap.size) (e : Evn) :
    Calls Tryz.prog 27 #[v, e.agg] w fun r w' => ∃ v', r = .returned (.tuple #[v', .int .i64 (sesE p e)]) ∧ pown w' B0 v' (sesR p e) ∧ Below w.heap.size w w' := by
  have SE : Hid (sesE p e = if e.c.size ≠ 32 then 1 else if p.ss.any (fun s => decide (s.dig = e.c)) = true then 14 else if 16 ≤ (lasts p e.at_).length then 15 else 0) := Lib.hid rfl
  have SR : Hid (sesR p e = if sesE p e = 0 then ⟨p.ps, lasts p e.at_ ++ [⟨e.c, e.acc, e.num⟩]⟩ else p) := Lib.hid rfl
  obtain ⟨a, c, a', c', rfl, o1, o2⟩ := hown
  obtain ⟨lim1, lim2⟩ := lim
  have z3 := W3_size w (.slice a p.ps.length c) (.slice a' p.ss.length c') e
  have b3 := W3_below w (.slice a p.ps.length c) (.slice a' p.ss.length c') e
  have AT := Lib.hid (fun w2 b => W3_at (w := w) (w2 := w2) (.slice a p.ps.length c) (.slice a' p.ss.length c') e b)
  have hll : (lasts p e.at_).length ≤ p.ss.length := List.length_filter_le _ _
  have CT : Hid (Calls Tryz.prog 52 #[.slice a' p.ss.length c', .func (.func 53) #[] #[.pointer (some ⟨w.heap.size + 1, 0, none⟩)]] (W3 w (.slice a p.ps.length c) (.slice a' p.ss.length c') e) fun r w' => r = .returned (.bool (p.ss.any (fun s => decide (s.dig = e.c)))) ∧ Below (w.heap.size + 3) (W3 w (.slice a p.ps.length c) (.slice a' p.ss.length c') e) w') := Lib.hid (by
    have h := Ses.cont_any1 (o2.below b3) (by omega) (fun s => decide (s.dig = e.c)) 53 (.pointer (some ⟨w.heap.size + 1, 0, none⟩)) (fun args w => by rfl) (fun x w2 b => by
      rw [z3] at b
      exact sesc1_any x e (w.heap.size + 1) w2 (AT.out w2 b).ev (by have := b.size; omega))
    rw [z3] at h
    exact h)
  have CL : Hid (∀ w2, Below (w.heap.size + 3) (W3 w (.slice a p.ps.length c) (.slice a' p.ss.length c') e) w2 → Calls Tryz.prog 55 #[.slice a' p.ss.length c'] w2 fun r w' => ∃ a2 c2, r = .returned (.slice a2 p.ss.length c2) ∧ Ses.owns w' (w.heap.size + 3) (.slice a2 p.ss.length c2) p.ss ∧ Below (w.heap.size + 3) (W3 w (.slice a p.ps.length c) (.slice a' p.ss.length c') e) w') := Lib.hid (fun w2 b => by
    have hs := b.size
    exact (Ses.clone_any (o2.below (b3.trans (b.mono (by omega)))) (by omega)).mono fun r w' ⟨a2, c2, q1, q2, q3⟩ => ⟨a2, c2, q1, q2.mono (by omega), b.trans (q3.mono (by omega))⟩)
  have DE : Hid (∀ w2 a2 c2, Ses.owns w2 (w.heap.size + 3) (.slice a2 p.ss.length c2) p.ss → Below (w.heap.size + 3) (W3 w (.slice a p.ps.length c) (.slice a' p.ss.length c') e) w2 → Calls Tryz.prog 54 #[.slice a2 p.ss.length c2, .func (.func 56) #[] #[.pointer (some ⟨w.heap.size + 1, 0, none⟩)]] w2 fun r w' => ∃ a3 c3, r = .returned (.slice a3 (lasts p e.at_).length c3) ∧ Ses.owns w' (w.heap.size + 3) (.slice a3 (lasts p e.at_).length c3) (lasts p e.at_) ∧ Below (w.heap.size + 3) (W3 w (.slice a p.ps.length c) (.slice a' p.ss.length c') e) w') := Lib.hid (fun w2 a2 c2 q b => by
    have hs := b.size
    exact (Ses.del_any1 q (by omega) (by omega) (fun s => decide (s.exp ≤ e.at_)) 56 (.pointer (some ⟨w.heap.size + 1, 0, none⟩)) (fun args w => by rfl) (fun x w4 b4 =>
      sesc2_any x e (w.heap.size + 1) w4 (AT.out w4 (b.trans b4)).ev (by have := b4.size; omega))).mono fun r w' ⟨a3, c3, q1, q2, q3⟩ => ⟨a3, c3, q1, q2, b.trans q3⟩)
  have BB : Hid (∀ w2, Below (w.heap.size + 3) (W3 w (.slice a p.ps.length c) (.slice a' p.ss.length c') e) w2 → Below w.heap.size w w2) := Lib.hid (fun w2 b => b3.trans (b.mono (by omega)))
  have OW1 := Lib.hid o1
  have OW2 := Lib.hid o2
  have Z3 := Lib.hid z3
  obtain ⟨⟨x0, x1⟩, ⟨v0, v1, v2, v3, v4, v5, v6, v7⟩, _, _, _⟩ := AT.out _ (Below.refl _ _)
  generalize sesR p e = sr at *
  generalize sesE p e = se at *
  generalize p.ss.any (fun s => decide (s.dig = e.c)) = th at *
  generalize lasts p e.at_ = LS at *
  obtain ⟨n3, hn3⟩ : ∃ n3, LS.length = n3 := ⟨_, rfl⟩
  clear o1 o2 b3 z3 lim1
  obtain ⟨L, S⟩ := p
  obtain ⟨kd, ac, pu, t, nu, ea, eb, ec⟩ := e
  unfold W3 pobj Evn.obj at *
  unfold Evn.agg
  simp only at *
  by_cases h32 : ec.size = 32
  · have h32' : (ec.size : Int) = 32 := by omega
    cases th
    · by_cases h16 : 16 ≤ LS.length
      · have h16' : (16 : Int) ≤ LS.length := by omega
        have RE : Hid (se = 15) := Lib.hid (by rw [SE.out, if_neg (by simpa using h32), if_neg (by decide), if_pos h16])
        have RR : Hid (sr = ⟨L, S⟩) := Lib.hid (by rw [SR.out, RE.out, if_neg (by decide)])
        clear SE SR hn3
        go_enter Tryz.func27, Tryz.ntmps27
        go_wp2_with (first
      | (go_at_call 52; (with_reducible refine (CT.out).mono ?_); rintro z w2 ⟨rfl, b2⟩; have B2 := Lib.hid b2; clear b2; obtain ⟨⟨h0, h1⟩, ⟨i0, i1, i2, i3, i4, i5, i6, i7⟩, _, _, _⟩ := AT.out _ B2.out)
      | (go_at_call 55; (with_reducible refine (CL.out _ B2.out).mono ?_); rintro z w3 ⟨a3, c3, rfl, q3, b3⟩; have Q3 := Lib.hid q3; have B3 := Lib.hid b3; clear q3 b3)
      | (go_at_call 54; (with_reducible refine (DE.out _ _ _ Q3.out B3.out).mono ?_); rintro z w4 ⟨a4, c4, rfl, q4, b4⟩; have Q4 := Lib.hid q4; have B4 := Lib.hid b4; clear q4 b4; obtain ⟨⟨j0, j1⟩, ⟨k0, k1, k2, k3, k4, k5, k6, k7⟩, ⟨u0, u1, l0, l1⟩, lf, _⟩ := AT.out _ B4.out))
        refine bodyPost_ret (v := .tuple #[.agg #[.slice a L.length c, .slice a' S.length c'], .int .i64 15]) ?_ rfl ⟨_, by rw [RE.out], ?_, ?_⟩
        · simp [results, Tryz.f27, go_sem, l0, l1]
        · rw [RR.out]
          have bx : Below w.heap.size w ((w4.setCell ⟨w.heap.size + 2, 0, none⟩ (.slice a L.length c)).setCell ⟨w.heap.size + 2, 1, none⟩ (.slice a' S.length c')) := ((BB.out _ B4.out).setCell (by first | omega | (simp; omega) | simp) _).setCell (by first | omega | (simp; omega) | simp) _
          exact ⟨a, c, a', c', rfl, OW1.out.below bx, OW2.out.below bx⟩
        · exact ((BB.out _ B4.out).setCell (by first | omega | (simp; omega) | simp) _).setCell (by first | omega | (simp; omega) | simp) _
      · have h16' : (LS.length : Int) < 16 := by omega
        have RE : Hid (se = 0) := Lib.hid (by rw [SE.out, if_neg (by simpa using h32), if_neg (by decide), if_neg h16])
        have RR : Hid (sr = ⟨L, LS ++ [⟨ec, ac, nu⟩]⟩) := Lib.hid (by rw [SR.out, RE.out, if_pos rfl])
        clear SE SR hn3
        go_enter Tryz.func27, Tryz.ntmps27
        go_wp2_with (first
      | (go_at_call 52; (with_reducible refine (CT.out).mono ?_); rintro z w2 ⟨rfl, b2⟩; have B2 := Lib.hid b2; clear b2; obtain ⟨⟨h0, h1⟩, ⟨i0, i1, i2, i3, i4, i5, i6, i7⟩, _, _, _⟩ := AT.out _ B2.out)
      | (go_at_call 55; (with_reducible refine (CL.out _ B2.out).mono ?_); rintro z w3 ⟨a3, c3, rfl, q3, b3⟩; have Q3 := Lib.hid q3; have B3 := Lib.hid b3; clear q3 b3)
      | (go_at_call 54; (with_reducible refine (DE.out _ _ _ Q3.out B3.out).mono ?_); rintro z w4 ⟨a4, c4, rfl, q4, b4⟩; have Q4 := Lib.hid q4; have B4 := Lib.hid b4; clear q4 b4; obtain ⟨⟨j0, j1⟩, ⟨k0, k1, k2, k3, k4, k5, k6, k7⟩, ⟨u0, u1, l0, l1⟩, lf, _⟩ := AT.out _ B4.out))
        have so : (w4.alloc (.cells #[.string ec, .int .i64 ac, .int .i64 nu] 37)).heap.size = w4.heap.size + 1 := by simp
        have s4 : w.heap.size + 3 ≤ w4.heap.size := by
          have h := B4.out.size
          rwa [Z3.out] at h
        have b5 : Below w4.heap.size w4 (((w4.alloc (.cells #[.string ec, .int .i64 ac, .int .i64 nu] 37)).alloc (.cells #[.string ec, .int .i64 ac, .int .i64 nu] 37)).drew) := below_drew (((Below.refl _ _).alloc (Nat.le_refl _) _).alloc (by simp) _)
        have hq : (((w4.alloc (.cells #[.string ec, .int .i64 ac, .int .i64 nu] 37)).alloc (.cells #[.string ec, .int .i64 ac, .int .i64 nu] 37)).drew).heap[w4.heap.size + 1]? = some (.cells #[.string ec, .int .i64 ac, .int .i64 nu] 37) := by
          rw [← so]; exact heap_new (w4.alloc (.cells #[.string ec, .int .i64 ac, .int .i64 nu] 37)) _
        obtain ⟨a7, c7, w7, ra, o7, g7⟩ := Ses.push ⟨ec, ac, nu⟩ (Q4.out.below b5) (by have := b5.size; omega) (by omega) hq 23
        have B7 := Lib.hid ((B4.out.trans (b5.mono s4)).grown g7 (by have := b5.size; omega) (fun k hk => (World.ownsRow.lt Q4.out k hk).1))
        obtain ⟨⟨g4, g5⟩, _, ⟨f0, f1, r0, r1⟩, rf, _⟩ := AT.out _ B7.out
        obtain ⟨⟨g0, g1⟩, _, _, _, _⟩ := AT.out _ (B4.out.trans (((Below.refl w4.heap.size w4).alloc (Nat.le_refl _) (.cells #[.string ec, .int .i64 ac, .int .i64 nu] 37)).mono s4))
        obtain ⟨⟨g2, g3⟩, _, _, _, _⟩ := AT.out _ (B4.out.trans (b5.mono s4))
        obtain ⟨t0, t1, t2⟩ := Ses.box w4 ⟨ec, ac, nu⟩
        unfold Ses.R.obj at t0 t1 t2
        have RA := Lib.hid ra
        have O7 := Lib.hid o7
        clear ra o7 g7 hq b5 so s4
        go_region_law (refine step_append_at rfl (.tmp 41) (.tmp 43) 23 rfl _ _ _ (by simp [Act.eval]) (by simp [Act.eval]) _ RA.out ?_)
        all_goals
          go_wp2_with fail
          refine bodyPost_ret (v := .tuple #[.agg #[.slice a L.length c, .slice a7 (LS.length + 1) c7], .int .i64 0]) ?_ rfl ⟨_, by rw [RE.out], ?_, ?_⟩
          · simp [results, Tryz.f27, go_sem, r0, r1]
          · rw [RR.out]
            refine ⟨a, c, a7, c7, by simp, OW1.out.below (((BB.out _ B7.out).setCell (by first | omega | (simp; omega) | simp) _).setCell (by first | omega | (simp; omega) | simp) _), ?_⟩
            exact ((O7.out.apart (by omega) _).apart (by omega) _).mono (by omega)
          · exact ((BB.out _ B7.out).setCell (by first | omega | (simp; omega) | simp) _).setCell (by first | omega | (simp; omega) | simp) _
    · have RE : Hid (se = 14) := Lib.hid (by rw [SE.out, if_neg (by simpa using h32), if_pos rfl])
      have RR : Hid (sr = ⟨L, S⟩) := Lib.hid (by rw [SR.out, RE.out, if_neg (by decide)])
      clear SE SR hn3
      go_enter Tryz.func27, Tryz.ntmps27
      go_wp2_with (first
      | (go_at_call 52; (with_reducible refine (CT.out).mono ?_); rintro z w2 ⟨rfl, b2⟩; have B2 := Lib.hid b2; clear b2; obtain ⟨⟨h0, h1⟩, ⟨i0, i1, i2, i3, i4, i5, i6, i7⟩, _, _, _⟩ := AT.out _ B2.out)
      | (go_at_call 55; (with_reducible refine (CL.out _ B2.out).mono ?_); rintro z w3 ⟨a3, c3, rfl, q3, b3⟩; have Q3 := Lib.hid q3; have B3 := Lib.hid b3; clear q3 b3)
      | (go_at_call 54; (with_reducible refine (DE.out _ _ _ Q3.out B3.out).mono ?_); rintro z w4 ⟨a4, c4, rfl, q4, b4⟩; have Q4 := Lib.hid q4; have B4 := Lib.hid b4; clear q4 b4; obtain ⟨⟨j0, j1⟩, ⟨k0, k1, k2, k3, k4, k5, k6, k7⟩, ⟨u0, u1, l0, l1⟩, lf, _⟩ := AT.out _ B4.out))
      refine bodyPost_ret (v := .tuple #[.agg #[.slice a L.length c, .slice a' S.length c'], .int .i64 14]) ?_ rfl ⟨_, by rw [RE.out], ?_, ?_⟩
      · simp [results, Tryz.f27, go_sem, l0, l1]
      · rw [RR.out]
        have bx : Below w.heap.size w ((w4.setCell ⟨w.heap.size + 2, 0, none⟩ (.slice a L.length c)).setCell ⟨w.heap.size + 2, 1, none⟩ (.slice a' S.length c')) := ((BB.out _ B4.out).setCell (by first | omega | (simp; omega) | simp) _).setCell (by first | omega | (simp; omega) | simp) _
        exact ⟨a, c, a', c', rfl, OW1.out.below bx, OW2.out.below bx⟩
      · exact ((BB.out _ B4.out).setCell (by first | omega | (simp; omega) | simp) _).setCell (by first | omega | (simp; omega) | simp) _
  · have h32' : ¬ (ec.size : Int) = 32 := by omega
    have RE : Hid (se = 1) := Lib.hid (by rw [SE.out, if_pos (by simpa using h32)])
    have RR : Hid (sr = ⟨L, S⟩) := Lib.hid (by rw [SR.out, RE.out, if_neg (by decide)])
    clear SE SR hn3
    go_enter Tryz.func27, Tryz.ntmps27
    go_wp2_with (first
      | (go_at_call 52; (with_reducible refine (CT.out).mono ?_); rintro z w2 ⟨rfl, b2⟩; have B2 := Lib.hid b2; clear b2; obtain ⟨⟨h0, h1⟩, ⟨i0, i1, i2, i3, i4, i5, i6, i7⟩, _, _, _⟩ := AT.out _ B2.out)
      | (go_at_call 55; (with_reducible refine (CL.out _ B2.out).mono ?_); rintro z w3 ⟨a3, c3, rfl, q3, b3⟩; have Q3 := Lib.hid q3; have B3 := Lib.hid b3; clear q3 b3)
      | (go_at_call 54; (with_reducible refine (DE.out _ _ _ Q3.out B3.out).mono ?_); rintro z w4 ⟨a4, c4, rfl, q4, b4⟩; have Q4 := Lib.hid q4; have B4 := Lib.hid b4; clear q4 b4; obtain ⟨⟨j0, j1⟩, ⟨k0, k1, k2, k3, k4, k5, k6, k7⟩, ⟨u0, u1, l0, l1⟩, lf, _⟩ := AT.out _ B4.out))
    refine bodyPost_ret (v := .tuple #[.agg #[.slice a L.length c, .slice a' S.length c'], .int .i64 1]) ?_ rfl ⟨_, by rw [RE.out], ?_, ?_⟩
    · simp [results, Tryz.f27, go_sem, l0, l1]
    · rw [RR.out]
      have bx : Below w.heap.size w ((w4.setCell ⟨w.heap.size + 2, 0, none⟩ (.slice a L.length c)).setCell ⟨w.heap.size + 2, 1, none⟩ (.slice a' S.length c')) := ((BB.out _ B4.out).setCell (by first | omega | (simp; omega) | simp) _).setCell (by first | omega | (simp; omega) | simp) _
      exact ⟨a, c, a', c', rfl, OW1.out.below bx, OW2.out.below bx⟩
    · exact ((BB.out _ B4.out).setCell (by first | omega | (simp; omega) | simp) _).setCell (by first | omega | (simp; omega) | simp) _
end Go.Proofs.YtkihleecjgoipaaGreatDoor
