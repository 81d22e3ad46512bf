/- people.revoke, Apply. Written by wip/tools/mkppk.py. -/
import Derived.Test.YtkihleecjgoipaaGreatDoorPpJ
namespace Go.Proofs.YtkihleecjgoipaaGreatDoor
open Go.RowKit Go.Maps Go.Proofs.YtkihleecjgoipaaGreatDoor.Rw

set_option maxHeartbeats 2000000 in
set_option maxRecDepth 100000 in
theorem appc_any (x : Per.R) (ev : Evn) (g : Nat) (w : World) (hc : EvAt w g ev) (hg : g < w.heap.size) :
    Calls Tryz.prog 25 #[x.agg, .pointer (some ⟨g, 0, none⟩)] w fun e w' => e = .returned (.bool (decide (x.id = ev.acc))) ∧ Below w.heap.size w w' := by
  have hb : Below w.heap.size w (w.alloc x.obj) := (Below.refl _ _).alloc (Nat.le_refl _) _
  obtain ⟨c0, c1, c2, c3, c4, c5, c6, c7, c8, c9, c10, c11, c12⟩ := Per.box w x
  obtain ⟨z0, z1, z2, z3, z4, z5, z6, z7⟩ := hc.below hb hg
  have HB := Lib.hid hb
  clear hb
  unfold Per.R.obj at *
  unfold Per.R.agg
  go_enter Tryz.func25, Tryz.ntmps25
  go_wp2_with fail
  go_ret
  exact ⟨ret_bool (by rw [Bool.eq_iff_iff, beq_iff_eq, decide_eq_true_eq]), HB.out⟩
set_option maxHeartbeats 2000000 in
set_option maxRecDepth 100000 in
theorem revoke_any {B0 : Nat} {w : World} {v : Value} {p : Ppl} (hown : pown w B0 v p) (lim : few p) (hB0 : B0 ≤ w.heap.size) (acc : Int) :
    Calls Tryz.prog 28 #[v, .int .i64 acc] w fun r w' => ∃ v', r = .returned v' ∧ pown w' B0 v' (revR p acc) ∧ Below w.heap.size w w' := by
  obtain ⟨a, c, a', c', rfl, o1, o2⟩ := hown
  obtain ⟨lim1, lim2⟩ := lim
  obtain ⟨L, S⟩ := p
  simp only at *
  obtain ⟨W, hW⟩ : ∃ W, ((w.alloc (pobj (.slice a L.length c) (.slice a' S.length c'))).alloc (.cells #[.int .i64 acc] 3)).alloc (pobj (.slice none 0 0) (.slice none 0 0)) = W := ⟨_, rfl⟩
  have z1 : (w.alloc (pobj (.slice a L.length c) (.slice a' S.length c'))).heap.size = w.heap.size + 1 := by simp
  have z2 : ((w.alloc (pobj (.slice a L.length c) (.slice a' S.length c'))).alloc (.cells #[.int .i64 acc] 3)).heap.size = w.heap.size + 2 := by simp
  have z3 : W.heap.size = w.heap.size + 3 := by rw [← hW]; simp
  have b3 : Below w.heap.size w W := by
    rw [← hW]
    exact (((Below.refl _ _).alloc (Nat.le_refl _) _).alloc (by simp) _).alloc (by simp; omega) _
  have AT : Hid (∀ w2, Below (w.heap.size + 3) W w2 → (w2.cell? ⟨w.heap.size, 0, none⟩ = some (.slice a L.length c) ∧ w2.cell? ⟨w.heap.size, 1, none⟩ = some (.slice a' S.length c')) ∧ w2.cell? ⟨w.heap.size + 1, 0, none⟩ = some (.int .i64 acc) ∧ (w2.cell? ⟨w.heap.size + 2, 0, none⟩ = some (.slice none 0 0) ∧ w2.cell? ⟨w.heap.size + 2, 1, none⟩ = some (.slice none 0 0)) ∧ ∀ j, w2.frozen? ⟨w.heap.size + 2, j, none⟩ = false) := Lib.hid (fun w2 b => by
    rw [← hW] at b
    have h0 : (((w.alloc (pobj (.slice a L.length c) (.slice a' S.length c'))).alloc (.cells #[.int .i64 acc] 3)).alloc (pobj (.slice none 0 0) (.slice none 0 0))).heap[w.heap.size]? = some (pobj (.slice a L.length c) (.slice a' S.length c')) := by
      rw [Lib.alloc_old _ _ _ (by omega), Lib.alloc_old _ _ _ (by omega)]; exact heap_new _ _
    have h1 : (((w.alloc (pobj (.slice a L.length c) (.slice a' S.length c'))).alloc (.cells #[.int .i64 acc] 3)).alloc (pobj (.slice none 0 0) (.slice none 0 0))).heap[w.heap.size + 1]? = some (.cells #[.int .i64 acc] 3) := by
      rw [Lib.alloc_old _ _ _ (by omega), ← z1]; exact heap_new _ _
    have h2 : (((w.alloc (pobj (.slice a L.length c) (.slice a' S.length c'))).alloc (.cells #[.int .i64 acc] 3)).alloc (pobj (.slice none 0 0) (.slice none 0 0))).heap[w.heap.size + 2]? = some (pobj (.slice none 0 0) (.slice none 0 0)) := by
      rw [← z2]; exact heap_new _ _
    obtain ⟨y, _⟩ := pcell_of ((b.block _ (by omega)).trans h0)
    obtain ⟨u, uf⟩ := pcell_of ((b.block _ (by omega)).trans h2)
    exact ⟨y, by rw [Lib.cell_of_heap ((b.block _ (by omega)).trans h1)]; rfl, u, uf⟩)
  have BB : Hid (∀ w2, Below (w.heap.size + 3) W w2 → Below w.heap.size w w2) := Lib.hid (fun w2 b => b3.trans (b.mono (by omega)))
  have CL : Hid (∀ w2, w2 = W → Calls Tryz.prog 55 #[.slice a' S.length c'] w2 fun r w' => ∃ a2 c2, r = .returned (.slice a2 S.length c2) ∧ Ses.owns w' (w.heap.size + 3) (.slice a2 S.length c2) S ∧ Below (w.heap.size + 3) W w') := Lib.hid (fun w2 h => by
    subst h
    have h := Ses.clone_any (o2.below b3) (by omega)
    rwa [z3] at h)
  have DE : Hid (∀ w2 a2 c2, Ses.owns w2 (w.heap.size + 3) (.slice a2 S.length c2) S → Below (w.heap.size + 3) W w2 → Calls Tryz.prog 54 #[.slice a2 S.length c2, .func (.func 57) #[] #[.pointer (some ⟨w.heap.size + 1, 0, none⟩)]] w2 fun r w' => ∃ a3 c3, r = .returned (.slice a3 (S.filter (fun s => !decide (s.acc = acc))).length c3) ∧ Ses.owns w' (w.heap.size + 3) (.slice a3 (S.filter (fun s => !decide (s.acc = acc))).length c3) (S.filter (fun s => !decide (s.acc = acc))) ∧ Below (w.heap.size + 3) W w') := Lib.hid (fun w2 a2 c2 q b => by
    have hs := b.size
    exact (Ses.del_any1 q (by omega) (by omega) (fun s => decide (s.acc = acc)) 57 (.pointer (some ⟨w.heap.size + 1, 0, none⟩)) (fun args w => by rfl) (fun x w4 b4 =>
      revc_any x acc (w.heap.size + 1) w4 (AT.out w4 (b.trans b4)).2.1 (by have := b4.size; omega))).mono fun r w' ⟨a3, c3, q1, q2, q3⟩ => ⟨a3, c3, q1, q2, b.trans q3⟩)
  have RV : Hid (revR ⟨L, S⟩ acc = ⟨L, S.filter (fun s => !decide (s.acc = acc))⟩) := Lib.hid rfl
  have OW1 := Lib.hid o1
  obtain ⟨⟨x0, x1⟩, x2, ⟨x3, x4⟩, xf⟩ := AT.out _ (Below.refl _ _)
  have HW := Lib.hid hW
  generalize revR ⟨L, S⟩ acc = rr at *
  generalize S.filter (fun s => !decide (s.acc = acc)) = S2 at *
  clear o1 o2 b3 z1 z2 z3 hW lim1 lim2
  unfold pobj at *
  go_enter Tryz.func28, Tryz.ntmps28
  rw [← HW.out] at x0 x1 x2 x3 x4 xf
  go_wp2_with (first
    | (go_at_call 55; (refine (CL.out _ HW.out).mono ?_); rintro z w3 ⟨a3, c3, rfl, q3, b3⟩; have Q3 := Lib.hid q3; have B3 := Lib.hid b3; clear q3 b3)
    | (go_at_call 54; (with_reducible refine (DE.out _ _ _ Q3.out B3.out).mono ?_); rintro z w4 ⟨a4, c4, rfl, q4, b4⟩; have Q4 := Lib.hid q4; have B4 := Lib.hid b4; clear q4 b4; obtain ⟨⟨j0, j1⟩, k0, ⟨l0, l1⟩, lf⟩ := AT.out _ B4.out))
  refine bodyPost_ret (v := .agg #[.slice a L.length c, .slice a4 S2.length c4]) ?_ rfl ⟨_, rfl, ?_, ?_⟩
  · simp [results, Tryz.f28, go_sem, l0, l1]
  · rw [RV.out]
    exact ⟨a, c, a4, c4, rfl, OW1.out.below (((BB.out _ B4.out).setCell (by first | omega | (simp; omega) | simp) _).setCell (by first | omega | (simp; omega) | simp) _), ((Q4.out.apart (by omega) _).apart (by omega) _).mono (by omega)⟩
  · exact ((BB.out _ B4.out).setCell (by first | omega | (simp; omega) | simp) _).setCell (by first | omega | (simp; omega) | simp) _
set_option maxHeartbeats 8000000 in
set_option maxRecDepth 100000 in
theorem papply_any {B0 : Nat} {w : World} {v : Value} {p : Ppl} (hown : pown w B0 v p) (lim : few p) (hsm : small p) (hB0 : B0 ≤ w.heap.size) (e : Evn) (hs : e.a.size ≤ 4000000000) (hm : ML w) :
    Calls Tryz.prog 12 #[v, e.agg] w fun r w' => ∃ v', r = .returned (.tuple #[v', .int .i64 (appE p e)]) ∧ pown w' B0 v' (appR p e) ∧ Below w.heap.size w w' := by
  have SE : Hid (appE p e = if e.kind = 1 then sgnE p e else if e.kind < 1 ∨ 9 < e.kind then 1 else if p.ps.length ≤ at_ p e.acc then 12 else if e.kind = 8 then sesE p e else if e.kind = 9 then 0 else doesE p (p.ps[at_ p e.acc]?.getD Per.zero) e) := Lib.hid rfl
  have SR : Hid (appR p e = if e.kind = 1 then sgnR p e else if e.kind < 1 ∨ 9 < e.kind then p else if p.ps.length ≤ at_ p e.acc then p else if e.kind = 8 then sesR p e else if e.kind = 9 then revR p e.acc else chgR p (at_ p e.acc) e) := Lib.hid rfl
  have hown0 := hown
  obtain ⟨a, c, a', c', rfl, o1, o2⟩ := hown
  have z3 := W3_size w (.slice a p.ps.length c) (.slice a' p.ss.length c') e
  have b3 := W3_below w (.slice a p.ps.length c) (.slice a' p.ss.length c') e
  have AT := Lib.hid (fun w2 b => W3_at (w := w) (w2 := w2) (.slice a p.ps.length c) (.slice a' p.ss.length c') e b)
  have BB : Hid (∀ w2, Below (w.heap.size + 3) (W3 w (.slice a p.ps.length c) (.slice a' p.ss.length c') e) w2 → Below w.heap.size w w2) := Lib.hid (fun w2 b => b3.trans (b.mono (by omega)))
  have IX : Hid (Calls Tryz.prog 24 #[.slice a p.ps.length c, .func (.func 25) #[] #[.pointer (some ⟨w.heap.size + 1, 0, none⟩)]] (W3 w (.slice a p.ps.length c) (.slice a' p.ss.length c') e) fun r w' => r = .returned (.int .i64 (if at_ p e.acc < p.ps.length then ((at_ p e.acc : Nat) : Int) else -1)) ∧ Below (w.heap.size + 3) (W3 w (.slice a p.ps.length c) (.slice a' p.ss.length c') e) w') := Lib.hid (by
    have h := Per.idx_any1 (o1.below b3) (by have := lim.1; omega) (fun x => decide (x.id = e.acc)) 25 (.pointer (some ⟨w.heap.size + 1, 0, none⟩)) (fun args w => by rfl) (fun x w2 b => by
      rw [z3] at b
      exact appc_any x e (w.heap.size + 1) w2 (AT.out w2 b).ev (by have := b.size; omega))
    rw [z3] at h
    exact h)
  have PB : Hid (∀ w2 w' v' r, Below (w.heap.size + 3) (W3 w (.slice a p.ps.length c) (.slice a' p.ss.length c') e) w2 → pown w' B0 v' r → Below w2.heap.size w2 w' → pown w' B0 v' r ∧ Below (w.heap.size + 3) (W3 w (.slice a p.ps.length c) (.slice a' p.ss.length c') e) w') := Lib.hid (fun w2 w' v' r b q b2 => ⟨q, b.trans (b2.mono (by have := b.size; omega))⟩)
  have SG : Hid (∀ w2, Below (w.heap.size + 3) (W3 w (.slice a p.ps.length c) (.slice a' p.ss.length c') e) w2 → Calls Tryz.prog 26 #[.agg #[.slice a p.ps.length c, .slice a' p.ss.length c'], e.agg] w2 fun r w' => ∃ v', r = .returned (.tuple #[v', .int .i64 (sgnE p e)]) ∧ pown w' B0 v' (sgnR p e) ∧ Below (w.heap.size + 3) (W3 w (.slice a p.ps.length c) (.slice a' p.ss.length c') e) w') := Lib.hid (fun w2 b =>
    (signup_any (hown0.below (BB.out _ b)) lim hsm (Nat.le_trans hB0 (BB.out _ b).size) e hs (hm.below (BB.out _ b))).mono fun r w' ⟨v', q1, q2, q3⟩ => ⟨v', q1, PB.out _ _ _ _ b q2 q3⟩)
  have SS : Hid (∀ w2, Below (w.heap.size + 3) (W3 w (.slice a p.ps.length c) (.slice a' p.ss.length c') e) w2 → Calls Tryz.prog 27 #[.agg #[.slice a p.ps.length c, .slice a' p.ss.length c'], e.agg] w2 fun r w' => ∃ v', r = .returned (.tuple #[v', .int .i64 (sesE p e)]) ∧ pown w' B0 v' (sesR p e) ∧ Below (w.heap.size + 3) (W3 w (.slice a p.ps.length c) (.slice a' p.ss.length c') e) w') := Lib.hid (fun w2 b =>
    (session_any (hown0.below (BB.out _ b)) lim (Nat.le_trans hB0 (BB.out _ b).size) e).mono fun r w' ⟨v', q1, q2, q3⟩ => ⟨v', q1, PB.out _ _ _ _ b q2 q3⟩)
  have RV : Hid (∀ w2, Below (w.heap.size + 3) (W3 w (.slice a p.ps.length c) (.slice a' p.ss.length c') e) w2 → Calls Tryz.prog 28 #[.agg #[.slice a p.ps.length c, .slice a' p.ss.length c'], .int .i64 e.acc] w2 fun r w' => ∃ v', r = .returned v' ∧ pown w' B0 v' (revR p e.acc) ∧ Below (w.heap.size + 3) (W3 w (.slice a p.ps.length c) (.slice a' p.ss.length c') e) w') := Lib.hid (fun w2 b =>
    (revoke_any (hown0.below (BB.out _ b)) lim (Nat.le_trans hB0 (BB.out _ b).size) e.acc).mono fun r w' ⟨v', q1, q2, q3⟩ => ⟨v', q1, PB.out _ _ _ _ b q2 q3⟩)
  have CH : Hid (at_ p e.acc < p.ps.length → ∀ w2, Below (w.heap.size + 3) (W3 w (.slice a p.ps.length c) (.slice a' p.ss.length c') e) w2 → Calls Tryz.prog 29 #[.agg #[.slice a p.ps.length c, .slice a' p.ss.length c'], .int .i64 (at_ p e.acc : Nat), .func (.func 30) #[] #[.pointer (some ⟨w.heap.size, 0, none⟩), .pointer (some ⟨w.heap.size + 1, 0, none⟩)]] w2 fun r w' => ∃ v', r = .returned (.tuple #[v', .int .i64 (doesE p (p.ps[at_ p e.acc]?.getD Per.zero) e)]) ∧ pown w' B0 v' (chgR p (at_ p e.acc) e) ∧ Below (w.heap.size + 3) (W3 w (.slice a p.ps.length c) (.slice a' p.ss.length c') e) w') := Lib.hid (fun hlt w2 b =>
    (change_any (hown0.below (BB.out _ b)) lim hsm (Nat.le_trans hB0 (BB.out _ b).size) _ hlt e hs (hm.below (BB.out _ b)) w.heap.size (w.heap.size + 1) ⟨_, _, rfl, (AT.out _ b).p⟩ (AT.out _ b).ev (by have := b.size; omega) (by have := b.size; omega)).mono fun r w' ⟨v', q1, q2, q3⟩ => ⟨v', q1, PB.out _ _ _ _ b q2 q3⟩)
  have OW1 := Lib.hid o1
  have OW2 := Lib.hid o2
  obtain ⟨⟨x0, x1⟩, ⟨v0, v1, v2, v3, v4, v5, v6, v7⟩, _, _, _⟩ := AT.out _ (Below.refl _ _)
  generalize appR p e = sr at *
  generalize appE p e = se at *
  generalize sgnR p e = sgr at *
  generalize sgnE p e = sge at *
  generalize sesR p e = ssr at *
  generalize sesE p e = sse at *
  generalize revR p e.acc = rvr at *
  generalize chgR p (at_ p e.acc) e = chr at *
  generalize doesE p (p.ps[at_ p e.acc]?.getD Per.zero) e = che at *
  generalize at_ p e.acc = k at *
  clear o1 o2 b3 z3 hm hown0 hsm PB lim
  obtain ⟨L, S⟩ := p
  unfold Evn.agg at *
  obtain ⟨kd, ac, pu, t, nu, ea, eb, ec⟩ := e
  unfold W3 pobj Evn.obj at *
  simp only at *
  have k1f : kd ≠ 1 → (kd == 1) = false := fun h => beq_eq_false_iff_ne.2 h
  by_cases k1 : kd = 1
  · subst k1
    obtain ⟨iv, hiv⟩ : ∃ iv, (if k < L.length then ((k : Nat) : Int) else -1) = iv := ⟨_, rfl⟩
    rw [hiv] at IX
    clear hiv
    have RE : Hid (se = sge) := Lib.hid (by rw [SE.out, if_pos rfl])
    have RR : Hid (sr = sgr) := Lib.hid (by rw [SR.out, if_pos rfl])
    clear SE SR
    go_enter Tryz.func12, Tryz.ntmps12
    go_wp2_with (first
      | (go_at_call 24; (with_reducible refine (IX.out).mono ?_); rintro z w2 ⟨rfl, b2⟩; have B2 := Lib.hid b2; clear b2; obtain ⟨⟨h0, h1⟩, ⟨i0, i1, i2, i3, i4, i5, i6, i7⟩, ⟨u0, u1, l0, l1⟩, lf, _⟩ := AT.out _ B2.out)
      | (go_at_call 26; (refine (SG.out _ B2.out).mono ?_); rintro z w4 ⟨v5, rfl, q4, b4⟩; have B4 := Lib.hid b4; obtain ⟨a5, c5, a6, c6, rfl, o5, o6⟩ := q4; have O5 := Lib.hid o5; have O6 := Lib.hid o6; clear b4 o5 o6; obtain ⟨⟨j0, j1⟩, _, ⟨u2, u3, m0, m1⟩, mf, mh⟩ := AT.out _ B4.out)
    )
    refine bodyPost_ret (v := .tuple #[.agg #[.slice a5 sgr.ps.length c5, .slice a6 sgr.ss.length c6], .int .i64 sge]) ?_ rfl ⟨_, by rw [RE.out], ?_, ?_⟩
    · simp [results, Tryz.f12, go_sem, m0, m1]
    · rw [RR.out]
      exact ⟨a5, c5, a6, c6, rfl, O5.out.apartT mh (by decide) _ _ _ _, O6.out.apartT mh (by decide) _ _ _ _⟩
    · exact ((BB.out _ B4.out).setCell (by first | omega | (simp; omega) | simp) _).setCell (by first | omega | (simp; omega) | simp) _
  · have q1 := k1f k1
    by_cases kr : kd < 1 ∨ 9 < kd
    · obtain ⟨iv, hiv⟩ : ∃ iv, (if k < L.length then ((k : Nat) : Int) else -1) = iv := ⟨_, rfl⟩
      rw [hiv] at IX
      clear hiv
      by_cases kl : kd < 1
      · skip
        have RE : Hid (se = 1) := Lib.hid (by rw [SE.out, if_neg k1, if_pos kr])
        have RR : Hid (sr = ⟨L, S⟩) := Lib.hid (by rw [SR.out, if_neg k1, if_pos kr])
        clear SE SR
        go_enter Tryz.func12, Tryz.ntmps12
        go_wp2_with (first
          | (go_at_call 24; (with_reducible refine (IX.out).mono ?_); rintro z w2 ⟨rfl, b2⟩; have B2 := Lib.hid b2; clear b2; obtain ⟨⟨h0, h1⟩, ⟨i0, i1, i2, i3, i4, i5, i6, i7⟩, ⟨u0, u1, l0, l1⟩, lf, _⟩ := AT.out _ B2.out)
        )
        refine bodyPost_ret (v := .tuple #[.agg #[.slice a L.length c, .slice a' S.length c'], .int .i64 1]) ?_ rfl ⟨_, by rw [RE.out], ?_, ?_⟩
        · simp [results, Tryz.f12, go_sem, l0, l1]
        · rw [RR.out]
          exact ⟨a, c, a', c', rfl, OW1.out.below (((BB.out _ B2.out).setCell (by first | omega | (simp; omega) | simp) _).setCell (by first | omega | (simp; omega) | simp) _), OW2.out.below (((BB.out _ B2.out).setCell (by first | omega | (simp; omega) | simp) _).setCell (by first | omega | (simp; omega) | simp) _)⟩
        · exact ((BB.out _ B2.out).setCell (by first | omega | (simp; omega) | simp) _).setCell (by first | omega | (simp; omega) | simp) _
      · have kg : 9 < kd := by omega
        have kl' : decide (kd < 1) = false := decide_eq_false kl
        have RE : Hid (se = 1) := Lib.hid (by rw [SE.out, if_neg k1, if_pos kr])
        have RR : Hid (sr = ⟨L, S⟩) := Lib.hid (by rw [SR.out, if_neg k1, if_pos kr])
        clear SE SR
        go_enter Tryz.func12, Tryz.ntmps12
        go_wp2_with (first
          | (go_at_call 24; (with_reducible refine (IX.out).mono ?_); rintro z w2 ⟨rfl, b2⟩; have B2 := Lib.hid b2; clear b2; obtain ⟨⟨h0, h1⟩, ⟨i0, i1, i2, i3, i4, i5, i6, i7⟩, ⟨u0, u1, l0, l1⟩, lf, _⟩ := AT.out _ B2.out)
        )
        refine bodyPost_ret (v := .tuple #[.agg #[.slice a L.length c, .slice a' S.length c'], .int .i64 1]) ?_ rfl ⟨_, by rw [RE.out], ?_, ?_⟩
        · simp [results, Tryz.f12, go_sem, l0, l1]
        · rw [RR.out]
          exact ⟨a, c, a', c', rfl, OW1.out.below (((BB.out _ B2.out).setCell (by first | omega | (simp; omega) | simp) _).setCell (by first | omega | (simp; omega) | simp) _), OW2.out.below (((BB.out _ B2.out).setCell (by first | omega | (simp; omega) | simp) _).setCell (by first | omega | (simp; omega) | simp) _)⟩
        · exact ((BB.out _ B2.out).setCell (by first | omega | (simp; omega) | simp) _).setCell (by first | omega | (simp; omega) | simp) _
    · have kl' : decide (kd < 1) = false := decide_eq_false (by omega)
      have kg' : decide (9 < kd) = false := decide_eq_false (by omega)
      by_cases hk : k < L.length
      · have hk' : (0 : Int) ≤ k := by omega
        have CH := Lib.hid (CH.out hk)
        rw [if_pos hk] at IX
        by_cases k8 : kd = 8
        · subst k8
          have RE : Hid (se = sse) := Lib.hid (by rw [SE.out, if_neg k1, if_neg kr, if_neg (by omega), if_pos rfl])
          have RR : Hid (sr = ssr) := Lib.hid (by rw [SR.out, if_neg k1, if_neg kr, if_neg (by omega), if_pos rfl])
          clear SE SR
          go_enter Tryz.func12, Tryz.ntmps12
          go_wp2_with (first
            | (go_at_call 24; (with_reducible refine (IX.out).mono ?_); rintro z w2 ⟨rfl, b2⟩; have B2 := Lib.hid b2; clear b2; obtain ⟨⟨h0, h1⟩, ⟨i0, i1, i2, i3, i4, i5, i6, i7⟩, ⟨u0, u1, l0, l1⟩, lf, _⟩ := AT.out _ B2.out)
            | (go_at_call 27; (refine (SS.out _ B2.out).mono ?_); rintro z w4 ⟨v5, rfl, q4, b4⟩; have B4 := Lib.hid b4; obtain ⟨a5, c5, a6, c6, rfl, o5, o6⟩ := q4; have O5 := Lib.hid o5; have O6 := Lib.hid o6; clear b4 o5 o6; obtain ⟨⟨j0, j1⟩, _, ⟨u2, u3, m0, m1⟩, mf, mh⟩ := AT.out _ B4.out)
          )
          refine bodyPost_ret (v := .tuple #[.agg #[.slice a5 ssr.ps.length c5, .slice a6 ssr.ss.length c6], .int .i64 sse]) ?_ rfl ⟨_, by rw [RE.out], ?_, ?_⟩
          · simp [results, Tryz.f12, go_sem, m0, m1]
          · rw [RR.out]
            exact ⟨a5, c5, a6, c6, rfl, O5.out.apartT mh (by decide) _ _ _ _, O6.out.apartT mh (by decide) _ _ _ _⟩
          · exact ((BB.out _ B4.out).setCell (by first | omega | (simp; omega) | simp) _).setCell (by first | omega | (simp; omega) | simp) _
        · have q8 : (kd == 8) = false := beq_eq_false_iff_ne.2 k8
          by_cases k9 : kd = 9
          · subst k9
            have RE : Hid (se = 0) := Lib.hid (by rw [SE.out, if_neg k1, if_neg kr, if_neg (by omega), if_neg k8, if_pos rfl])
            have RR : Hid (sr = rvr) := Lib.hid (by rw [SR.out, if_neg k1, if_neg kr, if_neg (by omega), if_neg k8, if_pos rfl])
            clear SE SR
            go_enter Tryz.func12, Tryz.ntmps12
            go_wp2_with (first
              | (go_at_call 24; (with_reducible refine (IX.out).mono ?_); rintro z w2 ⟨rfl, b2⟩; have B2 := Lib.hid b2; clear b2; obtain ⟨⟨h0, h1⟩, ⟨i0, i1, i2, i3, i4, i5, i6, i7⟩, ⟨u0, u1, l0, l1⟩, lf, _⟩ := AT.out _ B2.out)
              | (go_at_call 28; (refine (RV.out _ B2.out).mono ?_); rintro z w4 ⟨v5, rfl, q4, b4⟩; have B4 := Lib.hid b4; obtain ⟨a5, c5, a6, c6, rfl, o5, o6⟩ := q4; have O5 := Lib.hid o5; have O6 := Lib.hid o6; clear b4 o5 o6; obtain ⟨⟨j0, j1⟩, _, ⟨u2, u3, m0, m1⟩, mf, mh⟩ := AT.out _ B4.out)
            )
            refine bodyPost_ret (v := .tuple #[.agg #[.slice a5 rvr.ps.length c5, .slice a6 rvr.ss.length c6], .int .i64 0]) ?_ rfl ⟨_, by rw [RE.out], ?_, ?_⟩
            · simp [results, Tryz.f12, go_sem, m0, m1]
            · rw [RR.out]
              exact ⟨a5, c5, a6, c6, rfl, O5.out.apartT mh (by decide) _ _ _ _, O6.out.apartT mh (by decide) _ _ _ _⟩
            · exact ((BB.out _ B4.out).setCell (by first | omega | (simp; omega) | simp) _).setCell (by first | omega | (simp; omega) | simp) _
          · have q9 : (kd == 9) = false := beq_eq_false_iff_ne.2 k9
            have RE : Hid (se = che) := Lib.hid (by rw [SE.out, if_neg k1, if_neg kr, if_neg (by omega), if_neg k8, if_neg k9])
            have RR : Hid (sr = chr) := Lib.hid (by rw [SR.out, if_neg k1, if_neg kr, if_neg (by omega), if_neg k8, if_neg k9])
            clear SE SR
            go_enter Tryz.func12, Tryz.ntmps12
            go_wp2_with (first
              | (go_at_call 24; (with_reducible refine (IX.out).mono ?_); rintro z w2 ⟨rfl, b2⟩; have B2 := Lib.hid b2; clear b2; obtain ⟨⟨h0, h1⟩, ⟨i0, i1, i2, i3, i4, i5, i6, i7⟩, ⟨u0, u1, l0, l1⟩, lf, _⟩ := AT.out _ B2.out)
              | (go_at_call 29; (refine (CH.out _ B2.out).mono ?_); rintro z w4 ⟨v5, rfl, q4, b4⟩; have B4 := Lib.hid b4; obtain ⟨a5, c5, a6, c6, rfl, o5, o6⟩ := q4; have O5 := Lib.hid o5; have O6 := Lib.hid o6; clear b4 o5 o6; obtain ⟨⟨j0, j1⟩, _, ⟨u2, u3, m0, m1⟩, mf, mh⟩ := AT.out _ B4.out)
            )
            refine bodyPost_ret (v := .tuple #[.agg #[.slice a5 chr.ps.length c5, .slice a6 chr.ss.length c6], .int .i64 che]) ?_ rfl ⟨_, by rw [RE.out], ?_, ?_⟩
            · simp [results, Tryz.f12, go_sem, m0, m1]
            · rw [RR.out]
              exact ⟨a5, c5, a6, c6, rfl, O5.out.apartT mh (by decide) _ _ _ _, O6.out.apartT mh (by decide) _ _ _ _⟩
            · exact ((BB.out _ B4.out).setCell (by first | omega | (simp; omega) | simp) _).setCell (by first | omega | (simp; omega) | simp) _
      · rw [if_neg hk] at IX
        have RE : Hid (se = 12) := Lib.hid (by rw [SE.out, if_neg k1, if_neg kr, if_pos (by omega)])
        have RR : Hid (sr = ⟨L, S⟩) := Lib.hid (by rw [SR.out, if_neg k1, if_neg kr, if_pos (by omega)])
        clear SE SR
        go_enter Tryz.func12, Tryz.ntmps12
        go_wp2_with (first
          | (go_at_call 24; (with_reducible refine (IX.out).mono ?_); rintro z w2 ⟨rfl, b2⟩; have B2 := Lib.hid b2; clear b2; obtain ⟨⟨h0, h1⟩, ⟨i0, i1, i2, i3, i4, i5, i6, i7⟩, ⟨u0, u1, l0, l1⟩, lf, _⟩ := AT.out _ B2.out)
        )
        refine bodyPost_ret (v := .tuple #[.agg #[.slice a L.length c, .slice a' S.length c'], .int .i64 12]) ?_ rfl ⟨_, by rw [RE.out], ?_, ?_⟩
        · simp [results, Tryz.f12, go_sem, l0, l1]
        · rw [RR.out]
          exact ⟨a, c, a', c', rfl, OW1.out.below (((BB.out _ B2.out).setCell (by first | omega | (simp; omega) | simp) _).setCell (by first | omega | (simp; omega) | simp) _), OW2.out.below (((BB.out _ B2.out).setCell (by first | omega | (simp; omega) | simp) _).setCell (by first | omega | (simp; omega) | simp) _)⟩
        · exact ((BB.out _ B2.out).setCell (by first | omega | (simp; omega) | simp) _).setCell (by first | omega | (simp; omega) | simp) _
end Go.Proofs.YtkihleecjgoipaaGreatDoor
