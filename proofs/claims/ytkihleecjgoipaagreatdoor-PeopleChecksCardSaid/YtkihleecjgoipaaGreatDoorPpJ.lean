/- people.signup. Written by wip/tools/mkppj.py. -/
import Derived.Test.YtkihleecjgoipaaGreatDoorPpI
namespace Go.Proofs.YtkihleecjgoipaaGreatDoor
open Go.RowKit Go.Maps Go.Proofs.YtkihleecjgoipaaGreatDoor.Rw

set_option maxHeartbeats 8000000 in
set_option maxRecDepth 100000 in
theorem signup_any {B0 : Nat} {w : World} {v : Value} {p : Ppl} (hown : pown w B0 v p) (lim : few p) (hsm : small p) (hB0 : B0 ≤ w.heap.size) (e : Evn) (hs : e.a.size ≤ 4000000000) (hm : ML w) :
    Calls Tryz.prog 26 #[v, e.agg] w fun r w' => ∃ v', r = .returned (.tuple #[v', .int .i64 (sgnE p e)]) ∧ pown w' B0 v' (sgnR p e) ∧ Below w.heap.size w w' := by
  have SE : Hid (sgnE p e = if onesB e.a = false ∨ keyB e.b e.c = false ∨ e.acc ≠ nextN p ∨ 99 < e.acc then 1 else if byB p e.a = true then 14 else if 12 ≤ p.ps.length then 15 else 0) := Lib.hid rfl
  have SR : Hid (sgnR p e = if sgnE p e = 0 then ⟨p.ps ++ [newP e], p.ss⟩ else p) := Lib.hid rfl
  have hown0 := hown
  obtain ⟨a, c, a', c', rfl, o1, o2⟩ := hown
  have lim0 := lim
  obtain ⟨lim1, lim2⟩ := lim
  have z3 := W3_size w (.slice a p.ps.length c) (.slice a' p.ss.length c') e
  have b3 := W3_below w (.slice a p.ps.length c) (.slice a' p.ss.length c') e
  have AT := Lib.hid (fun w2 b => W3_at (w := w) (w2 := w2) (.slice a p.ps.length c) (.slice a' p.ss.length c') e b)
  have BB : Hid (∀ w2, Below (w.heap.size + 3) (W3 w (.slice a p.ps.length c) (.slice a' p.ss.length c') e) w2 → Below w.heap.size w w2) := Lib.hid (fun w2 b => b3.trans (b.mono (by omega)))
  have SZ : Hid (∀ w2, Below (w.heap.size + 3) (W3 w (.slice a p.ps.length c) (.slice a' p.ss.length c') e) w2 → w.heap.size + 3 ≤ w2.heap.size) := Lib.hid (fun w2 b => by have := b.size; omega)
  have BY : Hid (Calls Tryz.prog 49 #[.agg #[.slice a p.ps.length c, .slice a' p.ss.length c'], .string e.a] (W3 w (.slice a p.ps.length c) (.slice a' p.ss.length c') e) fun r w' => r = .returned (.tuple #[(pick p.ps (fun x => decide (x.mail = e.a))).agg, .bool (byB p e.a)]) ∧ Below (w.heap.size + 3) (W3 w (.slice a p.ps.length c) (.slice a' p.ss.length c') e) w') := Lib.hid (by
    have h := by_any (hown0.below b3) lim0 e.a
    rwa [z3] at h)
  have ON : Hid (∀ w2, Below (w.heap.size + 3) (W3 w (.slice a p.ps.length c) (.slice a' p.ss.length c') e) w2 → Calls Tryz.prog 45 #[.string e.a] w2 fun r w' => r = .returned (.bool (onesB e.a)) ∧ Below (w.heap.size + 3) (W3 w (.slice a p.ps.length c) (.slice a' p.ss.length c') e) w') := Lib.hid (fun w2 b =>
    (ones_any e.a hs w2 (hm.below (BB.out _ b))).mono fun r w' ⟨q1, q2⟩ => ⟨q1, b.trans (q2.mono (SZ.out _ b))⟩)
  have KY : Hid (∀ w2, Calls Tryz.prog 46 #[.string e.b, .string e.c] w2 fun r w' => r = .returned (.bool (keyB e.b e.c)) ∧ w' = w2) := Lib.hid (fun w2 => key_any e.b e.c w2)
  have NX : Hid (∀ w2, Below (w.heap.size + 3) (W3 w (.slice a p.ps.length c) (.slice a' p.ss.length c') e) w2 → Calls Tryz.prog 50 #[.agg #[.slice a p.ps.length c, .slice a' p.ss.length c']] w2 fun r w' => r = .returned (.int .i64 (nextN p)) ∧ Below (w.heap.size + 3) (W3 w (.slice a p.ps.length c) (.slice a' p.ss.length c') e) w') := Lib.hid (fun w2 b =>
    (next_any (hown0.below (BB.out _ b)) lim0 hsm).mono fun r w' ⟨q1, q2⟩ => ⟨q1, b.trans (q2.mono (SZ.out _ b))⟩)
  have CL : Hid (∀ w2, Below (w.heap.size + 3) (W3 w (.slice a p.ps.length c) (.slice a' p.ss.length c') e) w2 → Calls Tryz.prog 51 #[.slice a p.ps.length c] w2 fun r w' => ∃ a2 c2, r = .returned (.slice a2 p.ps.length c2) ∧ Per.owns w' w2.heap.size (.slice a2 p.ps.length c2) p.ps ∧ Below w2.heap.size w2 w') := Lib.hid (fun w2 b =>
    Per.clone_any (o1.below (BB.out _ b)) (by omega))
  have OW1 := Lib.hid o1
  have OW2 := Lib.hid o2
  have NP : Hid (newP e = ⟨e.acc, e.a, false, e.b, e.c, 1, 0, 0, ⟨#[]⟩, ⟨#[]⟩, ⟨#[]⟩, ⟨#[]⟩, ⟨#[]⟩⟩) := Lib.hid rfl
  obtain ⟨⟨x0, x1⟩, ⟨v0, v1, v2, v3, v4, v5, v6, v7⟩, _, _, _⟩ := AT.out _ (Below.refl _ _)
  generalize pick p.ps (fun x => decide (x.mail = e.a)) = yp at *
  generalize sgnR p e = sr at *
  generalize sgnE p e = se at *
  generalize byB p e.a = th at *
  generalize onesB e.a = on at *
  generalize keyB e.b e.c = ky at *
  generalize nextN p = nx at *
  clear o1 o2 b3 z3 hm hown0 hsm lim0
  obtain ⟨L, S⟩ := p
  rw [NP.out] at SR
  clear NP
  obtain ⟨kd, ac, pu, t, nu, ea, eb, ec⟩ := e
  have BA : Hid (∀ w2, Below (w.heap.size + 3) (W3 w (.slice a L.length c) (.slice a' S.length c') ⟨kd, ac, pu, t, nu, ea, eb, ec⟩) w2 → Below (w.heap.size + 3) (W3 w (.slice a L.length c) (.slice a' S.length c') ⟨kd, ac, pu, t, nu, ea, eb, ec⟩) (w2.alloc yp.obj)) := Lib.hid (fun w2 b => b.alloc (SZ.out _ b) _)
  unfold W3 pobj Evn.obj at *
  unfold Evn.agg
  unfold Per.R.agg at BY
  unfold Per.R.obj at BA
  simp only at *
  cases on
  · skip
    have RE : Hid (se = 1) := Lib.hid (by rw [SE.out, if_pos (.inl rfl)])
    have RR : Hid (sr = ⟨L, S⟩) := Lib.hid (by rw [SR.out, RE.out, if_neg (by decide)])
    clear SE SR
    go_enter Tryz.func26, Tryz.ntmps26
    go_wp2_with (go_at_call 49; (with_reducible refine (BY.out).mono ?_); rintro z w2 ⟨rfl, b2⟩; have B2 := Lib.hid b2; clear b2; obtain ⟨⟨h0, h1⟩, ⟨i0, i1, i2, i3, i4, i5, i6, i7⟩, _, _, _⟩ := AT.out _ B2.out)
    refine wp_region_held_drew (S := fun w' => Below (w.heap.size + 3) (((w.alloc (.cells #[.slice a L.length c, .slice a' S.length c'] 25)).alloc (.cells #[.int .i64 kd, .int .i64 ac, .int .i64 pu, .int .i64 t, .int .i64 nu, .string ea, .string eb, .string ec] 46)).alloc (.cells #[.slice none 0 0, .slice none 0 0] 25)) w') (by kernel_rfl) ?_ (fun hHeld0 => ?_)
    · exact below_drew (BA.out _ B2.out)
    refine wpAnyH_take (i := 0) (v := ?_) rfl (by kernel_rfl) (by kernel_rfl) (by kernel_rfl) (fun _ _ _ h => h) (Or.inl ⟨by rfl, ?_⟩) (by assumption) ?_
    rotate_left
    · intro w hSw; (try dsimp only at hSw); obtain ⟨⟨p0, p1⟩, ⟨g0, g1, g2, g3, g4, g5, g6, g7⟩, _, _, _⟩ := AT.out w hSw; go_simp; (try with_reducible rfl)
    simp only [List.getElem_toArray, List.getElem_cons_zero, Act.put, List.setIfInBounds_toArray, List.set_cons_zero, List.set_cons_succ]
    refine wpAnyH_take (i := 1) (v := ?_) rfl (by kernel_rfl) (by kernel_rfl) (by kernel_rfl) (fun _ _ _ h => h) (Or.inl ⟨by rfl, ?_⟩) (by assumption) ?_
    rotate_left
    · intro w hSw; (try dsimp only at hSw); obtain ⟨⟨p0, p1⟩, ⟨g0, g1, g2, g3, g4, g5, g6, g7⟩, _, _, _⟩ := AT.out w hSw; go_simp; (try with_reducible rfl)
    simp only [List.getElem_toArray, List.getElem_cons_succ, List.getElem_cons_zero, Act.put, List.setIfInBounds_toArray, List.set_cons_zero, List.set_cons_succ]
    refine wpAnyH_ready (rs := [2]) (by kernel_rfl) (by simp) ?_
    refine AllReadyH.cons rfl (fun K hK => ?_) AllReadyH.nil
    go_simp
    (go_at_call 45; (refine (ON.out _ (below_drew (BA.out _ B2.out))).mono ?_); rintro z w5 ⟨rfl, b5⟩; have B5 := Lib.hid b5; clear b5)
    refine hK.out _ _ ?_ (fun hHeld1 => ?_)
    · exact B5.out
    clear hK K hHeld0
    try simp only [List.getElem_toArray, List.getElem_cons_succ, List.getElem_cons_zero, Act.put, List.setIfInBounds_toArray, List.set_cons_zero, List.set_cons_succ]
    refine wpAnyH_take (i := 3) (v := ?_) rfl (by kernel_rfl) (by kernel_rfl) (by kernel_rfl) (fun _ _ _ h => h) (Or.inl ⟨by rfl, ?_⟩) (by assumption) ?_
    rotate_left
    · intro w hSw; (try dsimp only at hSw); obtain ⟨⟨p0, p1⟩, ⟨g0, g1, g2, g3, g4, g5, g6, g7⟩, _, _, _⟩ := AT.out w hSw; go_simp; (try with_reducible rfl)
    simp only [List.getElem_toArray, List.getElem_cons_succ, List.getElem_cons_zero, Act.put, List.setIfInBounds_toArray, List.set_cons_zero, List.set_cons_succ]
    refine wpAnyH_take (i := 4) (v := ?_) rfl (by kernel_rfl) (by kernel_rfl) (by kernel_rfl) (fun _ _ _ h => h) (Or.inl ⟨by rfl, ?_⟩) (by assumption) ?_
    rotate_left
    · intro w hSw; (try dsimp only at hSw); obtain ⟨⟨p0, p1⟩, ⟨g0, g1, g2, g3, g4, g5, g6, g7⟩, _, _, _⟩ := AT.out w hSw; go_simp; (try with_reducible rfl)
    simp only [List.getElem_toArray, List.getElem_cons_succ, List.getElem_cons_zero, Act.put, List.setIfInBounds_toArray, List.set_cons_zero, List.set_cons_succ]
    refine wpAnyH_take (i := 5) (v := undef) rfl (by kernel_rfl) (by kernel_rfl) (by kernel_rfl) (fun _ _ _ h => h) (Or.inr ⟨by rfl, rfl⟩) (by assumption) ?_
    simp only [List.getElem_toArray, List.getElem_cons_succ, List.getElem_cons_zero, Act.put, List.setIfInBounds_toArray, List.set_cons_zero, List.set_cons_succ]
    refine wpAnyH_take (i := 6) (v := undef) rfl (by kernel_rfl) (by kernel_rfl) (by kernel_rfl) (fun _ _ _ h => h) (Or.inr ⟨by rfl, rfl⟩) (by assumption) ?_
    simp only [List.getElem_toArray, List.getElem_cons_succ, List.getElem_cons_zero, Act.put, List.setIfInBounds_toArray, List.set_cons_zero, List.set_cons_succ]
    refine wpAnyH_take (i := 7) (v := undef) rfl (by kernel_rfl) (by kernel_rfl) (by kernel_rfl) (fun _ _ _ h => h) (Or.inr ⟨by rfl, rfl⟩) (by assumption) ?_
    simp only [List.getElem_toArray, List.getElem_cons_succ, List.getElem_cons_zero, Act.put, List.setIfInBounds_toArray, List.set_cons_zero, List.set_cons_succ]
    refine wpAnyH_take (i := 8) (v := undef) rfl (by kernel_rfl) (by kernel_rfl) (by kernel_rfl) (fun _ _ _ h => h) (Or.inr ⟨by rfl, rfl⟩) (by assumption) ?_
    simp only [List.getElem_toArray, List.getElem_cons_succ, List.getElem_cons_zero, Act.put, List.setIfInBounds_toArray, List.set_cons_zero, List.set_cons_succ]
    refine wpAnyH_take (i := 9) (v := undef) rfl (by kernel_rfl) (by kernel_rfl) (by kernel_rfl) (fun _ _ _ h => h) (Or.inr ⟨by rfl, rfl⟩) (by assumption) ?_
    simp only [List.getElem_toArray, List.getElem_cons_succ, List.getElem_cons_zero, Act.put, List.setIfInBounds_toArray, List.set_cons_zero, List.set_cons_succ]
    refine wpAnyH_take (i := 10) (v := undef) rfl (by kernel_rfl) (by kernel_rfl) (by kernel_rfl) (fun _ _ _ h => h) (Or.inr ⟨by rfl, rfl⟩) (by assumption) ?_
    simp only [List.getElem_toArray, List.getElem_cons_succ, List.getElem_cons_zero, Act.put, List.setIfInBounds_toArray, List.set_cons_zero, List.set_cons_succ]
    refine wpAnyH_take (i := 11) (v := ?_) rfl (by kernel_rfl) (by kernel_rfl) (by kernel_rfl) (fun _ _ _ h => h) (Or.inl ⟨by rfl, ?_⟩) (by assumption) ?_
    rotate_left
    · intro w hSw; (try dsimp only at hSw); obtain ⟨⟨p0, p1⟩, ⟨g0, g1, g2, g3, g4, g5, g6, g7⟩, _, _, _⟩ := AT.out w hSw; go_simp; (try with_reducible rfl)
    simp only [List.getElem_toArray, List.getElem_cons_succ, List.getElem_cons_zero, Act.put, List.setIfInBounds_toArray, List.set_cons_zero, List.set_cons_succ]
    refine wpAnyH_take (i := 12) (v := ?_) rfl (by kernel_rfl) (by kernel_rfl) (by kernel_rfl) (fun _ _ _ h => h) (Or.inl ⟨by rfl, ?_⟩) (by assumption) ?_
    rotate_left
    · intro w hSw; (try dsimp only at hSw); obtain ⟨⟨p0, p1⟩, ⟨g0, g1, g2, g3, g4, g5, g6, g7⟩, _, _, _⟩ := AT.out w hSw; go_simp; (try with_reducible rfl)
    simp only [List.getElem_toArray, List.getElem_cons_succ, List.getElem_cons_zero, Act.put, List.setIfInBounds_toArray, List.set_cons_zero, List.set_cons_succ]
    refine wpAnyH_take (i := 13) (v := undef) rfl (by kernel_rfl) (by kernel_rfl) (by kernel_rfl) (fun _ _ _ h => h) (Or.inr ⟨by rfl, rfl⟩) (by assumption) ?_
    simp only [List.getElem_toArray, List.getElem_cons_succ, List.getElem_cons_zero, Act.put, List.setIfInBounds_toArray, List.set_cons_zero, List.set_cons_succ]
    refine wpAnyH_take (i := 14) (v := undef) rfl (by kernel_rfl) (by kernel_rfl) (by kernel_rfl) (fun _ _ _ h => h) (Or.inr ⟨by rfl, rfl⟩) (by assumption) ?_
    simp only [List.getElem_toArray, List.getElem_cons_succ, List.getElem_cons_zero, Act.put, List.setIfInBounds_toArray, List.set_cons_zero, List.set_cons_succ]
    refine wpAnyH_take (i := 15) (v := undef) rfl (by kernel_rfl) (by kernel_rfl) (by kernel_rfl) (fun _ _ _ h => h) (Or.inr ⟨by rfl, rfl⟩) (by assumption) ?_
    simp only [List.getElem_toArray, List.getElem_cons_succ, List.getElem_cons_zero, Act.put, List.setIfInBounds_toArray, List.set_cons_zero, List.set_cons_succ]
    refine wpAnyH_take (i := 16) (v := undef) rfl (by kernel_rfl) (by kernel_rfl) (by kernel_rfl) (fun _ _ _ h => h) (Or.inr ⟨by rfl, rfl⟩) (by assumption) ?_
    simp only [List.getElem_toArray, List.getElem_cons_succ, List.getElem_cons_zero, Act.put, List.setIfInBounds_toArray, List.set_cons_zero, List.set_cons_succ]
    refine wpAnyH_take (i := 17) (v := undef) rfl (by kernel_rfl) (by kernel_rfl) (by kernel_rfl) (fun _ _ _ h => h) (Or.inr ⟨by rfl, rfl⟩) (by assumption) ?_
    simp only [List.getElem_toArray, List.getElem_cons_succ, List.getElem_cons_zero, Act.put, List.setIfInBounds_toArray, List.set_cons_zero, List.set_cons_succ]
    refine wpAnyH_take (i := 18) (v := ?_) rfl (by kernel_rfl) (by kernel_rfl) (by kernel_rfl) (fun _ _ _ h => h) (Or.inl ⟨by rfl, ?_⟩) (by assumption) ?_
    rotate_left
    · intro w hSw; (try dsimp only at hSw); obtain ⟨⟨p0, p1⟩, ⟨g0, g1, g2, g3, g4, g5, g6, g7⟩, _, _, _⟩ := AT.out w hSw; go_simp; (try with_reducible rfl)
    simp only [List.getElem_toArray, List.getElem_cons_succ, List.getElem_cons_zero, Act.put, List.setIfInBounds_toArray, List.set_cons_zero, List.set_cons_succ]
    refine wpAnyH_take (i := 19) (v := ?_) rfl (by kernel_rfl) (by kernel_rfl) (by kernel_rfl) (fun _ _ _ h => h) (Or.inl ⟨by rfl, ?_⟩) (by assumption) ?_
    rotate_left
    · intro w hSw; (try dsimp only at hSw); obtain ⟨⟨p0, p1⟩, ⟨g0, g1, g2, g3, g4, g5, g6, g7⟩, _, _, _⟩ := AT.out w hSw; go_simp; (try with_reducible rfl)
    simp only [List.getElem_toArray, List.getElem_cons_succ, List.getElem_cons_zero, Act.put, List.setIfInBounds_toArray, List.set_cons_zero, List.set_cons_succ]
    refine wpAnyH_take (i := 20) (v := undef) rfl (by kernel_rfl) (by kernel_rfl) (by kernel_rfl) (fun _ _ _ h => h) (Or.inr ⟨by rfl, rfl⟩) (by assumption) ?_
    simp only [List.getElem_toArray, List.getElem_cons_succ, List.getElem_cons_zero, Act.put, List.setIfInBounds_toArray, List.set_cons_zero, List.set_cons_succ]
    refine wpAnyH_take (i := 21) (v := undef) rfl (by kernel_rfl) (by kernel_rfl) (by kernel_rfl) (fun _ _ _ h => h) (Or.inr ⟨by rfl, rfl⟩) (by assumption) ?_
    simp only [List.getElem_toArray, List.getElem_cons_succ, List.getElem_cons_zero, Act.put, List.setIfInBounds_toArray, List.set_cons_zero, List.set_cons_succ]
    refine wpAnyH_take (i := 22) (v := undef) rfl (by kernel_rfl) (by kernel_rfl) (by kernel_rfl) (fun _ _ _ h => h) (Or.inr ⟨by rfl, rfl⟩) (by assumption) ?_
    simp only [List.getElem_toArray, List.getElem_cons_succ, List.getElem_cons_zero, Act.put, List.setIfInBounds_toArray, List.set_cons_zero, List.set_cons_succ]
    refine wpAnyH_take (i := 23) (v := ?_) rfl (by kernel_rfl) (by kernel_rfl) (by kernel_rfl) (fun _ _ _ h => h) (Or.inl ⟨by rfl, ?_⟩) (by assumption) ?_
    rotate_left
    · intro w hSw; (try dsimp only at hSw); obtain ⟨⟨p0, p1⟩, ⟨g0, g1, g2, g3, g4, g5, g6, g7⟩, _, _, _⟩ := AT.out w hSw; go_simp; (try with_reducible rfl)
    simp only [List.getElem_toArray, List.getElem_cons_succ, List.getElem_cons_zero, Act.put, List.setIfInBounds_toArray, List.set_cons_zero, List.set_cons_succ]
    refine wpAnyH_take (i := 24) (v := ?_) rfl (by kernel_rfl) (by kernel_rfl) (by kernel_rfl) (fun _ _ _ h => h) (Or.inl ⟨by rfl, ?_⟩) (by assumption) ?_
    rotate_left
    · intro w hSw; (try dsimp only at hSw); obtain ⟨⟨p0, p1⟩, ⟨g0, g1, g2, g3, g4, g5, g6, g7⟩, _, _, _⟩ := AT.out w hSw; go_simp; (try with_reducible rfl)
    try simp only [List.getElem_toArray, List.getElem_cons_succ, List.getElem_cons_zero, Act.put, List.setIfInBounds_toArray, List.set_cons_zero, List.set_cons_succ]
    refine wpAnyH_done (by kernel_rfl) ?_ _
    obtain ⟨⟨j0, j1⟩, ⟨k0, k1, k2, k3, k4, k5, k6, k7⟩, ⟨u0, u1, l0, l1⟩, lf, _⟩ := AT.out _ B5.out
    go_wp2_with fail
    refine bodyPost_ret (v := .tuple #[.agg #[.slice a L.length c, .slice a' S.length c'], .int .i64 1]) ?_ rfl ⟨_, by rw [RE.out], ?_, ?_⟩
    · simp [results, Tryz.f26, go_sem, l0, l1]
    · rw [RR.out]
      exact ⟨a, c, a', c', rfl, OW1.out.below (((BB.out _ B5.out).setCell (by first | omega | (simp; omega) | simp) _).setCell (by first | omega | (simp; omega) | simp) _), OW2.out.below (((BB.out _ B5.out).setCell (by first | omega | (simp; omega) | simp) _).setCell (by first | omega | (simp; omega) | simp) _)⟩
    · exact ((BB.out _ B5.out).setCell (by first | omega | (simp; omega) | simp) _).setCell (by first | omega | (simp; omega) | simp) _
  · cases ky
    · skip
      have RE : Hid (se = 1) := Lib.hid (by rw [SE.out, if_pos (.inr (.inl rfl))])
      have RR : Hid (sr = ⟨L, S⟩) := Lib.hid (by rw [SR.out, RE.out, if_neg (by decide)])
      clear SE SR
      go_enter Tryz.func26, Tryz.ntmps26
      go_wp2_with (go_at_call 49; (with_reducible refine (BY.out).mono ?_); rintro z w2 ⟨rfl, b2⟩; have B2 := Lib.hid b2; clear b2; obtain ⟨⟨h0, h1⟩, ⟨i0, i1, i2, i3, i4, i5, i6, i7⟩, _, _, _⟩ := AT.out _ B2.out)
      refine wp_region_held_drew (S := fun w' => Below (w.heap.size + 3) (((w.alloc (.cells #[.slice a L.length c, .slice a' S.length c'] 25)).alloc (.cells #[.int .i64 kd, .int .i64 ac, .int .i64 pu, .int .i64 t, .int .i64 nu, .string ea, .string eb, .string ec] 46)).alloc (.cells #[.slice none 0 0, .slice none 0 0] 25)) w') (by kernel_rfl) ?_ (fun hHeld0 => ?_)
      · exact below_drew (BA.out _ B2.out)
      refine wpAnyH_take (i := 0) (v := ?_) rfl (by kernel_rfl) (by kernel_rfl) (by kernel_rfl) (fun _ _ _ h => h) (Or.inl ⟨by rfl, ?_⟩) (by assumption) ?_
      rotate_left
      · intro w hSw; (try dsimp only at hSw); obtain ⟨⟨p0, p1⟩, ⟨g0, g1, g2, g3, g4, g5, g6, g7⟩, _, _, _⟩ := AT.out w hSw; go_simp; (try with_reducible rfl)
      simp only [List.getElem_toArray, List.getElem_cons_zero, Act.put, List.setIfInBounds_toArray, List.set_cons_zero, List.set_cons_succ]
      refine wpAnyH_take (i := 1) (v := ?_) rfl (by kernel_rfl) (by kernel_rfl) (by kernel_rfl) (fun _ _ _ h => h) (Or.inl ⟨by rfl, ?_⟩) (by assumption) ?_
      rotate_left
      · intro w hSw; (try dsimp only at hSw); obtain ⟨⟨p0, p1⟩, ⟨g0, g1, g2, g3, g4, g5, g6, g7⟩, _, _, _⟩ := AT.out w hSw; go_simp; (try with_reducible rfl)
      simp only [List.getElem_toArray, List.getElem_cons_succ, List.getElem_cons_zero, Act.put, List.setIfInBounds_toArray, List.set_cons_zero, List.set_cons_succ]
      refine wpAnyH_ready (rs := [2]) (by kernel_rfl) (by simp) ?_
      refine AllReadyH.cons rfl (fun K hK => ?_) AllReadyH.nil
      go_simp
      (go_at_call 45; (refine (ON.out _ (below_drew (BA.out _ B2.out))).mono ?_); rintro z w5 ⟨rfl, b5⟩; have B5 := Lib.hid b5; clear b5)
      refine hK.out _ _ ?_ (fun hHeld1 => ?_)
      · exact B5.out
      clear hK K hHeld0
      try simp only [List.getElem_toArray, List.getElem_cons_succ, List.getElem_cons_zero, Act.put, List.setIfInBounds_toArray, List.set_cons_zero, List.set_cons_succ]
      refine wpAnyH_take (i := 3) (v := ?_) rfl (by kernel_rfl) (by kernel_rfl) (by kernel_rfl) (fun _ _ _ h => h) (Or.inl ⟨by rfl, ?_⟩) (by assumption) ?_
      rotate_left
      · intro w hSw; (try dsimp only at hSw); obtain ⟨⟨p0, p1⟩, ⟨g0, g1, g2, g3, g4, g5, g6, g7⟩, _, _, _⟩ := AT.out w hSw; go_simp; (try with_reducible rfl)
      simp only [List.getElem_toArray, List.getElem_cons_succ, List.getElem_cons_zero, Act.put, List.setIfInBounds_toArray, List.set_cons_zero, List.set_cons_succ]
      refine wpAnyH_take (i := 4) (v := ?_) rfl (by kernel_rfl) (by kernel_rfl) (by kernel_rfl) (fun _ _ _ h => h) (Or.inl ⟨by rfl, ?_⟩) (by assumption) ?_
      rotate_left
      · intro w hSw; (try dsimp only at hSw); obtain ⟨⟨p0, p1⟩, ⟨g0, g1, g2, g3, g4, g5, g6, g7⟩, _, _, _⟩ := AT.out w hSw; go_simp; (try with_reducible rfl)
      simp only [List.getElem_toArray, List.getElem_cons_succ, List.getElem_cons_zero, Act.put, List.setIfInBounds_toArray, List.set_cons_zero, List.set_cons_succ]
      refine wpAnyH_take (i := 5) (v := ?_) rfl (by kernel_rfl) (by kernel_rfl) (by kernel_rfl) (fun _ _ _ h => h) (Or.inl ⟨by rfl, ?_⟩) (by assumption) ?_
      rotate_left
      · intro w hSw; (try dsimp only at hSw); obtain ⟨⟨p0, p1⟩, ⟨g0, g1, g2, g3, g4, g5, g6, g7⟩, _, _, _⟩ := AT.out w hSw; go_simp; (try with_reducible rfl)
      simp only [List.getElem_toArray, List.getElem_cons_succ, List.getElem_cons_zero, Act.put, List.setIfInBounds_toArray, List.set_cons_zero, List.set_cons_succ]
      refine wpAnyH_take (i := 6) (v := ?_) rfl (by kernel_rfl) (by kernel_rfl) (by kernel_rfl) (fun _ _ _ h => h) (Or.inl ⟨by rfl, ?_⟩) (by assumption) ?_
      rotate_left
      · intro w hSw; (try dsimp only at hSw); obtain ⟨⟨p0, p1⟩, ⟨g0, g1, g2, g3, g4, g5, g6, g7⟩, _, _, _⟩ := AT.out w hSw; go_simp; (try with_reducible rfl)
      simp only [List.getElem_toArray, List.getElem_cons_succ, List.getElem_cons_zero, Act.put, List.setIfInBounds_toArray, List.set_cons_zero, List.set_cons_succ]
      refine wpAnyH_take (i := 7) (v := ?_) rfl (by kernel_rfl) (by kernel_rfl) (by kernel_rfl) (fun _ _ _ h => h) (Or.inl ⟨by rfl, ?_⟩) (by assumption) ?_
      rotate_left
      · intro w hSw; (try dsimp only at hSw); obtain ⟨⟨p0, p1⟩, ⟨g0, g1, g2, g3, g4, g5, g6, g7⟩, _, _, _⟩ := AT.out w hSw; go_simp; (try with_reducible rfl)
      simp only [List.getElem_toArray, List.getElem_cons_succ, List.getElem_cons_zero, Act.put, List.setIfInBounds_toArray, List.set_cons_zero, List.set_cons_succ]
      refine wpAnyH_take (i := 8) (v := ?_) rfl (by kernel_rfl) (by kernel_rfl) (by kernel_rfl) (fun _ _ _ h => h) (Or.inl ⟨by rfl, ?_⟩) (by assumption) ?_
      rotate_left
      · intro w hSw; (try dsimp only at hSw); obtain ⟨⟨p0, p1⟩, ⟨g0, g1, g2, g3, g4, g5, g6, g7⟩, _, _, _⟩ := AT.out w hSw; go_simp; (try with_reducible rfl)
      simp only [List.getElem_toArray, List.getElem_cons_succ, List.getElem_cons_zero, Act.put, List.setIfInBounds_toArray, List.set_cons_zero, List.set_cons_succ]
      refine wpAnyH_ready (rs := [9]) (by kernel_rfl) (by simp) ?_
      refine AllReadyH.cons rfl (fun K hK => ?_) AllReadyH.nil
      go_simp
      (go_at_call 46; (refine (KY.out _).mono ?_); rintro z w6 ⟨rfl, q6⟩; subst q6)
      refine hK.out _ _ ?_ (fun hHeld2 => ?_)
      · exact B5.out
      clear hK K hHeld1
      try simp only [List.getElem_toArray, List.getElem_cons_succ, List.getElem_cons_zero, Act.put, List.setIfInBounds_toArray, List.set_cons_zero, List.set_cons_succ]
      refine wpAnyH_take (i := 10) (v := ?_) rfl (by kernel_rfl) (by kernel_rfl) (by kernel_rfl) (fun _ _ _ h => h) (Or.inl ⟨by rfl, ?_⟩) (by assumption) ?_
      rotate_left
      · intro w hSw; (try dsimp only at hSw); obtain ⟨⟨p0, p1⟩, ⟨g0, g1, g2, g3, g4, g5, g6, g7⟩, _, _, _⟩ := AT.out w hSw; go_simp; (try with_reducible rfl)
      simp only [List.getElem_toArray, List.getElem_cons_succ, List.getElem_cons_zero, Act.put, List.setIfInBounds_toArray, List.set_cons_zero, List.set_cons_succ]
      refine wpAnyH_take (i := 11) (v := ?_) rfl (by kernel_rfl) (by kernel_rfl) (by kernel_rfl) (fun _ _ _ h => h) (Or.inl ⟨by rfl, ?_⟩) (by assumption) ?_
      rotate_left
      · intro w hSw; (try dsimp only at hSw); obtain ⟨⟨p0, p1⟩, ⟨g0, g1, g2, g3, g4, g5, g6, g7⟩, _, _, _⟩ := AT.out w hSw; go_simp; (try with_reducible rfl)
      simp only [List.getElem_toArray, List.getElem_cons_succ, List.getElem_cons_zero, Act.put, List.setIfInBounds_toArray, List.set_cons_zero, List.set_cons_succ]
      refine wpAnyH_take (i := 12) (v := ?_) rfl (by kernel_rfl) (by kernel_rfl) (by kernel_rfl) (fun _ _ _ h => h) (Or.inl ⟨by rfl, ?_⟩) (by assumption) ?_
      rotate_left
      · intro w hSw; (try dsimp only at hSw); obtain ⟨⟨p0, p1⟩, ⟨g0, g1, g2, g3, g4, g5, g6, g7⟩, _, _, _⟩ := AT.out w hSw; go_simp; (try with_reducible rfl)
      simp only [List.getElem_toArray, List.getElem_cons_succ, List.getElem_cons_zero, Act.put, List.setIfInBounds_toArray, List.set_cons_zero, List.set_cons_succ]
      refine wpAnyH_take (i := 13) (v := undef) rfl (by kernel_rfl) (by kernel_rfl) (by kernel_rfl) (fun _ _ _ h => h) (Or.inr ⟨by rfl, rfl⟩) (by assumption) ?_
      simp only [List.getElem_toArray, List.getElem_cons_succ, List.getElem_cons_zero, Act.put, List.setIfInBounds_toArray, List.set_cons_zero, List.set_cons_succ]
      refine wpAnyH_take (i := 14) (v := undef) rfl (by kernel_rfl) (by kernel_rfl) (by kernel_rfl) (fun _ _ _ h => h) (Or.inr ⟨by rfl, rfl⟩) (by assumption) ?_
      simp only [List.getElem_toArray, List.getElem_cons_succ, List.getElem_cons_zero, Act.put, List.setIfInBounds_toArray, List.set_cons_zero, List.set_cons_succ]
      refine wpAnyH_take (i := 15) (v := undef) rfl (by kernel_rfl) (by kernel_rfl) (by kernel_rfl) (fun _ _ _ h => h) (Or.inr ⟨by rfl, rfl⟩) (by assumption) ?_
      simp only [List.getElem_toArray, List.getElem_cons_succ, List.getElem_cons_zero, Act.put, List.setIfInBounds_toArray, List.set_cons_zero, List.set_cons_succ]
      refine wpAnyH_take (i := 16) (v := undef) rfl (by kernel_rfl) (by kernel_rfl) (by kernel_rfl) (fun _ _ _ h => h) (Or.inr ⟨by rfl, rfl⟩) (by assumption) ?_
      simp only [List.getElem_toArray, List.getElem_cons_succ, List.getElem_cons_zero, Act.put, List.setIfInBounds_toArray, List.set_cons_zero, List.set_cons_succ]
      refine wpAnyH_take (i := 17) (v := undef) rfl (by kernel_rfl) (by kernel_rfl) (by kernel_rfl) (fun _ _ _ h => h) (Or.inr ⟨by rfl, rfl⟩) (by assumption) ?_
      simp only [List.getElem_toArray, List.getElem_cons_succ, List.getElem_cons_zero, Act.put, List.setIfInBounds_toArray, List.set_cons_zero, List.set_cons_succ]
      refine wpAnyH_take (i := 18) (v := ?_) rfl (by kernel_rfl) (by kernel_rfl) (by kernel_rfl) (fun _ _ _ h => h) (Or.inl ⟨by rfl, ?_⟩) (by assumption) ?_
      rotate_left
      · intro w hSw; (try dsimp only at hSw); obtain ⟨⟨p0, p1⟩, ⟨g0, g1, g2, g3, g4, g5, g6, g7⟩, _, _, _⟩ := AT.out w hSw; go_simp; (try with_reducible rfl)
      simp only [List.getElem_toArray, List.getElem_cons_succ, List.getElem_cons_zero, Act.put, List.setIfInBounds_toArray, List.set_cons_zero, List.set_cons_succ]
      refine wpAnyH_take (i := 19) (v := ?_) rfl (by kernel_rfl) (by kernel_rfl) (by kernel_rfl) (fun _ _ _ h => h) (Or.inl ⟨by rfl, ?_⟩) (by assumption) ?_
      rotate_left
      · intro w hSw; (try dsimp only at hSw); obtain ⟨⟨p0, p1⟩, ⟨g0, g1, g2, g3, g4, g5, g6, g7⟩, _, _, _⟩ := AT.out w hSw; go_simp; (try with_reducible rfl)
      simp only [List.getElem_toArray, List.getElem_cons_succ, List.getElem_cons_zero, Act.put, List.setIfInBounds_toArray, List.set_cons_zero, List.set_cons_succ]
      refine wpAnyH_take (i := 20) (v := undef) rfl (by kernel_rfl) (by kernel_rfl) (by kernel_rfl) (fun _ _ _ h => h) (Or.inr ⟨by rfl, rfl⟩) (by assumption) ?_
      simp only [List.getElem_toArray, List.getElem_cons_succ, List.getElem_cons_zero, Act.put, List.setIfInBounds_toArray, List.set_cons_zero, List.set_cons_succ]
      refine wpAnyH_take (i := 21) (v := undef) rfl (by kernel_rfl) (by kernel_rfl) (by kernel_rfl) (fun _ _ _ h => h) (Or.inr ⟨by rfl, rfl⟩) (by assumption) ?_
      simp only [List.getElem_toArray, List.getElem_cons_succ, List.getElem_cons_zero, Act.put, List.setIfInBounds_toArray, List.set_cons_zero, List.set_cons_succ]
      refine wpAnyH_take (i := 22) (v := undef) rfl (by kernel_rfl) (by kernel_rfl) (by kernel_rfl) (fun _ _ _ h => h) (Or.inr ⟨by rfl, rfl⟩) (by assumption) ?_
      simp only [List.getElem_toArray, List.getElem_cons_succ, List.getElem_cons_zero, Act.put, List.setIfInBounds_toArray, List.set_cons_zero, List.set_cons_succ]
      refine wpAnyH_take (i := 23) (v := ?_) rfl (by kernel_rfl) (by kernel_rfl) (by kernel_rfl) (fun _ _ _ h => h) (Or.inl ⟨by rfl, ?_⟩) (by assumption) ?_
      rotate_left
      · intro w hSw; (try dsimp only at hSw); obtain ⟨⟨p0, p1⟩, ⟨g0, g1, g2, g3, g4, g5, g6, g7⟩, _, _, _⟩ := AT.out w hSw; go_simp; (try with_reducible rfl)
      simp only [List.getElem_toArray, List.getElem_cons_succ, List.getElem_cons_zero, Act.put, List.setIfInBounds_toArray, List.set_cons_zero, List.set_cons_succ]
      refine wpAnyH_take (i := 24) (v := ?_) rfl (by kernel_rfl) (by kernel_rfl) (by kernel_rfl) (fun _ _ _ h => h) (Or.inl ⟨by rfl, ?_⟩) (by assumption) ?_
      rotate_left
      · intro w hSw; (try dsimp only at hSw); obtain ⟨⟨p0, p1⟩, ⟨g0, g1, g2, g3, g4, g5, g6, g7⟩, _, _, _⟩ := AT.out w hSw; go_simp; (try with_reducible rfl)
      try simp only [List.getElem_toArray, List.getElem_cons_succ, List.getElem_cons_zero, Act.put, List.setIfInBounds_toArray, List.set_cons_zero, List.set_cons_succ]
      refine wpAnyH_done (by kernel_rfl) ?_ _
      obtain ⟨⟨j0, j1⟩, ⟨k0, k1, k2, k3, k4, k5, k6, k7⟩, ⟨u0, u1, l0, l1⟩, lf, _⟩ := AT.out _ B5.out
      go_wp2_with fail
      refine bodyPost_ret (v := .tuple #[.agg #[.slice a L.length c, .slice a' S.length c'], .int .i64 1]) ?_ rfl ⟨_, by rw [RE.out], ?_, ?_⟩
      · simp [results, Tryz.f26, go_sem, l0, l1]
      · rw [RR.out]
        exact ⟨a, c, a', c', rfl, OW1.out.below (((BB.out _ B5.out).setCell (by first | omega | (simp; omega) | simp) _).setCell (by first | omega | (simp; omega) | simp) _), OW2.out.below (((BB.out _ B5.out).setCell (by first | omega | (simp; omega) | simp) _).setCell (by first | omega | (simp; omega) | simp) _)⟩
      · exact ((BB.out _ B5.out).setCell (by first | omega | (simp; omega) | simp) _).setCell (by first | omega | (simp; omega) | simp) _
    · by_cases hne : ac = nx
      · subst hne
        by_cases h99 : 99 < ac
        · skip
          have RE : Hid (se = 1) := Lib.hid (by rw [SE.out, if_pos (.inr (.inr (.inr h99)))])
          have RR : Hid (sr = ⟨L, S⟩) := Lib.hid (by rw [SR.out, RE.out, if_neg (by decide)])
          clear SE SR
          go_enter Tryz.func26, Tryz.ntmps26
          go_wp2_with (go_at_call 49; (with_reducible refine (BY.out).mono ?_); rintro z w2 ⟨rfl, b2⟩; have B2 := Lib.hid b2; clear b2; obtain ⟨⟨h0, h1⟩, ⟨i0, i1, i2, i3, i4, i5, i6, i7⟩, _, _, _⟩ := AT.out _ B2.out)
          refine wp_region_held_drew (S := fun w' => Below (w.heap.size + 3) (((w.alloc (.cells #[.slice a L.length c, .slice a' S.length c'] 25)).alloc (.cells #[.int .i64 kd, .int .i64 ac, .int .i64 pu, .int .i64 t, .int .i64 nu, .string ea, .string eb, .string ec] 46)).alloc (.cells #[.slice none 0 0, .slice none 0 0] 25)) w') (by kernel_rfl) ?_ (fun hHeld0 => ?_)
          · exact below_drew (BA.out _ B2.out)
          refine wpAnyH_take (i := 0) (v := ?_) rfl (by kernel_rfl) (by kernel_rfl) (by kernel_rfl) (fun _ _ _ h => h) (Or.inl ⟨by rfl, ?_⟩) (by assumption) ?_
          rotate_left
          · intro w hSw; (try dsimp only at hSw); obtain ⟨⟨p0, p1⟩, ⟨g0, g1, g2, g3, g4, g5, g6, g7⟩, _, _, _⟩ := AT.out w hSw; go_simp; (try with_reducible rfl)
          simp only [List.getElem_toArray, List.getElem_cons_zero, Act.put, List.setIfInBounds_toArray, List.set_cons_zero, List.set_cons_succ]
          refine wpAnyH_take (i := 1) (v := ?_) rfl (by kernel_rfl) (by kernel_rfl) (by kernel_rfl) (fun _ _ _ h => h) (Or.inl ⟨by rfl, ?_⟩) (by assumption) ?_
          rotate_left
          · intro w hSw; (try dsimp only at hSw); obtain ⟨⟨p0, p1⟩, ⟨g0, g1, g2, g3, g4, g5, g6, g7⟩, _, _, _⟩ := AT.out w hSw; go_simp; (try with_reducible rfl)
          simp only [List.getElem_toArray, List.getElem_cons_succ, List.getElem_cons_zero, Act.put, List.setIfInBounds_toArray, List.set_cons_zero, List.set_cons_succ]
          refine wpAnyH_ready (rs := [2]) (by kernel_rfl) (by simp) ?_
          refine AllReadyH.cons rfl (fun K hK => ?_) AllReadyH.nil
          go_simp
          (go_at_call 45; (refine (ON.out _ (below_drew (BA.out _ B2.out))).mono ?_); rintro z w5 ⟨rfl, b5⟩; have B5 := Lib.hid b5; clear b5)
          refine hK.out _ _ ?_ (fun hHeld1 => ?_)
          · exact B5.out
          clear hK K hHeld0
          try simp only [List.getElem_toArray, List.getElem_cons_succ, List.getElem_cons_zero, Act.put, List.setIfInBounds_toArray, List.set_cons_zero, List.set_cons_succ]
          refine wpAnyH_take (i := 3) (v := ?_) rfl (by kernel_rfl) (by kernel_rfl) (by kernel_rfl) (fun _ _ _ h => h) (Or.inl ⟨by rfl, ?_⟩) (by assumption) ?_
          rotate_left
          · intro w hSw; (try dsimp only at hSw); obtain ⟨⟨p0, p1⟩, ⟨g0, g1, g2, g3, g4, g5, g6, g7⟩, _, _, _⟩ := AT.out w hSw; go_simp; (try with_reducible rfl)
          simp only [List.getElem_toArray, List.getElem_cons_succ, List.getElem_cons_zero, Act.put, List.setIfInBounds_toArray, List.set_cons_zero, List.set_cons_succ]
          refine wpAnyH_take (i := 4) (v := ?_) rfl (by kernel_rfl) (by kernel_rfl) (by kernel_rfl) (fun _ _ _ h => h) (Or.inl ⟨by rfl, ?_⟩) (by assumption) ?_
          rotate_left
          · intro w hSw; (try dsimp only at hSw); obtain ⟨⟨p0, p1⟩, ⟨g0, g1, g2, g3, g4, g5, g6, g7⟩, _, _, _⟩ := AT.out w hSw; go_simp; (try with_reducible rfl)
          simp only [List.getElem_toArray, List.getElem_cons_succ, List.getElem_cons_zero, Act.put, List.setIfInBounds_toArray, List.set_cons_zero, List.set_cons_succ]
          refine wpAnyH_take (i := 5) (v := ?_) rfl (by kernel_rfl) (by kernel_rfl) (by kernel_rfl) (fun _ _ _ h => h) (Or.inl ⟨by rfl, ?_⟩) (by assumption) ?_
          rotate_left
          · intro w hSw; (try dsimp only at hSw); obtain ⟨⟨p0, p1⟩, ⟨g0, g1, g2, g3, g4, g5, g6, g7⟩, _, _, _⟩ := AT.out w hSw; go_simp; (try with_reducible rfl)
          simp only [List.getElem_toArray, List.getElem_cons_succ, List.getElem_cons_zero, Act.put, List.setIfInBounds_toArray, List.set_cons_zero, List.set_cons_succ]
          refine wpAnyH_take (i := 6) (v := ?_) rfl (by kernel_rfl) (by kernel_rfl) (by kernel_rfl) (fun _ _ _ h => h) (Or.inl ⟨by rfl, ?_⟩) (by assumption) ?_
          rotate_left
          · intro w hSw; (try dsimp only at hSw); obtain ⟨⟨p0, p1⟩, ⟨g0, g1, g2, g3, g4, g5, g6, g7⟩, _, _, _⟩ := AT.out w hSw; go_simp; (try with_reducible rfl)
          simp only [List.getElem_toArray, List.getElem_cons_succ, List.getElem_cons_zero, Act.put, List.setIfInBounds_toArray, List.set_cons_zero, List.set_cons_succ]
          refine wpAnyH_take (i := 7) (v := ?_) rfl (by kernel_rfl) (by kernel_rfl) (by kernel_rfl) (fun _ _ _ h => h) (Or.inl ⟨by rfl, ?_⟩) (by assumption) ?_
          rotate_left
          · intro w hSw; (try dsimp only at hSw); obtain ⟨⟨p0, p1⟩, ⟨g0, g1, g2, g3, g4, g5, g6, g7⟩, _, _, _⟩ := AT.out w hSw; go_simp; (try with_reducible rfl)
          simp only [List.getElem_toArray, List.getElem_cons_succ, List.getElem_cons_zero, Act.put, List.setIfInBounds_toArray, List.set_cons_zero, List.set_cons_succ]
          refine wpAnyH_take (i := 8) (v := ?_) rfl (by kernel_rfl) (by kernel_rfl) (by kernel_rfl) (fun _ _ _ h => h) (Or.inl ⟨by rfl, ?_⟩) (by assumption) ?_
          rotate_left
          · intro w hSw; (try dsimp only at hSw); obtain ⟨⟨p0, p1⟩, ⟨g0, g1, g2, g3, g4, g5, g6, g7⟩, _, _, _⟩ := AT.out w hSw; go_simp; (try with_reducible rfl)
          simp only [List.getElem_toArray, List.getElem_cons_succ, List.getElem_cons_zero, Act.put, List.setIfInBounds_toArray, List.set_cons_zero, List.set_cons_succ]
          refine wpAnyH_ready (rs := [9]) (by kernel_rfl) (by simp) ?_
          refine AllReadyH.cons rfl (fun K hK => ?_) AllReadyH.nil
          go_simp
          (go_at_call 46; (refine (KY.out _).mono ?_); rintro z w6 ⟨rfl, q6⟩; subst q6)
          refine hK.out _ _ ?_ (fun hHeld2 => ?_)
          · exact B5.out
          clear hK K hHeld1
          try simp only [List.getElem_toArray, List.getElem_cons_succ, List.getElem_cons_zero, Act.put, List.setIfInBounds_toArray, List.set_cons_zero, List.set_cons_succ]
          refine wpAnyH_take (i := 10) (v := ?_) rfl (by kernel_rfl) (by kernel_rfl) (by kernel_rfl) (fun _ _ _ h => h) (Or.inl ⟨by rfl, ?_⟩) (by assumption) ?_
          rotate_left
          · intro w hSw; (try dsimp only at hSw); obtain ⟨⟨p0, p1⟩, ⟨g0, g1, g2, g3, g4, g5, g6, g7⟩, _, _, _⟩ := AT.out w hSw; go_simp; (try with_reducible rfl)
          simp only [List.getElem_toArray, List.getElem_cons_succ, List.getElem_cons_zero, Act.put, List.setIfInBounds_toArray, List.set_cons_zero, List.set_cons_succ]
          refine wpAnyH_take (i := 11) (v := ?_) rfl (by kernel_rfl) (by kernel_rfl) (by kernel_rfl) (fun _ _ _ h => h) (Or.inl ⟨by rfl, ?_⟩) (by assumption) ?_
          rotate_left
          · intro w hSw; (try dsimp only at hSw); obtain ⟨⟨p0, p1⟩, ⟨g0, g1, g2, g3, g4, g5, g6, g7⟩, _, _, _⟩ := AT.out w hSw; go_simp; (try with_reducible rfl)
          simp only [List.getElem_toArray, List.getElem_cons_succ, List.getElem_cons_zero, Act.put, List.setIfInBounds_toArray, List.set_cons_zero, List.set_cons_succ]
          refine wpAnyH_take (i := 12) (v := ?_) rfl (by kernel_rfl) (by kernel_rfl) (by kernel_rfl) (fun _ _ _ h => h) (Or.inl ⟨by rfl, ?_⟩) (by assumption) ?_
          rotate_left
          · intro w hSw; (try dsimp only at hSw); obtain ⟨⟨p0, p1⟩, ⟨g0, g1, g2, g3, g4, g5, g6, g7⟩, _, _, _⟩ := AT.out w hSw; go_simp; (try with_reducible rfl)
          simp only [List.getElem_toArray, List.getElem_cons_succ, List.getElem_cons_zero, Act.put, List.setIfInBounds_toArray, List.set_cons_zero, List.set_cons_succ]
          refine wpAnyH_take (i := 13) (v := ?_) rfl (by kernel_rfl) (by kernel_rfl) (by kernel_rfl) (fun _ _ _ h => h) (Or.inl ⟨by rfl, ?_⟩) (by assumption) ?_
          rotate_left
          · intro w hSw; (try dsimp only at hSw); obtain ⟨⟨p0, p1⟩, ⟨g0, g1, g2, g3, g4, g5, g6, g7⟩, _, _, _⟩ := AT.out w hSw; go_simp; (try with_reducible rfl)
          simp only [List.getElem_toArray, List.getElem_cons_succ, List.getElem_cons_zero, Act.put, List.setIfInBounds_toArray, List.set_cons_zero, List.set_cons_succ]
          refine wpAnyH_take (i := 14) (v := ?_) rfl (by kernel_rfl) (by kernel_rfl) (by kernel_rfl) (fun _ _ _ h => h) (Or.inl ⟨by rfl, ?_⟩) (by assumption) ?_
          rotate_left
          · intro w hSw; (try dsimp only at hSw); obtain ⟨⟨p0, p1⟩, ⟨g0, g1, g2, g3, g4, g5, g6, g7⟩, _, _, _⟩ := AT.out w hSw; go_simp; (try with_reducible rfl)
          simp only [List.getElem_toArray, List.getElem_cons_succ, List.getElem_cons_zero, Act.put, List.setIfInBounds_toArray, List.set_cons_zero, List.set_cons_succ]
          refine wpAnyH_take (i := 15) (v := ?_) rfl (by kernel_rfl) (by kernel_rfl) (by kernel_rfl) (fun _ _ _ h => h) (Or.inl ⟨by rfl, ?_⟩) (by assumption) ?_
          rotate_left
          · intro w hSw; (try dsimp only at hSw); obtain ⟨⟨p0, p1⟩, ⟨g0, g1, g2, g3, g4, g5, g6, g7⟩, _, _, _⟩ := AT.out w hSw; go_simp; (try with_reducible rfl)
          simp only [List.getElem_toArray, List.getElem_cons_succ, List.getElem_cons_zero, Act.put, List.setIfInBounds_toArray, List.set_cons_zero, List.set_cons_succ]
          refine wpAnyH_ready (rs := [16]) (by kernel_rfl) (by simp) ?_
          refine AllReadyH.cons rfl (fun K hK => ?_) AllReadyH.nil
          go_simp
          (go_at_call 50; (refine (NX.out _ B5.out).mono ?_); rintro z w7 ⟨rfl, b7⟩; have B7 := Lib.hid b7; clear b7)
          refine hK.out _ _ ?_ (fun hHeld3 => ?_)
          · exact B7.out
          clear hK K hHeld2
          try simp only [List.getElem_toArray, List.getElem_cons_succ, List.getElem_cons_zero, Act.put, List.setIfInBounds_toArray, List.set_cons_zero, List.set_cons_succ]
          refine wpAnyH_take (i := 17) (v := ?_) rfl (by kernel_rfl) (by kernel_rfl) (by kernel_rfl) (fun _ _ _ h => h) (Or.inl ⟨by rfl, ?_⟩) (by assumption) ?_
          rotate_left
          · intro w hSw; (try dsimp only at hSw); obtain ⟨⟨p0, p1⟩, ⟨g0, g1, g2, g3, g4, g5, g6, g7⟩, _, _, _⟩ := AT.out w hSw; go_simp; (try with_reducible rfl)
          simp only [List.getElem_toArray, List.getElem_cons_succ, List.getElem_cons_zero, Act.put, List.setIfInBounds_toArray, List.set_cons_zero, List.set_cons_succ]
          refine wpAnyH_take (i := 18) (v := ?_) rfl (by kernel_rfl) (by kernel_rfl) (by kernel_rfl) (fun _ _ _ h => h) (Or.inl ⟨by rfl, ?_⟩) (by assumption) ?_
          rotate_left
          · intro w hSw; (try dsimp only at hSw); obtain ⟨⟨p0, p1⟩, ⟨g0, g1, g2, g3, g4, g5, g6, g7⟩, _, _, _⟩ := AT.out w hSw; go_simp; (try with_reducible rfl)
          simp only [List.getElem_toArray, List.getElem_cons_succ, List.getElem_cons_zero, Act.put, List.setIfInBounds_toArray, List.set_cons_zero, List.set_cons_succ]
          refine wpAnyH_take (i := 19) (v := ?_) rfl (by kernel_rfl) (by kernel_rfl) (by kernel_rfl) (fun _ _ _ h => h) (Or.inl ⟨by rfl, ?_⟩) (by assumption) ?_
          rotate_left
          · intro w hSw; (try dsimp only at hSw); obtain ⟨⟨p0, p1⟩, ⟨g0, g1, g2, g3, g4, g5, g6, g7⟩, _, _, _⟩ := AT.out w hSw; go_simp; (try with_reducible rfl)
          simp only [List.getElem_toArray, List.getElem_cons_succ, List.getElem_cons_zero, Act.put, List.setIfInBounds_toArray, List.set_cons_zero, List.set_cons_succ]
          refine wpAnyH_take (i := 20) (v := ?_) rfl (by kernel_rfl) (by kernel_rfl) (by kernel_rfl) (fun _ _ _ h => h) (Or.inl ⟨by rfl, ?_⟩) (by assumption) ?_
          rotate_left
          · intro w hSw; (try dsimp only at hSw); obtain ⟨⟨p0, p1⟩, ⟨g0, g1, g2, g3, g4, g5, g6, g7⟩, _, _, _⟩ := AT.out w hSw; go_simp; (try with_reducible rfl)
          simp only [List.getElem_toArray, List.getElem_cons_succ, List.getElem_cons_zero, Act.put, List.setIfInBounds_toArray, List.set_cons_zero, List.set_cons_succ]
          refine wpAnyH_take (i := 21) (v := ?_) rfl (by kernel_rfl) (by kernel_rfl) (by kernel_rfl) (fun _ _ _ h => h) (Or.inl ⟨by rfl, ?_⟩) (by assumption) ?_
          rotate_left
          · intro w hSw; (try dsimp only at hSw); obtain ⟨⟨p0, p1⟩, ⟨g0, g1, g2, g3, g4, g5, g6, g7⟩, _, _, _⟩ := AT.out w hSw; go_simp; (try with_reducible rfl)
          simp only [List.getElem_toArray, List.getElem_cons_succ, List.getElem_cons_zero, Act.put, List.setIfInBounds_toArray, List.set_cons_zero, List.set_cons_succ]
          refine wpAnyH_take (i := 22) (v := ?_) rfl (by kernel_rfl) (by kernel_rfl) (by kernel_rfl) (fun _ _ _ h => h) (Or.inl ⟨by rfl, ?_⟩) (by assumption) ?_
          rotate_left
          · intro w hSw; (try dsimp only at hSw); obtain ⟨⟨p0, p1⟩, ⟨g0, g1, g2, g3, g4, g5, g6, g7⟩, _, _, _⟩ := AT.out w hSw; go_simp; (try with_reducible rfl)
          simp only [List.getElem_toArray, List.getElem_cons_succ, List.getElem_cons_zero, Act.put, List.setIfInBounds_toArray, List.set_cons_zero, List.set_cons_succ]
          refine wpAnyH_take (i := 23) (v := ?_) rfl (by kernel_rfl) (by kernel_rfl) (by kernel_rfl) (fun _ _ _ h => h) (Or.inl ⟨by rfl, ?_⟩) (by assumption) ?_
          rotate_left
          · intro w hSw; (try dsimp only at hSw); obtain ⟨⟨p0, p1⟩, ⟨g0, g1, g2, g3, g4, g5, g6, g7⟩, _, _, _⟩ := AT.out w hSw; go_simp; (try with_reducible rfl)
          simp only [List.getElem_toArray, List.getElem_cons_succ, List.getElem_cons_zero, Act.put, List.setIfInBounds_toArray, List.set_cons_zero, List.set_cons_succ]
          refine wpAnyH_take (i := 24) (v := ?_) rfl (by kernel_rfl) (by kernel_rfl) (by kernel_rfl) (fun _ _ _ h => h) (Or.inl ⟨by rfl, ?_⟩) (by assumption) ?_
          rotate_left
          · intro w hSw; (try dsimp only at hSw); obtain ⟨⟨p0, p1⟩, ⟨g0, g1, g2, g3, g4, g5, g6, g7⟩, _, _, _⟩ := AT.out w hSw; go_simp; (try with_reducible rfl)
          try simp only [List.getElem_toArray, List.getElem_cons_succ, List.getElem_cons_zero, Act.put, List.setIfInBounds_toArray, List.set_cons_zero, List.set_cons_succ]
          refine wpAnyH_done (by kernel_rfl) ?_ _
          obtain ⟨⟨j0, j1⟩, ⟨k0, k1, k2, k3, k4, k5, k6, k7⟩, ⟨u0, u1, l0, l1⟩, lf, _⟩ := AT.out _ B7.out
          go_wp2_with fail
          refine bodyPost_ret (v := .tuple #[.agg #[.slice a L.length c, .slice a' S.length c'], .int .i64 1]) ?_ rfl ⟨_, by rw [RE.out], ?_, ?_⟩
          · simp [results, Tryz.f26, go_sem, l0, l1]
          · rw [RR.out]
            exact ⟨a, c, a', c', rfl, OW1.out.below (((BB.out _ B7.out).setCell (by first | omega | (simp; omega) | simp) _).setCell (by first | omega | (simp; omega) | simp) _), OW2.out.below (((BB.out _ B7.out).setCell (by first | omega | (simp; omega) | simp) _).setCell (by first | omega | (simp; omega) | simp) _)⟩
          · exact ((BB.out _ B7.out).setCell (by first | omega | (simp; omega) | simp) _).setCell (by first | omega | (simp; omega) | simp) _
        · have h99' : decide (99 < ac) = false := decide_eq_false h99
          have hor : ¬ (true = false ∨ true = false ∨ ac ≠ ac ∨ 99 < ac) := by simp; omega
          cases th
          · by_cases h12 : 12 ≤ L.length
            · have h12' : (12 : Int) ≤ L.length := by omega
              have RE : Hid (se = 15) := Lib.hid (by rw [SE.out, if_neg hor, if_neg (by decide), if_pos h12])
              have RR : Hid (sr = ⟨L, S⟩) := Lib.hid (by rw [SR.out, RE.out, if_neg (by decide)])
              clear SE SR
              go_enter Tryz.func26, Tryz.ntmps26
              go_wp2_with (go_at_call 49; (with_reducible refine (BY.out).mono ?_); rintro z w2 ⟨rfl, b2⟩; have B2 := Lib.hid b2; clear b2; obtain ⟨⟨h0, h1⟩, ⟨i0, i1, i2, i3, i4, i5, i6, i7⟩, _, _, _⟩ := AT.out _ B2.out)
              refine wp_region_held_drew (S := fun w' => Below (w.heap.size + 3) (((w.alloc (.cells #[.slice a L.length c, .slice a' S.length c'] 25)).alloc (.cells #[.int .i64 kd, .int .i64 ac, .int .i64 pu, .int .i64 t, .int .i64 nu, .string ea, .string eb, .string ec] 46)).alloc (.cells #[.slice none 0 0, .slice none 0 0] 25)) w') (by kernel_rfl) ?_ (fun hHeld0 => ?_)
              · exact below_drew (BA.out _ B2.out)
              refine wpAnyH_take (i := 0) (v := ?_) rfl (by kernel_rfl) (by kernel_rfl) (by kernel_rfl) (fun _ _ _ h => h) (Or.inl ⟨by rfl, ?_⟩) (by assumption) ?_
              rotate_left
              · intro w hSw; (try dsimp only at hSw); obtain ⟨⟨p0, p1⟩, ⟨g0, g1, g2, g3, g4, g5, g6, g7⟩, _, _, _⟩ := AT.out w hSw; go_simp; (try with_reducible rfl)
              simp only [List.getElem_toArray, List.getElem_cons_zero, Act.put, List.setIfInBounds_toArray, List.set_cons_zero, List.set_cons_succ]
              refine wpAnyH_take (i := 1) (v := ?_) rfl (by kernel_rfl) (by kernel_rfl) (by kernel_rfl) (fun _ _ _ h => h) (Or.inl ⟨by rfl, ?_⟩) (by assumption) ?_
              rotate_left
              · intro w hSw; (try dsimp only at hSw); obtain ⟨⟨p0, p1⟩, ⟨g0, g1, g2, g3, g4, g5, g6, g7⟩, _, _, _⟩ := AT.out w hSw; go_simp; (try with_reducible rfl)
              simp only [List.getElem_toArray, List.getElem_cons_succ, List.getElem_cons_zero, Act.put, List.setIfInBounds_toArray, List.set_cons_zero, List.set_cons_succ]
              refine wpAnyH_ready (rs := [2]) (by kernel_rfl) (by simp) ?_
              refine AllReadyH.cons rfl (fun K hK => ?_) AllReadyH.nil
              go_simp
              (go_at_call 45; (refine (ON.out _ (below_drew (BA.out _ B2.out))).mono ?_); rintro z w5 ⟨rfl, b5⟩; have B5 := Lib.hid b5; clear b5)
              refine hK.out _ _ ?_ (fun hHeld1 => ?_)
              · exact B5.out
              clear hK K hHeld0
              try simp only [List.getElem_toArray, List.getElem_cons_succ, List.getElem_cons_zero, Act.put, List.setIfInBounds_toArray, List.set_cons_zero, List.set_cons_succ]
              refine wpAnyH_take (i := 3) (v := ?_) rfl (by kernel_rfl) (by kernel_rfl) (by kernel_rfl) (fun _ _ _ h => h) (Or.inl ⟨by rfl, ?_⟩) (by assumption) ?_
              rotate_left
              · intro w hSw; (try dsimp only at hSw); obtain ⟨⟨p0, p1⟩, ⟨g0, g1, g2, g3, g4, g5, g6, g7⟩, _, _, _⟩ := AT.out w hSw; go_simp; (try with_reducible rfl)
              simp only [List.getElem_toArray, List.getElem_cons_succ, List.getElem_cons_zero, Act.put, List.setIfInBounds_toArray, List.set_cons_zero, List.set_cons_succ]
              refine wpAnyH_take (i := 4) (v := ?_) rfl (by kernel_rfl) (by kernel_rfl) (by kernel_rfl) (fun _ _ _ h => h) (Or.inl ⟨by rfl, ?_⟩) (by assumption) ?_
              rotate_left
              · intro w hSw; (try dsimp only at hSw); obtain ⟨⟨p0, p1⟩, ⟨g0, g1, g2, g3, g4, g5, g6, g7⟩, _, _, _⟩ := AT.out w hSw; go_simp; (try with_reducible rfl)
              simp only [List.getElem_toArray, List.getElem_cons_succ, List.getElem_cons_zero, Act.put, List.setIfInBounds_toArray, List.set_cons_zero, List.set_cons_succ]
              refine wpAnyH_take (i := 5) (v := ?_) rfl (by kernel_rfl) (by kernel_rfl) (by kernel_rfl) (fun _ _ _ h => h) (Or.inl ⟨by rfl, ?_⟩) (by assumption) ?_
              rotate_left
              · intro w hSw; (try dsimp only at hSw); obtain ⟨⟨p0, p1⟩, ⟨g0, g1, g2, g3, g4, g5, g6, g7⟩, _, _, _⟩ := AT.out w hSw; go_simp; (try with_reducible rfl)
              simp only [List.getElem_toArray, List.getElem_cons_succ, List.getElem_cons_zero, Act.put, List.setIfInBounds_toArray, List.set_cons_zero, List.set_cons_succ]
              refine wpAnyH_take (i := 6) (v := ?_) rfl (by kernel_rfl) (by kernel_rfl) (by kernel_rfl) (fun _ _ _ h => h) (Or.inl ⟨by rfl, ?_⟩) (by assumption) ?_
              rotate_left
              · intro w hSw; (try dsimp only at hSw); obtain ⟨⟨p0, p1⟩, ⟨g0, g1, g2, g3, g4, g5, g6, g7⟩, _, _, _⟩ := AT.out w hSw; go_simp; (try with_reducible rfl)
              simp only [List.getElem_toArray, List.getElem_cons_succ, List.getElem_cons_zero, Act.put, List.setIfInBounds_toArray, List.set_cons_zero, List.set_cons_succ]
              refine wpAnyH_take (i := 7) (v := ?_) rfl (by kernel_rfl) (by kernel_rfl) (by kernel_rfl) (fun _ _ _ h => h) (Or.inl ⟨by rfl, ?_⟩) (by assumption) ?_
              rotate_left
              · intro w hSw; (try dsimp only at hSw); obtain ⟨⟨p0, p1⟩, ⟨g0, g1, g2, g3, g4, g5, g6, g7⟩, _, _, _⟩ := AT.out w hSw; go_simp; (try with_reducible rfl)
              simp only [List.getElem_toArray, List.getElem_cons_succ, List.getElem_cons_zero, Act.put, List.setIfInBounds_toArray, List.set_cons_zero, List.set_cons_succ]
              refine wpAnyH_take (i := 8) (v := ?_) rfl (by kernel_rfl) (by kernel_rfl) (by kernel_rfl) (fun _ _ _ h => h) (Or.inl ⟨by rfl, ?_⟩) (by assumption) ?_
              rotate_left
              · intro w hSw; (try dsimp only at hSw); obtain ⟨⟨p0, p1⟩, ⟨g0, g1, g2, g3, g4, g5, g6, g7⟩, _, _, _⟩ := AT.out w hSw; go_simp; (try with_reducible rfl)
              simp only [List.getElem_toArray, List.getElem_cons_succ, List.getElem_cons_zero, Act.put, List.setIfInBounds_toArray, List.set_cons_zero, List.set_cons_succ]
              refine wpAnyH_ready (rs := [9]) (by kernel_rfl) (by simp) ?_
              refine AllReadyH.cons rfl (fun K hK => ?_) AllReadyH.nil
              go_simp
              (go_at_call 46; (refine (KY.out _).mono ?_); rintro z w6 ⟨rfl, q6⟩; subst q6)
              refine hK.out _ _ ?_ (fun hHeld2 => ?_)
              · exact B5.out
              clear hK K hHeld1
              try simp only [List.getElem_toArray, List.getElem_cons_succ, List.getElem_cons_zero, Act.put, List.setIfInBounds_toArray, List.set_cons_zero, List.set_cons_succ]
              refine wpAnyH_take (i := 10) (v := ?_) rfl (by kernel_rfl) (by kernel_rfl) (by kernel_rfl) (fun _ _ _ h => h) (Or.inl ⟨by rfl, ?_⟩) (by assumption) ?_
              rotate_left
              · intro w hSw; (try dsimp only at hSw); obtain ⟨⟨p0, p1⟩, ⟨g0, g1, g2, g3, g4, g5, g6, g7⟩, _, _, _⟩ := AT.out w hSw; go_simp; (try with_reducible rfl)
              simp only [List.getElem_toArray, List.getElem_cons_succ, List.getElem_cons_zero, Act.put, List.setIfInBounds_toArray, List.set_cons_zero, List.set_cons_succ]
              refine wpAnyH_take (i := 11) (v := ?_) rfl (by kernel_rfl) (by kernel_rfl) (by kernel_rfl) (fun _ _ _ h => h) (Or.inl ⟨by rfl, ?_⟩) (by assumption) ?_
              rotate_left
              · intro w hSw; (try dsimp only at hSw); obtain ⟨⟨p0, p1⟩, ⟨g0, g1, g2, g3, g4, g5, g6, g7⟩, _, _, _⟩ := AT.out w hSw; go_simp; (try with_reducible rfl)
              simp only [List.getElem_toArray, List.getElem_cons_succ, List.getElem_cons_zero, Act.put, List.setIfInBounds_toArray, List.set_cons_zero, List.set_cons_succ]
              refine wpAnyH_take (i := 12) (v := ?_) rfl (by kernel_rfl) (by kernel_rfl) (by kernel_rfl) (fun _ _ _ h => h) (Or.inl ⟨by rfl, ?_⟩) (by assumption) ?_
              rotate_left
              · intro w hSw; (try dsimp only at hSw); obtain ⟨⟨p0, p1⟩, ⟨g0, g1, g2, g3, g4, g5, g6, g7⟩, _, _, _⟩ := AT.out w hSw; go_simp; (try with_reducible rfl)
              simp only [List.getElem_toArray, List.getElem_cons_succ, List.getElem_cons_zero, Act.put, List.setIfInBounds_toArray, List.set_cons_zero, List.set_cons_succ]
              refine wpAnyH_take (i := 13) (v := ?_) rfl (by kernel_rfl) (by kernel_rfl) (by kernel_rfl) (fun _ _ _ h => h) (Or.inl ⟨by rfl, ?_⟩) (by assumption) ?_
              rotate_left
              · intro w hSw; (try dsimp only at hSw); obtain ⟨⟨p0, p1⟩, ⟨g0, g1, g2, g3, g4, g5, g6, g7⟩, _, _, _⟩ := AT.out w hSw; go_simp; (try with_reducible rfl)
              simp only [List.getElem_toArray, List.getElem_cons_succ, List.getElem_cons_zero, Act.put, List.setIfInBounds_toArray, List.set_cons_zero, List.set_cons_succ]
              refine wpAnyH_take (i := 14) (v := ?_) rfl (by kernel_rfl) (by kernel_rfl) (by kernel_rfl) (fun _ _ _ h => h) (Or.inl ⟨by rfl, ?_⟩) (by assumption) ?_
              rotate_left
              · intro w hSw; (try dsimp only at hSw); obtain ⟨⟨p0, p1⟩, ⟨g0, g1, g2, g3, g4, g5, g6, g7⟩, _, _, _⟩ := AT.out w hSw; go_simp; (try with_reducible rfl)
              simp only [List.getElem_toArray, List.getElem_cons_succ, List.getElem_cons_zero, Act.put, List.setIfInBounds_toArray, List.set_cons_zero, List.set_cons_succ]
              refine wpAnyH_take (i := 15) (v := ?_) rfl (by kernel_rfl) (by kernel_rfl) (by kernel_rfl) (fun _ _ _ h => h) (Or.inl ⟨by rfl, ?_⟩) (by assumption) ?_
              rotate_left
              · intro w hSw; (try dsimp only at hSw); obtain ⟨⟨p0, p1⟩, ⟨g0, g1, g2, g3, g4, g5, g6, g7⟩, _, _, _⟩ := AT.out w hSw; go_simp; (try with_reducible rfl)
              simp only [List.getElem_toArray, List.getElem_cons_succ, List.getElem_cons_zero, Act.put, List.setIfInBounds_toArray, List.set_cons_zero, List.set_cons_succ]
              refine wpAnyH_ready (rs := [16]) (by kernel_rfl) (by simp) ?_
              refine AllReadyH.cons rfl (fun K hK => ?_) AllReadyH.nil
              go_simp
              (go_at_call 50; (refine (NX.out _ B5.out).mono ?_); rintro z w7 ⟨rfl, b7⟩; have B7 := Lib.hid b7; clear b7)
              refine hK.out _ _ ?_ (fun hHeld3 => ?_)
              · exact B7.out
              clear hK K hHeld2
              try simp only [List.getElem_toArray, List.getElem_cons_succ, List.getElem_cons_zero, Act.put, List.setIfInBounds_toArray, List.set_cons_zero, List.set_cons_succ]
              refine wpAnyH_take (i := 17) (v := ?_) rfl (by kernel_rfl) (by kernel_rfl) (by kernel_rfl) (fun _ _ _ h => h) (Or.inl ⟨by rfl, ?_⟩) (by assumption) ?_
              rotate_left
              · intro w hSw; (try dsimp only at hSw); obtain ⟨⟨p0, p1⟩, ⟨g0, g1, g2, g3, g4, g5, g6, g7⟩, _, _, _⟩ := AT.out w hSw; go_simp; (try with_reducible rfl)
              simp only [List.getElem_toArray, List.getElem_cons_succ, List.getElem_cons_zero, Act.put, List.setIfInBounds_toArray, List.set_cons_zero, List.set_cons_succ]
              refine wpAnyH_take (i := 18) (v := ?_) rfl (by kernel_rfl) (by kernel_rfl) (by kernel_rfl) (fun _ _ _ h => h) (Or.inl ⟨by rfl, ?_⟩) (by assumption) ?_
              rotate_left
              · intro w hSw; (try dsimp only at hSw); obtain ⟨⟨p0, p1⟩, ⟨g0, g1, g2, g3, g4, g5, g6, g7⟩, _, _, _⟩ := AT.out w hSw; go_simp; (try with_reducible rfl)
              simp only [List.getElem_toArray, List.getElem_cons_succ, List.getElem_cons_zero, Act.put, List.setIfInBounds_toArray, List.set_cons_zero, List.set_cons_succ]
              refine wpAnyH_take (i := 19) (v := ?_) rfl (by kernel_rfl) (by kernel_rfl) (by kernel_rfl) (fun _ _ _ h => h) (Or.inl ⟨by rfl, ?_⟩) (by assumption) ?_
              rotate_left
              · intro w hSw; (try dsimp only at hSw); obtain ⟨⟨p0, p1⟩, ⟨g0, g1, g2, g3, g4, g5, g6, g7⟩, _, _, _⟩ := AT.out w hSw; go_simp; (try with_reducible rfl)
              simp only [List.getElem_toArray, List.getElem_cons_succ, List.getElem_cons_zero, Act.put, List.setIfInBounds_toArray, List.set_cons_zero, List.set_cons_succ]
              refine wpAnyH_take (i := 20) (v := ?_) rfl (by kernel_rfl) (by kernel_rfl) (by kernel_rfl) (fun _ _ _ h => h) (Or.inl ⟨by rfl, ?_⟩) (by assumption) ?_
              rotate_left
              · intro w hSw; (try dsimp only at hSw); obtain ⟨⟨p0, p1⟩, ⟨g0, g1, g2, g3, g4, g5, g6, g7⟩, _, _, _⟩ := AT.out w hSw; go_simp; (try with_reducible rfl)
              simp only [List.getElem_toArray, List.getElem_cons_succ, List.getElem_cons_zero, Act.put, List.setIfInBounds_toArray, List.set_cons_zero, List.set_cons_succ]
              refine wpAnyH_take (i := 21) (v := ?_) rfl (by kernel_rfl) (by kernel_rfl) (by kernel_rfl) (fun _ _ _ h => h) (Or.inl ⟨by rfl, ?_⟩) (by assumption) ?_
              rotate_left
              · intro w hSw; (try dsimp only at hSw); obtain ⟨⟨p0, p1⟩, ⟨g0, g1, g2, g3, g4, g5, g6, g7⟩, _, _, _⟩ := AT.out w hSw; go_simp; (try with_reducible rfl)
              simp only [List.getElem_toArray, List.getElem_cons_succ, List.getElem_cons_zero, Act.put, List.setIfInBounds_toArray, List.set_cons_zero, List.set_cons_succ]
              refine wpAnyH_take (i := 22) (v := ?_) rfl (by kernel_rfl) (by kernel_rfl) (by kernel_rfl) (fun _ _ _ h => h) (Or.inl ⟨by rfl, ?_⟩) (by assumption) ?_
              rotate_left
              · intro w hSw; (try dsimp only at hSw); obtain ⟨⟨p0, p1⟩, ⟨g0, g1, g2, g3, g4, g5, g6, g7⟩, _, _, _⟩ := AT.out w hSw; go_simp; (try with_reducible rfl)
              simp only [List.getElem_toArray, List.getElem_cons_succ, List.getElem_cons_zero, Act.put, List.setIfInBounds_toArray, List.set_cons_zero, List.set_cons_succ]
              refine wpAnyH_take (i := 23) (v := ?_) rfl (by kernel_rfl) (by kernel_rfl) (by kernel_rfl) (fun _ _ _ h => h) (Or.inl ⟨by rfl, ?_⟩) (by assumption) ?_
              rotate_left
              · intro w hSw; (try dsimp only at hSw); obtain ⟨⟨p0, p1⟩, ⟨g0, g1, g2, g3, g4, g5, g6, g7⟩, _, _, _⟩ := AT.out w hSw; go_simp; (try with_reducible rfl)
              simp only [List.getElem_toArray, List.getElem_cons_succ, List.getElem_cons_zero, Act.put, List.setIfInBounds_toArray, List.set_cons_zero, List.set_cons_succ]
              refine wpAnyH_take (i := 24) (v := ?_) rfl (by kernel_rfl) (by kernel_rfl) (by kernel_rfl) (fun _ _ _ h => h) (Or.inl ⟨by rfl, ?_⟩) (by assumption) ?_
              rotate_left
              · intro w hSw; (try dsimp only at hSw); obtain ⟨⟨p0, p1⟩, ⟨g0, g1, g2, g3, g4, g5, g6, g7⟩, _, _, _⟩ := AT.out w hSw; go_simp; (try with_reducible rfl)
              try simp only [List.getElem_toArray, List.getElem_cons_succ, List.getElem_cons_zero, Act.put, List.setIfInBounds_toArray, List.set_cons_zero, List.set_cons_succ]
              refine wpAnyH_done (by kernel_rfl) ?_ _
              obtain ⟨⟨j0, j1⟩, ⟨k0, k1, k2, k3, k4, k5, k6, k7⟩, ⟨u0, u1, l0, l1⟩, lf, _⟩ := AT.out _ B7.out
              go_wp2_with fail
              refine bodyPost_ret (v := .tuple #[.agg #[.slice a L.length c, .slice a' S.length c'], .int .i64 15]) ?_ rfl ⟨_, by rw [RE.out], ?_, ?_⟩
              · simp [results, Tryz.f26, go_sem, l0, l1]
              · rw [RR.out]
                exact ⟨a, c, a', c', rfl, OW1.out.below (((BB.out _ B7.out).setCell (by first | omega | (simp; omega) | simp) _).setCell (by first | omega | (simp; omega) | simp) _), OW2.out.below (((BB.out _ B7.out).setCell (by first | omega | (simp; omega) | simp) _).setCell (by first | omega | (simp; omega) | simp) _)⟩
              · exact ((BB.out _ B7.out).setCell (by first | omega | (simp; omega) | simp) _).setCell (by first | omega | (simp; omega) | simp) _
            · have h12' : (L.length : Int) < 12 := by omega
              have RE : Hid (se = 0) := Lib.hid (by rw [SE.out, if_neg hor, if_neg (by decide), if_neg h12])
              have RR : Hid (sr = ⟨L ++ [⟨ac, ea, false, eb, ec, 1, 0, 0, ⟨#[]⟩, ⟨#[]⟩, ⟨#[]⟩, ⟨#[]⟩, ⟨#[]⟩⟩], S⟩) := Lib.hid (by rw [SR.out, RE.out, if_pos rfl])
              clear SE SR
              go_enter Tryz.func26, Tryz.ntmps26
              go_wp2_with (go_at_call 49; (with_reducible refine (BY.out).mono ?_); rintro z w2 ⟨rfl, b2⟩; have B2 := Lib.hid b2; clear b2; obtain ⟨⟨h0, h1⟩, ⟨i0, i1, i2, i3, i4, i5, i6, i7⟩, _, _, _⟩ := AT.out _ B2.out)
              refine wp_region_held_drew (S := fun w' => Below (w.heap.size + 3) (((w.alloc (.cells #[.slice a L.length c, .slice a' S.length c'] 25)).alloc (.cells #[.int .i64 kd, .int .i64 ac, .int .i64 pu, .int .i64 t, .int .i64 nu, .string ea, .string eb, .string ec] 46)).alloc (.cells #[.slice none 0 0, .slice none 0 0] 25)) w') (by kernel_rfl) ?_ (fun hHeld0 => ?_)
              · exact below_drew (BA.out _ B2.out)
              refine wpAnyH_take (i := 0) (v := ?_) rfl (by kernel_rfl) (by kernel_rfl) (by kernel_rfl) (fun _ _ _ h => h) (Or.inl ⟨by rfl, ?_⟩) (by assumption) ?_
              rotate_left
              · intro w hSw; (try dsimp only at hSw); obtain ⟨⟨p0, p1⟩, ⟨g0, g1, g2, g3, g4, g5, g6, g7⟩, _, _, _⟩ := AT.out w hSw; go_simp; (try with_reducible rfl)
              simp only [List.getElem_toArray, List.getElem_cons_zero, Act.put, List.setIfInBounds_toArray, List.set_cons_zero, List.set_cons_succ]
              refine wpAnyH_take (i := 1) (v := ?_) rfl (by kernel_rfl) (by kernel_rfl) (by kernel_rfl) (fun _ _ _ h => h) (Or.inl ⟨by rfl, ?_⟩) (by assumption) ?_
              rotate_left
              · intro w hSw; (try dsimp only at hSw); obtain ⟨⟨p0, p1⟩, ⟨g0, g1, g2, g3, g4, g5, g6, g7⟩, _, _, _⟩ := AT.out w hSw; go_simp; (try with_reducible rfl)
              simp only [List.getElem_toArray, List.getElem_cons_succ, List.getElem_cons_zero, Act.put, List.setIfInBounds_toArray, List.set_cons_zero, List.set_cons_succ]
              refine wpAnyH_ready (rs := [2]) (by kernel_rfl) (by simp) ?_
              refine AllReadyH.cons rfl (fun K hK => ?_) AllReadyH.nil
              go_simp
              (go_at_call 45; (refine (ON.out _ (below_drew (BA.out _ B2.out))).mono ?_); rintro z w5 ⟨rfl, b5⟩; have B5 := Lib.hid b5; clear b5)
              refine hK.out _ _ ?_ (fun hHeld1 => ?_)
              · exact B5.out
              clear hK K hHeld0
              try simp only [List.getElem_toArray, List.getElem_cons_succ, List.getElem_cons_zero, Act.put, List.setIfInBounds_toArray, List.set_cons_zero, List.set_cons_succ]
              refine wpAnyH_take (i := 3) (v := ?_) rfl (by kernel_rfl) (by kernel_rfl) (by kernel_rfl) (fun _ _ _ h => h) (Or.inl ⟨by rfl, ?_⟩) (by assumption) ?_
              rotate_left
              · intro w hSw; (try dsimp only at hSw); obtain ⟨⟨p0, p1⟩, ⟨g0, g1, g2, g3, g4, g5, g6, g7⟩, _, _, _⟩ := AT.out w hSw; go_simp; (try with_reducible rfl)
              simp only [List.getElem_toArray, List.getElem_cons_succ, List.getElem_cons_zero, Act.put, List.setIfInBounds_toArray, List.set_cons_zero, List.set_cons_succ]
              refine wpAnyH_take (i := 4) (v := ?_) rfl (by kernel_rfl) (by kernel_rfl) (by kernel_rfl) (fun _ _ _ h => h) (Or.inl ⟨by rfl, ?_⟩) (by assumption) ?_
              rotate_left
              · intro w hSw; (try dsimp only at hSw); obtain ⟨⟨p0, p1⟩, ⟨g0, g1, g2, g3, g4, g5, g6, g7⟩, _, _, _⟩ := AT.out w hSw; go_simp; (try with_reducible rfl)
              simp only [List.getElem_toArray, List.getElem_cons_succ, List.getElem_cons_zero, Act.put, List.setIfInBounds_toArray, List.set_cons_zero, List.set_cons_succ]
              refine wpAnyH_take (i := 5) (v := ?_) rfl (by kernel_rfl) (by kernel_rfl) (by kernel_rfl) (fun _ _ _ h => h) (Or.inl ⟨by rfl, ?_⟩) (by assumption) ?_
              rotate_left
              · intro w hSw; (try dsimp only at hSw); obtain ⟨⟨p0, p1⟩, ⟨g0, g1, g2, g3, g4, g5, g6, g7⟩, _, _, _⟩ := AT.out w hSw; go_simp; (try with_reducible rfl)
              simp only [List.getElem_toArray, List.getElem_cons_succ, List.getElem_cons_zero, Act.put, List.setIfInBounds_toArray, List.set_cons_zero, List.set_cons_succ]
              refine wpAnyH_take (i := 6) (v := ?_) rfl (by kernel_rfl) (by kernel_rfl) (by kernel_rfl) (fun _ _ _ h => h) (Or.inl ⟨by rfl, ?_⟩) (by assumption) ?_
              rotate_left
              · intro w hSw; (try dsimp only at hSw); obtain ⟨⟨p0, p1⟩, ⟨g0, g1, g2, g3, g4, g5, g6, g7⟩, _, _, _⟩ := AT.out w hSw; go_simp; (try with_reducible rfl)
              simp only [List.getElem_toArray, List.getElem_cons_succ, List.getElem_cons_zero, Act.put, List.setIfInBounds_toArray, List.set_cons_zero, List.set_cons_succ]
              refine wpAnyH_take (i := 7) (v := ?_) rfl (by kernel_rfl) (by kernel_rfl) (by kernel_rfl) (fun _ _ _ h => h) (Or.inl ⟨by rfl, ?_⟩) (by assumption) ?_
              rotate_left
              · intro w hSw; (try dsimp only at hSw); obtain ⟨⟨p0, p1⟩, ⟨g0, g1, g2, g3, g4, g5, g6, g7⟩, _, _, _⟩ := AT.out w hSw; go_simp; (try with_reducible rfl)
              simp only [List.getElem_toArray, List.getElem_cons_succ, List.getElem_cons_zero, Act.put, List.setIfInBounds_toArray, List.set_cons_zero, List.set_cons_succ]
              refine wpAnyH_take (i := 8) (v := ?_) rfl (by kernel_rfl) (by kernel_rfl) (by kernel_rfl) (fun _ _ _ h => h) (Or.inl ⟨by rfl, ?_⟩) (by assumption) ?_
              rotate_left
              · intro w hSw; (try dsimp only at hSw); obtain ⟨⟨p0, p1⟩, ⟨g0, g1, g2, g3, g4, g5, g6, g7⟩, _, _, _⟩ := AT.out w hSw; go_simp; (try with_reducible rfl)
              simp only [List.getElem_toArray, List.getElem_cons_succ, List.getElem_cons_zero, Act.put, List.setIfInBounds_toArray, List.set_cons_zero, List.set_cons_succ]
              refine wpAnyH_ready (rs := [9]) (by kernel_rfl) (by simp) ?_
              refine AllReadyH.cons rfl (fun K hK => ?_) AllReadyH.nil
              go_simp
              (go_at_call 46; (refine (KY.out _).mono ?_); rintro z w6 ⟨rfl, q6⟩; subst q6)
              refine hK.out _ _ ?_ (fun hHeld2 => ?_)
              · exact B5.out
              clear hK K hHeld1
              try simp only [List.getElem_toArray, List.getElem_cons_succ, List.getElem_cons_zero, Act.put, List.setIfInBounds_toArray, List.set_cons_zero, List.set_cons_succ]
              refine wpAnyH_take (i := 10) (v := ?_) rfl (by kernel_rfl) (by kernel_rfl) (by kernel_rfl) (fun _ _ _ h => h) (Or.inl ⟨by rfl, ?_⟩) (by assumption) ?_
              rotate_left
              · intro w hSw; (try dsimp only at hSw); obtain ⟨⟨p0, p1⟩, ⟨g0, g1, g2, g3, g4, g5, g6, g7⟩, _, _, _⟩ := AT.out w hSw; go_simp; (try with_reducible rfl)
              simp only [List.getElem_toArray, List.getElem_cons_succ, List.getElem_cons_zero, Act.put, List.setIfInBounds_toArray, List.set_cons_zero, List.set_cons_succ]
              refine wpAnyH_take (i := 11) (v := ?_) rfl (by kernel_rfl) (by kernel_rfl) (by kernel_rfl) (fun _ _ _ h => h) (Or.inl ⟨by rfl, ?_⟩) (by assumption) ?_
              rotate_left
              · intro w hSw; (try dsimp only at hSw); obtain ⟨⟨p0, p1⟩, ⟨g0, g1, g2, g3, g4, g5, g6, g7⟩, _, _, _⟩ := AT.out w hSw; go_simp; (try with_reducible rfl)
              simp only [List.getElem_toArray, List.getElem_cons_succ, List.getElem_cons_zero, Act.put, List.setIfInBounds_toArray, List.set_cons_zero, List.set_cons_succ]
              refine wpAnyH_take (i := 12) (v := ?_) rfl (by kernel_rfl) (by kernel_rfl) (by kernel_rfl) (fun _ _ _ h => h) (Or.inl ⟨by rfl, ?_⟩) (by assumption) ?_
              rotate_left
              · intro w hSw; (try dsimp only at hSw); obtain ⟨⟨p0, p1⟩, ⟨g0, g1, g2, g3, g4, g5, g6, g7⟩, _, _, _⟩ := AT.out w hSw; go_simp; (try with_reducible rfl)
              simp only [List.getElem_toArray, List.getElem_cons_succ, List.getElem_cons_zero, Act.put, List.setIfInBounds_toArray, List.set_cons_zero, List.set_cons_succ]
              refine wpAnyH_take (i := 13) (v := ?_) rfl (by kernel_rfl) (by kernel_rfl) (by kernel_rfl) (fun _ _ _ h => h) (Or.inl ⟨by rfl, ?_⟩) (by assumption) ?_
              rotate_left
              · intro w hSw; (try dsimp only at hSw); obtain ⟨⟨p0, p1⟩, ⟨g0, g1, g2, g3, g4, g5, g6, g7⟩, _, _, _⟩ := AT.out w hSw; go_simp; (try with_reducible rfl)
              simp only [List.getElem_toArray, List.getElem_cons_succ, List.getElem_cons_zero, Act.put, List.setIfInBounds_toArray, List.set_cons_zero, List.set_cons_succ]
              refine wpAnyH_take (i := 14) (v := ?_) rfl (by kernel_rfl) (by kernel_rfl) (by kernel_rfl) (fun _ _ _ h => h) (Or.inl ⟨by rfl, ?_⟩) (by assumption) ?_
              rotate_left
              · intro w hSw; (try dsimp only at hSw); obtain ⟨⟨p0, p1⟩, ⟨g0, g1, g2, g3, g4, g5, g6, g7⟩, _, _, _⟩ := AT.out w hSw; go_simp; (try with_reducible rfl)
              simp only [List.getElem_toArray, List.getElem_cons_succ, List.getElem_cons_zero, Act.put, List.setIfInBounds_toArray, List.set_cons_zero, List.set_cons_succ]
              refine wpAnyH_take (i := 15) (v := ?_) rfl (by kernel_rfl) (by kernel_rfl) (by kernel_rfl) (fun _ _ _ h => h) (Or.inl ⟨by rfl, ?_⟩) (by assumption) ?_
              rotate_left
              · intro w hSw; (try dsimp only at hSw); obtain ⟨⟨p0, p1⟩, ⟨g0, g1, g2, g3, g4, g5, g6, g7⟩, _, _, _⟩ := AT.out w hSw; go_simp; (try with_reducible rfl)
              simp only [List.getElem_toArray, List.getElem_cons_succ, List.getElem_cons_zero, Act.put, List.setIfInBounds_toArray, List.set_cons_zero, List.set_cons_succ]
              refine wpAnyH_ready (rs := [16]) (by kernel_rfl) (by simp) ?_
              refine AllReadyH.cons rfl (fun K hK => ?_) AllReadyH.nil
              go_simp
              (go_at_call 50; (refine (NX.out _ B5.out).mono ?_); rintro z w7 ⟨rfl, b7⟩; have B7 := Lib.hid b7; clear b7)
              refine hK.out _ _ ?_ (fun hHeld3 => ?_)
              · exact B7.out
              clear hK K hHeld2
              try simp only [List.getElem_toArray, List.getElem_cons_succ, List.getElem_cons_zero, Act.put, List.setIfInBounds_toArray, List.set_cons_zero, List.set_cons_succ]
              refine wpAnyH_take (i := 17) (v := ?_) rfl (by kernel_rfl) (by kernel_rfl) (by kernel_rfl) (fun _ _ _ h => h) (Or.inl ⟨by rfl, ?_⟩) (by assumption) ?_
              rotate_left
              · intro w hSw; (try dsimp only at hSw); obtain ⟨⟨p0, p1⟩, ⟨g0, g1, g2, g3, g4, g5, g6, g7⟩, _, _, _⟩ := AT.out w hSw; go_simp; (try with_reducible rfl)
              simp only [List.getElem_toArray, List.getElem_cons_succ, List.getElem_cons_zero, Act.put, List.setIfInBounds_toArray, List.set_cons_zero, List.set_cons_succ]
              refine wpAnyH_take (i := 18) (v := ?_) rfl (by kernel_rfl) (by kernel_rfl) (by kernel_rfl) (fun _ _ _ h => h) (Or.inl ⟨by rfl, ?_⟩) (by assumption) ?_
              rotate_left
              · intro w hSw; (try dsimp only at hSw); obtain ⟨⟨p0, p1⟩, ⟨g0, g1, g2, g3, g4, g5, g6, g7⟩, _, _, _⟩ := AT.out w hSw; go_simp; (try with_reducible rfl)
              simp only [List.getElem_toArray, List.getElem_cons_succ, List.getElem_cons_zero, Act.put, List.setIfInBounds_toArray, List.set_cons_zero, List.set_cons_succ]
              refine wpAnyH_take (i := 19) (v := ?_) rfl (by kernel_rfl) (by kernel_rfl) (by kernel_rfl) (fun _ _ _ h => h) (Or.inl ⟨by rfl, ?_⟩) (by assumption) ?_
              rotate_left
              · intro w hSw; (try dsimp only at hSw); obtain ⟨⟨p0, p1⟩, ⟨g0, g1, g2, g3, g4, g5, g6, g7⟩, _, _, _⟩ := AT.out w hSw; go_simp; (try with_reducible rfl)
              simp only [List.getElem_toArray, List.getElem_cons_succ, List.getElem_cons_zero, Act.put, List.setIfInBounds_toArray, List.set_cons_zero, List.set_cons_succ]
              refine wpAnyH_take (i := 20) (v := ?_) rfl (by kernel_rfl) (by kernel_rfl) (by kernel_rfl) (fun _ _ _ h => h) (Or.inl ⟨by rfl, ?_⟩) (by assumption) ?_
              rotate_left
              · intro w hSw; (try dsimp only at hSw); obtain ⟨⟨p0, p1⟩, ⟨g0, g1, g2, g3, g4, g5, g6, g7⟩, _, _, _⟩ := AT.out w hSw; go_simp; (try with_reducible rfl)
              simp only [List.getElem_toArray, List.getElem_cons_succ, List.getElem_cons_zero, Act.put, List.setIfInBounds_toArray, List.set_cons_zero, List.set_cons_succ]
              refine wpAnyH_take (i := 21) (v := ?_) rfl (by kernel_rfl) (by kernel_rfl) (by kernel_rfl) (fun _ _ _ h => h) (Or.inl ⟨by rfl, ?_⟩) (by assumption) ?_
              rotate_left
              · intro w hSw; (try dsimp only at hSw); obtain ⟨⟨p0, p1⟩, ⟨g0, g1, g2, g3, g4, g5, g6, g7⟩, _, _, _⟩ := AT.out w hSw; go_simp; (try with_reducible rfl)
              simp only [List.getElem_toArray, List.getElem_cons_succ, List.getElem_cons_zero, Act.put, List.setIfInBounds_toArray, List.set_cons_zero, List.set_cons_succ]
              refine wpAnyH_take (i := 22) (v := ?_) rfl (by kernel_rfl) (by kernel_rfl) (by kernel_rfl) (fun _ _ _ h => h) (Or.inl ⟨by rfl, ?_⟩) (by assumption) ?_
              rotate_left
              · intro w hSw; (try dsimp only at hSw); obtain ⟨⟨p0, p1⟩, ⟨g0, g1, g2, g3, g4, g5, g6, g7⟩, _, _, _⟩ := AT.out w hSw; go_simp; (try with_reducible rfl)
              simp only [List.getElem_toArray, List.getElem_cons_succ, List.getElem_cons_zero, Act.put, List.setIfInBounds_toArray, List.set_cons_zero, List.set_cons_succ]
              refine wpAnyH_take (i := 23) (v := ?_) rfl (by kernel_rfl) (by kernel_rfl) (by kernel_rfl) (fun _ _ _ h => h) (Or.inl ⟨by rfl, ?_⟩) (by assumption) ?_
              rotate_left
              · intro w hSw; (try dsimp only at hSw); obtain ⟨⟨p0, p1⟩, ⟨g0, g1, g2, g3, g4, g5, g6, g7⟩, _, _, _⟩ := AT.out w hSw; go_simp; (try with_reducible rfl)
              simp only [List.getElem_toArray, List.getElem_cons_succ, List.getElem_cons_zero, Act.put, List.setIfInBounds_toArray, List.set_cons_zero, List.set_cons_succ]
              refine wpAnyH_take (i := 24) (v := ?_) rfl (by kernel_rfl) (by kernel_rfl) (by kernel_rfl) (fun _ _ _ h => h) (Or.inl ⟨by rfl, ?_⟩) (by assumption) ?_
              rotate_left
              · intro w hSw; (try dsimp only at hSw); obtain ⟨⟨p0, p1⟩, ⟨g0, g1, g2, g3, g4, g5, g6, g7⟩, _, _, _⟩ := AT.out w hSw; go_simp; (try with_reducible rfl)
              try simp only [List.getElem_toArray, List.getElem_cons_succ, List.getElem_cons_zero, Act.put, List.setIfInBounds_toArray, List.set_cons_zero, List.set_cons_succ]
              refine wpAnyH_done (by kernel_rfl) ?_ _
              obtain ⟨⟨j0, j1⟩, ⟨k0, k1, k2, k3, k4, k5, k6, k7⟩, _, _, _⟩ := AT.out _ B7.out
              go_wp2_with fail
              have s7 := SZ.out _ B7.out
              have bx0 := B7.out.alloc s7 (.cells #[.int .i64 ac, .string ea, .bool false, .string eb, .string ec, .int .i64 1, .int .i64 0, .int .i64 0, .string ⟨#[]⟩, .string ⟨#[]⟩, .string ⟨#[]⟩, .string ⟨#[]⟩, .string ⟨#[]⟩] 34)
              have bx : Below (w.heap.size + 3) (((w.alloc (.cells #[.slice a L.length c, .slice a' S.length c'] 25)).alloc (.cells #[.int .i64 kd, .int .i64 ac, .int .i64 pu, .int .i64 t, .int .i64 nu, .string ea, .string eb, .string ec] 46)).alloc (.cells #[.slice none 0 0, .slice none 0 0] 25)) (w7.alloc (.cells #[.int .i64 ac, .string ea, .bool false, .string eb, .string ec, .int .i64 1, .int .i64 0, .int .i64 0, .string ⟨#[]⟩, .string ⟨#[]⟩, .string ⟨#[]⟩, .string ⟨#[]⟩, .string ⟨#[]⟩] 34)).drew := below_drew bx0
              have so : (w7.alloc (.cells #[.int .i64 ac, .string ea, .bool false, .string eb, .string ec, .int .i64 1, .int .i64 0, .int .i64 0, .string ⟨#[]⟩, .string ⟨#[]⟩, .string ⟨#[]⟩, .string ⟨#[]⟩, .string ⟨#[]⟩] 34)).heap.size = w7.heap.size + 1 := by simp
              have xa : Per.At (w7.alloc (.cells #[.int .i64 ac, .string ea, .bool false, .string eb, .string ec, .int .i64 1, .int .i64 0, .int .i64 0, .string ⟨#[]⟩, .string ⟨#[]⟩, .string ⟨#[]⟩, .string ⟨#[]⟩, .string ⟨#[]⟩] 34)).drew w7.heap.size (⟨ac, ea, false, eb, ec, 1, 0, 0, ⟨#[]⟩, ⟨#[]⟩, ⟨#[]⟩, ⟨#[]⟩, ⟨#[]⟩⟩ : Per.R) := Per.At.of_heap (heap_new w7 (.cells #[.int .i64 ac, .string ea, .bool false, .string eb, .string ec, .int .i64 1, .int .i64 0, .int .i64 0, .string ⟨#[]⟩, .string ⟨#[]⟩, .string ⟨#[]⟩, .string ⟨#[]⟩, .string ⟨#[]⟩] 34))
              have BX := Lib.hid bx
              have XA := Lib.hid xa
              have OW7 := Lib.hid (OW1.out.below (BB.out _ bx))
              clear bx bx0 xa
              refine wp_region_held_drew (S := fun w' => (w'.cell? ⟨w.heap.size, 0, none⟩ = some (.slice a L.length c) ∧ w'.cell? ⟨w.heap.size, 1, none⟩ = some (.slice a' S.length c')) ∧ Per.At w' w7.heap.size (⟨ac, ea, false, eb, ec, 1, 0, 0, ⟨#[]⟩, ⟨#[]⟩, ⟨#[]⟩, ⟨#[]⟩, ⟨#[]⟩⟩ : Per.R)) (by kernel_rfl) ?_ (fun hHeld0 => ?_)
              · exact ⟨(AT.out _ BX.out).p, XA.out⟩
              refine wpAnyH_take (i := 0) (v := ?_) rfl (by kernel_rfl) (by kernel_rfl) (by kernel_rfl) (fun _ _ _ h => h) (Or.inl ⟨by rfl, ?_⟩) (by assumption) ?_
              rotate_left
              · intro w hSw; (try dsimp only at hSw); obtain ⟨⟨p0, p1⟩, y0, y1, y2, y3, y4, y5, y6, y7, y8, y9, y10, y11, y12⟩ := hSw; go_simp; (try with_reducible rfl)
              simp only [List.getElem_toArray, List.getElem_cons_zero, Act.put, List.setIfInBounds_toArray, List.set_cons_zero, List.set_cons_succ]
              refine wpAnyH_take (i := 1) (v := ?_) rfl (by kernel_rfl) (by kernel_rfl) (by kernel_rfl) (fun _ _ _ h => h) (Or.inl ⟨by rfl, ?_⟩) (by assumption) ?_
              rotate_left
              · intro w hSw; (try dsimp only at hSw); obtain ⟨⟨p0, p1⟩, y0, y1, y2, y3, y4, y5, y6, y7, y8, y9, y10, y11, y12⟩ := hSw; go_simp; (try with_reducible rfl)
              simp only [List.getElem_toArray, List.getElem_cons_succ, List.getElem_cons_zero, Act.put, List.setIfInBounds_toArray, List.set_cons_zero, List.set_cons_succ]
              refine wpAnyH_take (i := 3) (v := ?_) rfl (by kernel_rfl) (by kernel_rfl) (by kernel_rfl) (fun _ _ _ h => h) (Or.inl ⟨by rfl, ?_⟩) (by assumption) ?_
              rotate_left
              · intro w hSw; (try dsimp only at hSw); obtain ⟨⟨p0, p1⟩, y0, y1, y2, y3, y4, y5, y6, y7, y8, y9, y10, y11, y12⟩ := hSw; go_simp; (try with_reducible rfl)
              simp only [List.getElem_toArray, List.getElem_cons_succ, List.getElem_cons_zero, Act.put, List.setIfInBounds_toArray, List.set_cons_zero, List.set_cons_succ]
              refine wpAnyH_take (i := 6) (v := ?_) rfl (by kernel_rfl) (by kernel_rfl) (by kernel_rfl) (fun _ _ _ h => h) (Or.inl ⟨by rfl, ?_⟩) (by assumption) ?_
              rotate_left
              · intro w hSw; (try dsimp only at hSw); obtain ⟨⟨p0, p1⟩, y0, y1, y2, y3, y4, y5, y6, y7, y8, y9, y10, y11, y12⟩ := hSw; go_simp; (try with_reducible rfl)
              simp only [List.getElem_toArray, List.getElem_cons_succ, List.getElem_cons_zero, Act.put, List.setIfInBounds_toArray, List.set_cons_zero, List.set_cons_succ]
              refine wpAnyH_take (i := 7) (v := ?_) rfl (by kernel_rfl) (by kernel_rfl) (by kernel_rfl) (fun _ _ _ h => h) (Or.inl ⟨by rfl, ?_⟩) (by assumption) ?_
              rotate_left
              · intro w hSw; (try dsimp only at hSw); obtain ⟨⟨p0, p1⟩, y0, y1, y2, y3, y4, y5, y6, y7, y8, y9, y10, y11, y12⟩ := hSw; go_simp; (try with_reducible rfl)
              simp only [List.getElem_toArray, List.getElem_cons_succ, List.getElem_cons_zero, Act.put, List.setIfInBounds_toArray, List.set_cons_zero, List.set_cons_succ]
              refine wpAnyH_ready (rs := [2, 4]) (by kernel_rfl) (by simp) ?_
              refine AllReadyH.cons rfl (fun K hK => ?_) (AllReadyH.cons rfl (fun K hK => ?_) AllReadyH.nil)
              · go_simp
                (go_at_call 51; (refine (CL.out _ BX.out).mono ?_); rintro z w9 ⟨a2, c2, rfl, q9, b9⟩)
                have s9 := b9.size
                have zz : (w7.alloc (.cells #[.int .i64 ac, .string ea, .bool false, .string eb, .string ec, .int .i64 1, .int .i64 0, .int .i64 0, .string ⟨#[]⟩, .string ⟨#[]⟩, .string ⟨#[]⟩, .string ⟨#[]⟩, .string ⟨#[]⟩] 34)).drew.heap.size = w7.heap.size + 1 := so
                rw [zz] at s9 q9 b9
                have B9 := Lib.hid (BX.out.trans (b9.mono (by omega)))
                have X9 := Lib.hid (XA.out.below b9 (Nat.lt_succ_self _))
                refine hK.out _ _ ?_ (fun hHeld1 => ?_)
                · exact ⟨(AT.out _ B9.out).p, X9.out⟩
                clear hK K
                try simp only [List.getElem_toArray, List.getElem_cons_succ, List.getElem_cons_zero, Act.put, List.setIfInBounds_toArray, List.set_cons_zero, List.set_cons_succ]
                have b10 : Below w9.heap.size w9 (w9.alloc (.cells #[.int .i64 ac, .string ea, .bool false, .string eb, .string ec, .int .i64 1, .int .i64 0, .int .i64 0, .string ⟨#[]⟩, .string ⟨#[]⟩, .string ⟨#[]⟩, .string ⟨#[]⟩, .string ⟨#[]⟩] 34)) := (Below.refl _ _).alloc (Nat.le_refl _) _
                have s10 : (w9.alloc (.cells #[.int .i64 ac, .string ea, .bool false, .string eb, .string ec, .int .i64 1, .int .i64 0, .int .i64 0, .string ⟨#[]⟩, .string ⟨#[]⟩, .string ⟨#[]⟩, .string ⟨#[]⟩, .string ⟨#[]⟩] 34)).heap.size = w9.heap.size + 1 := by simp
                refine wpAnyH_ready (rs := [4]) (by kernel_rfl) (by simp) ?_
                refine AllReadyH.cons rfl (fun K hK => ?_) AllReadyH.nil
                go_simp
                refine hK.out _ _ ?_ (fun hHeld2 => ?_)
                · exact ⟨(AT.out _ (B9.out.trans (b10.mono (by omega)))).p, X9.out.below b10 (by omega)⟩
                clear hK K
                try simp only [List.getElem_toArray, List.getElem_cons_succ, List.getElem_cons_zero, Act.put, List.setIfInBounds_toArray, List.set_cons_zero, List.set_cons_succ]
                obtain ⟨a11, c11, w11, ra, o11, g11⟩ := Per.push (q := w9.heap.size) (⟨ac, ea, false, eb, ec, 1, 0, 0, ⟨#[]⟩, ⟨#[]⟩, ⟨#[]⟩, ⟨#[]⟩, ⟨#[]⟩⟩ : Per.R) (q9.below b10) (by omega) (by omega) (heap_new w9 _) 22
                have B11 := Lib.hid ((B9.out.trans (b10.mono (by omega))).grown g11 (by omega) (fun k hk => by have := (World.ownsRow.lt (q9.below b10) k hk).1; omega))
                have X11 : Hid (Per.At w11 w7.heap.size (⟨ac, ea, false, eb, ec, 1, 0, 0, ⟨#[]⟩, ⟨#[]⟩, ⟨#[]⟩, ⟨#[]⟩, ⟨#[]⟩⟩ : Per.R)) := Lib.hid ((X9.out.below b10 (by omega)).below ((Below.refl (w7.heap.size + 1) _).grown g11 (by omega) (fun k hk => by have := (World.ownsRow.lt (q9.below b10) k hk).1; omega)) (Nat.lt_succ_self _))
                have RA := Lib.hid ra
                have O11 := Lib.hid o11
                clear ra o11 g11
                refine wpAnyH_ready (rs := [5]) (by kernel_rfl) (by simp) ?_
                refine AllReadyH.cons rfl (fun K hK => ?_) AllReadyH.nil
                refine step_append_at rfl (.tmp 62) (.tmp 64) 22 rfl _ _ _ (by simp [Act.eval]) (by simp [Act.eval]) _ RA.out ?_
                refine hK.out _ _ ?_ (fun hHeld5 => ?_)
                · exact ⟨(AT.out _ B11.out).p, X11.out⟩
                clear hK K
                try simp only [List.getElem_toArray, List.getElem_cons_succ, List.getElem_cons_zero, Act.put, List.setIfInBounds_toArray, List.set_cons_zero, List.set_cons_succ]
                refine wpAnyH_take (i := 8) (v := ?_) rfl (by kernel_rfl) (by kernel_rfl) (by kernel_rfl) (fun _ _ _ h => h) (Or.inl ⟨by rfl, ?_⟩) (by assumption) ?_
                rotate_left
                · intro w hSw; (try dsimp only at hSw); go_simp; (try with_reducible rfl)
                simp only [List.getElem_toArray, List.getElem_cons_succ, List.getElem_cons_zero, Act.put, List.setIfInBounds_toArray, List.set_cons_zero, List.set_cons_succ]
                obtain ⟨⟨p0, p1⟩, _, ⟨f0, f1, r0, r1⟩, rf, _⟩ := AT.out _ B11.out
                refine wpAnyH_ready (rs := [9]) (by kernel_rfl) (by simp) ?_
                refine AllReadyH.cons rfl (fun K hK => ?_) AllReadyH.nil
                go_simp
                refine hK.out _ _ ?_ (fun hHeld6 => ?_)
                · exact ⟨⟨(cell_far (by omega)).trans ((cell_far (by omega)).trans p0), (cell_far (by omega)).trans ((cell_far (by omega)).trans p1)⟩, (X11.out.set (by omega) _).set (by omega) _⟩
                clear hK K
                try simp only [List.getElem_toArray, List.getElem_cons_succ, List.getElem_cons_zero, Act.put, List.setIfInBounds_toArray, List.set_cons_zero, List.set_cons_succ]
                refine wpAnyH_take (i := 10) (v := ?_) rfl (by kernel_rfl) (by kernel_rfl) (by kernel_rfl) (fun _ _ _ h => h) (Or.inl ⟨by rfl, ?_⟩) (by assumption) ?_
                rotate_left
                · intro w hSw; (try dsimp only at hSw); go_simp; (try with_reducible rfl)
                try simp only [List.getElem_toArray, List.getElem_cons_succ, List.getElem_cons_zero, Act.put, List.setIfInBounds_toArray, List.set_cons_zero, List.set_cons_succ]
                refine wpAnyH_done (by kernel_rfl) ?_ _
                go_wp2_with fail
                refine bodyPost_ret (v := .tuple #[.agg #[.slice a11 (L.length + 1) c11, .slice a' S.length c'], .int .i64 0]) ?_ rfl ⟨_, by rw [RE.out], ?_, ?_⟩
                · simp [results, Tryz.f26, go_sem, r0, r1]
                · rw [RR.out]
                  refine ⟨a11, c11, a', c', by simp, ?_, OW2.out.below (((BB.out _ B11.out).setCell (by first | omega | (simp; omega) | simp) _).setCell (by first | omega | (simp; omega) | simp) _)⟩
                  exact ((O11.out.apart (by omega) _).apart (by omega) _).mono (by omega)
                · exact ((BB.out _ B11.out).setCell (by first | omega | (simp; omega) | simp) _).setCell (by first | omega | (simp; omega) | simp) _
              · go_simp
                have b90 := (Below.refl (w7.heap.size + 1) (w7.alloc (.cells #[.int .i64 ac, .string ea, .bool false, .string eb, .string ec, .int .i64 1, .int .i64 0, .int .i64 0, .string ⟨#[]⟩, .string ⟨#[]⟩, .string ⟨#[]⟩, .string ⟨#[]⟩, .string ⟨#[]⟩] 34))).alloc (by omega) (.cells #[.int .i64 ac, .string ea, .bool false, .string eb, .string ec, .int .i64 1, .int .i64 0, .int .i64 0, .string ⟨#[]⟩, .string ⟨#[]⟩, .string ⟨#[]⟩, .string ⟨#[]⟩, .string ⟨#[]⟩] 34)
                have b9 : Below (w7.heap.size + 1) (w7.alloc (.cells #[.int .i64 ac, .string ea, .bool false, .string eb, .string ec, .int .i64 1, .int .i64 0, .int .i64 0, .string ⟨#[]⟩, .string ⟨#[]⟩, .string ⟨#[]⟩, .string ⟨#[]⟩, .string ⟨#[]⟩] 34)).drew (((w7.alloc (.cells #[.int .i64 ac, .string ea, .bool false, .string eb, .string ec, .int .i64 1, .int .i64 0, .int .i64 0, .string ⟨#[]⟩, .string ⟨#[]⟩, .string ⟨#[]⟩, .string ⟨#[]⟩, .string ⟨#[]⟩] 34)).alloc (.cells #[.int .i64 ac, .string ea, .bool false, .string eb, .string ec, .int .i64 1, .int .i64 0, .int .i64 0, .string ⟨#[]⟩, .string ⟨#[]⟩, .string ⟨#[]⟩, .string ⟨#[]⟩, .string ⟨#[]⟩] 34)).drew) := ⟨b90.os, b90.tape, b90.output, b90.size, b90.block⟩
                have s9 : (((w7.alloc (.cells #[.int .i64 ac, .string ea, .bool false, .string eb, .string ec, .int .i64 1, .int .i64 0, .int .i64 0, .string ⟨#[]⟩, .string ⟨#[]⟩, .string ⟨#[]⟩, .string ⟨#[]⟩, .string ⟨#[]⟩] 34)).alloc (.cells #[.int .i64 ac, .string ea, .bool false, .string eb, .string ec, .int .i64 1, .int .i64 0, .int .i64 0, .string ⟨#[]⟩, .string ⟨#[]⟩, .string ⟨#[]⟩, .string ⟨#[]⟩, .string ⟨#[]⟩] 34)).drew).heap.size = w7.heap.size + 2 := by simp [World.drew]
                have B9 := Lib.hid (BX.out.trans (b9.mono (by omega)))
                have X9 := Lib.hid (XA.out.below b9 (Nat.lt_succ_self _))
                refine hK.out _ _ ?_ (fun hHeld1 => ?_)
                · exact ⟨(AT.out _ B9.out).p, X9.out⟩
                clear hK K
                try simp only [List.getElem_toArray, List.getElem_cons_succ, List.getElem_cons_zero, Act.put, List.setIfInBounds_toArray, List.set_cons_zero, List.set_cons_succ]
                refine wpAnyH_ready (rs := [2]) (by kernel_rfl) (by simp) ?_
                refine AllReadyH.cons rfl (fun K hK => ?_) AllReadyH.nil
                go_simp
                (go_at_call 51; (refine (CL.out _ B9.out).mono ?_); rintro z w10 ⟨a2, c2, rfl, q10, b10⟩)
                have s10 := b10.size
                rw [s9] at s10 q10 b10
                refine hK.out _ _ ?_ (fun hHeld2 => ?_)
                · exact ⟨(AT.out _ (B9.out.trans (b10.mono (by omega)))).p, X9.out.below b10 (by omega)⟩
                clear hK K
                try simp only [List.getElem_toArray, List.getElem_cons_succ, List.getElem_cons_zero, Act.put, List.setIfInBounds_toArray, List.set_cons_zero, List.set_cons_succ]
                obtain ⟨a11, c11, w11, ra, o11, g11⟩ := Per.push (q := (w7.heap.size + 1)) (⟨ac, ea, false, eb, ec, 1, 0, 0, ⟨#[]⟩, ⟨#[]⟩, ⟨#[]⟩, ⟨#[]⟩, ⟨#[]⟩⟩ : Per.R) q10 (by omega) (by omega) ((b10.block (w7.heap.size + 1) (by omega)).trans (by have h := heap_new (w7.alloc (.cells #[.int .i64 ac, .string ea, .bool false, .string eb, .string ec, .int .i64 1, .int .i64 0, .int .i64 0, .string ⟨#[]⟩, .string ⟨#[]⟩, .string ⟨#[]⟩, .string ⟨#[]⟩, .string ⟨#[]⟩] 34)) (.cells #[.int .i64 ac, .string ea, .bool false, .string eb, .string ec, .int .i64 1, .int .i64 0, .int .i64 0, .string ⟨#[]⟩, .string ⟨#[]⟩, .string ⟨#[]⟩, .string ⟨#[]⟩, .string ⟨#[]⟩] 34); rw [so] at h; exact h)) 22
                have B11 := Lib.hid ((B9.out.trans (b10.mono (by omega))).grown g11 (by omega) (fun k hk => by have := (World.ownsRow.lt q10 k hk).1; omega))
                have X11 : Hid (Per.At w11 w7.heap.size (⟨ac, ea, false, eb, ec, 1, 0, 0, ⟨#[]⟩, ⟨#[]⟩, ⟨#[]⟩, ⟨#[]⟩, ⟨#[]⟩⟩ : Per.R)) := Lib.hid ((X9.out.below b10 (by omega)).below ((Below.refl (w7.heap.size + 1) _).grown g11 (by omega) (fun k hk => by have := (World.ownsRow.lt q10 k hk).1; omega)) (Nat.lt_succ_self _))
                have RA := Lib.hid ra
                have O11 := Lib.hid o11
                clear ra o11 g11
                refine wpAnyH_ready (rs := [5]) (by kernel_rfl) (by simp) ?_
                refine AllReadyH.cons rfl (fun K hK => ?_) AllReadyH.nil
                refine step_append_at rfl (.tmp 62) (.tmp 64) 22 rfl _ _ _ (by simp [Act.eval]) (by simp [Act.eval]) _ RA.out ?_
                refine hK.out _ _ ?_ (fun hHeld5 => ?_)
                · exact ⟨(AT.out _ B11.out).p, X11.out⟩
                clear hK K
                try simp only [List.getElem_toArray, List.getElem_cons_succ, List.getElem_cons_zero, Act.put, List.setIfInBounds_toArray, List.set_cons_zero, List.set_cons_succ]
                refine wpAnyH_take (i := 8) (v := ?_) rfl (by kernel_rfl) (by kernel_rfl) (by kernel_rfl) (fun _ _ _ h => h) (Or.inl ⟨by rfl, ?_⟩) (by assumption) ?_
                rotate_left
                · intro w hSw; (try dsimp only at hSw); go_simp; (try with_reducible rfl)
                simp only [List.getElem_toArray, List.getElem_cons_succ, List.getElem_cons_zero, Act.put, List.setIfInBounds_toArray, List.set_cons_zero, List.set_cons_succ]
                obtain ⟨⟨p0, p1⟩, _, ⟨f0, f1, r0, r1⟩, rf, _⟩ := AT.out _ B11.out
                refine wpAnyH_ready (rs := [9]) (by kernel_rfl) (by simp) ?_
                refine AllReadyH.cons rfl (fun K hK => ?_) AllReadyH.nil
                go_simp
                refine hK.out _ _ ?_ (fun hHeld6 => ?_)
                · exact ⟨⟨(cell_far (by omega)).trans ((cell_far (by omega)).trans p0), (cell_far (by omega)).trans ((cell_far (by omega)).trans p1)⟩, (X11.out.set (by omega) _).set (by omega) _⟩
                clear hK K
                try simp only [List.getElem_toArray, List.getElem_cons_succ, List.getElem_cons_zero, Act.put, List.setIfInBounds_toArray, List.set_cons_zero, List.set_cons_succ]
                refine wpAnyH_take (i := 10) (v := ?_) rfl (by kernel_rfl) (by kernel_rfl) (by kernel_rfl) (fun _ _ _ h => h) (Or.inl ⟨by rfl, ?_⟩) (by assumption) ?_
                rotate_left
                · intro w hSw; (try dsimp only at hSw); go_simp; (try with_reducible rfl)
                try simp only [List.getElem_toArray, List.getElem_cons_succ, List.getElem_cons_zero, Act.put, List.setIfInBounds_toArray, List.set_cons_zero, List.set_cons_succ]
                refine wpAnyH_done (by kernel_rfl) ?_ _
                go_wp2_with fail
                refine bodyPost_ret (v := .tuple #[.agg #[.slice a11 (L.length + 1) c11, .slice a' S.length c'], .int .i64 0]) ?_ rfl ⟨_, by rw [RE.out], ?_, ?_⟩
                · simp [results, Tryz.f26, go_sem, r0, r1]
                · rw [RR.out]
                  refine ⟨a11, c11, a', c', by simp, ?_, OW2.out.below (((BB.out _ B11.out).setCell (by first | omega | (simp; omega) | simp) _).setCell (by first | omega | (simp; omega) | simp) _)⟩
                  exact ((O11.out.apart (by omega) _).apart (by omega) _).mono (by omega)
                · exact ((BB.out _ B11.out).setCell (by first | omega | (simp; omega) | simp) _).setCell (by first | omega | (simp; omega) | simp) _
          · skip
            have RE : Hid (se = 14) := Lib.hid (by rw [SE.out, if_neg hor, if_pos rfl])
            have RR : Hid (sr = ⟨L, S⟩) := Lib.hid (by rw [SR.out, RE.out, if_neg (by decide)])
            clear SE SR
            go_enter Tryz.func26, Tryz.ntmps26
            go_wp2_with (go_at_call 49; (with_reducible refine (BY.out).mono ?_); rintro z w2 ⟨rfl, b2⟩; have B2 := Lib.hid b2; clear b2; obtain ⟨⟨h0, h1⟩, ⟨i0, i1, i2, i3, i4, i5, i6, i7⟩, _, _, _⟩ := AT.out _ B2.out)
            refine wp_region_held_drew (S := fun w' => Below (w.heap.size + 3) (((w.alloc (.cells #[.slice a L.length c, .slice a' S.length c'] 25)).alloc (.cells #[.int .i64 kd, .int .i64 ac, .int .i64 pu, .int .i64 t, .int .i64 nu, .string ea, .string eb, .string ec] 46)).alloc (.cells #[.slice none 0 0, .slice none 0 0] 25)) w') (by kernel_rfl) ?_ (fun hHeld0 => ?_)
            · exact below_drew (BA.out _ B2.out)
            refine wpAnyH_take (i := 0) (v := ?_) rfl (by kernel_rfl) (by kernel_rfl) (by kernel_rfl) (fun _ _ _ h => h) (Or.inl ⟨by rfl, ?_⟩) (by assumption) ?_
            rotate_left
            · intro w hSw; (try dsimp only at hSw); obtain ⟨⟨p0, p1⟩, ⟨g0, g1, g2, g3, g4, g5, g6, g7⟩, _, _, _⟩ := AT.out w hSw; go_simp; (try with_reducible rfl)
            simp only [List.getElem_toArray, List.getElem_cons_zero, Act.put, List.setIfInBounds_toArray, List.set_cons_zero, List.set_cons_succ]
            refine wpAnyH_take (i := 1) (v := ?_) rfl (by kernel_rfl) (by kernel_rfl) (by kernel_rfl) (fun _ _ _ h => h) (Or.inl ⟨by rfl, ?_⟩) (by assumption) ?_
            rotate_left
            · intro w hSw; (try dsimp only at hSw); obtain ⟨⟨p0, p1⟩, ⟨g0, g1, g2, g3, g4, g5, g6, g7⟩, _, _, _⟩ := AT.out w hSw; go_simp; (try with_reducible rfl)
            simp only [List.getElem_toArray, List.getElem_cons_succ, List.getElem_cons_zero, Act.put, List.setIfInBounds_toArray, List.set_cons_zero, List.set_cons_succ]
            refine wpAnyH_ready (rs := [2]) (by kernel_rfl) (by simp) ?_
            refine AllReadyH.cons rfl (fun K hK => ?_) AllReadyH.nil
            go_simp
            (go_at_call 45; (refine (ON.out _ (below_drew (BA.out _ B2.out))).mono ?_); rintro z w5 ⟨rfl, b5⟩; have B5 := Lib.hid b5; clear b5)
            refine hK.out _ _ ?_ (fun hHeld1 => ?_)
            · exact B5.out
            clear hK K hHeld0
            try simp only [List.getElem_toArray, List.getElem_cons_succ, List.getElem_cons_zero, Act.put, List.setIfInBounds_toArray, List.set_cons_zero, List.set_cons_succ]
            refine wpAnyH_take (i := 3) (v := ?_) rfl (by kernel_rfl) (by kernel_rfl) (by kernel_rfl) (fun _ _ _ h => h) (Or.inl ⟨by rfl, ?_⟩) (by assumption) ?_
            rotate_left
            · intro w hSw; (try dsimp only at hSw); obtain ⟨⟨p0, p1⟩, ⟨g0, g1, g2, g3, g4, g5, g6, g7⟩, _, _, _⟩ := AT.out w hSw; go_simp; (try with_reducible rfl)
            simp only [List.getElem_toArray, List.getElem_cons_succ, List.getElem_cons_zero, Act.put, List.setIfInBounds_toArray, List.set_cons_zero, List.set_cons_succ]
            refine wpAnyH_take (i := 4) (v := ?_) rfl (by kernel_rfl) (by kernel_rfl) (by kernel_rfl) (fun _ _ _ h => h) (Or.inl ⟨by rfl, ?_⟩) (by assumption) ?_
            rotate_left
            · intro w hSw; (try dsimp only at hSw); obtain ⟨⟨p0, p1⟩, ⟨g0, g1, g2, g3, g4, g5, g6, g7⟩, _, _, _⟩ := AT.out w hSw; go_simp; (try with_reducible rfl)
            simp only [List.getElem_toArray, List.getElem_cons_succ, List.getElem_cons_zero, Act.put, List.setIfInBounds_toArray, List.set_cons_zero, List.set_cons_succ]
            refine wpAnyH_take (i := 5) (v := ?_) rfl (by kernel_rfl) (by kernel_rfl) (by kernel_rfl) (fun _ _ _ h => h) (Or.inl ⟨by rfl, ?_⟩) (by assumption) ?_
            rotate_left
            · intro w hSw; (try dsimp only at hSw); obtain ⟨⟨p0, p1⟩, ⟨g0, g1, g2, g3, g4, g5, g6, g7⟩, _, _, _⟩ := AT.out w hSw; go_simp; (try with_reducible rfl)
            simp only [List.getElem_toArray, List.getElem_cons_succ, List.getElem_cons_zero, Act.put, List.setIfInBounds_toArray, List.set_cons_zero, List.set_cons_succ]
            refine wpAnyH_take (i := 6) (v := ?_) rfl (by kernel_rfl) (by kernel_rfl) (by kernel_rfl) (fun _ _ _ h => h) (Or.inl ⟨by rfl, ?_⟩) (by assumption) ?_
            rotate_left
            · intro w hSw; (try dsimp only at hSw); obtain ⟨⟨p0, p1⟩, ⟨g0, g1, g2, g3, g4, g5, g6, g7⟩, _, _, _⟩ := AT.out w hSw; go_simp; (try with_reducible rfl)
            simp only [List.getElem_toArray, List.getElem_cons_succ, List.getElem_cons_zero, Act.put, List.setIfInBounds_toArray, List.set_cons_zero, List.set_cons_succ]
            refine wpAnyH_take (i := 7) (v := ?_) rfl (by kernel_rfl) (by kernel_rfl) (by kernel_rfl) (fun _ _ _ h => h) (Or.inl ⟨by rfl, ?_⟩) (by assumption) ?_
            rotate_left
            · intro w hSw; (try dsimp only at hSw); obtain ⟨⟨p0, p1⟩, ⟨g0, g1, g2, g3, g4, g5, g6, g7⟩, _, _, _⟩ := AT.out w hSw; go_simp; (try with_reducible rfl)
            simp only [List.getElem_toArray, List.getElem_cons_succ, List.getElem_cons_zero, Act.put, List.setIfInBounds_toArray, List.set_cons_zero, List.set_cons_succ]
            refine wpAnyH_take (i := 8) (v := ?_) rfl (by kernel_rfl) (by kernel_rfl) (by kernel_rfl) (fun _ _ _ h => h) (Or.inl ⟨by rfl, ?_⟩) (by assumption) ?_
            rotate_left
            · intro w hSw; (try dsimp only at hSw); obtain ⟨⟨p0, p1⟩, ⟨g0, g1, g2, g3, g4, g5, g6, g7⟩, _, _, _⟩ := AT.out w hSw; go_simp; (try with_reducible rfl)
            simp only [List.getElem_toArray, List.getElem_cons_succ, List.getElem_cons_zero, Act.put, List.setIfInBounds_toArray, List.set_cons_zero, List.set_cons_succ]
            refine wpAnyH_ready (rs := [9]) (by kernel_rfl) (by simp) ?_
            refine AllReadyH.cons rfl (fun K hK => ?_) AllReadyH.nil
            go_simp
            (go_at_call 46; (refine (KY.out _).mono ?_); rintro z w6 ⟨rfl, q6⟩; subst q6)
            refine hK.out _ _ ?_ (fun hHeld2 => ?_)
            · exact B5.out
            clear hK K hHeld1
            try simp only [List.getElem_toArray, List.getElem_cons_succ, List.getElem_cons_zero, Act.put, List.setIfInBounds_toArray, List.set_cons_zero, List.set_cons_succ]
            refine wpAnyH_take (i := 10) (v := ?_) rfl (by kernel_rfl) (by kernel_rfl) (by kernel_rfl) (fun _ _ _ h => h) (Or.inl ⟨by rfl, ?_⟩) (by assumption) ?_
            rotate_left
            · intro w hSw; (try dsimp only at hSw); obtain ⟨⟨p0, p1⟩, ⟨g0, g1, g2, g3, g4, g5, g6, g7⟩, _, _, _⟩ := AT.out w hSw; go_simp; (try with_reducible rfl)
            simp only [List.getElem_toArray, List.getElem_cons_succ, List.getElem_cons_zero, Act.put, List.setIfInBounds_toArray, List.set_cons_zero, List.set_cons_succ]
            refine wpAnyH_take (i := 11) (v := ?_) rfl (by kernel_rfl) (by kernel_rfl) (by kernel_rfl) (fun _ _ _ h => h) (Or.inl ⟨by rfl, ?_⟩) (by assumption) ?_
            rotate_left
            · intro w hSw; (try dsimp only at hSw); obtain ⟨⟨p0, p1⟩, ⟨g0, g1, g2, g3, g4, g5, g6, g7⟩, _, _, _⟩ := AT.out w hSw; go_simp; (try with_reducible rfl)
            simp only [List.getElem_toArray, List.getElem_cons_succ, List.getElem_cons_zero, Act.put, List.setIfInBounds_toArray, List.set_cons_zero, List.set_cons_succ]
            refine wpAnyH_take (i := 12) (v := ?_) rfl (by kernel_rfl) (by kernel_rfl) (by kernel_rfl) (fun _ _ _ h => h) (Or.inl ⟨by rfl, ?_⟩) (by assumption) ?_
            rotate_left
            · intro w hSw; (try dsimp only at hSw); obtain ⟨⟨p0, p1⟩, ⟨g0, g1, g2, g3, g4, g5, g6, g7⟩, _, _, _⟩ := AT.out w hSw; go_simp; (try with_reducible rfl)
            simp only [List.getElem_toArray, List.getElem_cons_succ, List.getElem_cons_zero, Act.put, List.setIfInBounds_toArray, List.set_cons_zero, List.set_cons_succ]
            refine wpAnyH_take (i := 13) (v := ?_) rfl (by kernel_rfl) (by kernel_rfl) (by kernel_rfl) (fun _ _ _ h => h) (Or.inl ⟨by rfl, ?_⟩) (by assumption) ?_
            rotate_left
            · intro w hSw; (try dsimp only at hSw); obtain ⟨⟨p0, p1⟩, ⟨g0, g1, g2, g3, g4, g5, g6, g7⟩, _, _, _⟩ := AT.out w hSw; go_simp; (try with_reducible rfl)
            simp only [List.getElem_toArray, List.getElem_cons_succ, List.getElem_cons_zero, Act.put, List.setIfInBounds_toArray, List.set_cons_zero, List.set_cons_succ]
            refine wpAnyH_take (i := 14) (v := ?_) rfl (by kernel_rfl) (by kernel_rfl) (by kernel_rfl) (fun _ _ _ h => h) (Or.inl ⟨by rfl, ?_⟩) (by assumption) ?_
            rotate_left
            · intro w hSw; (try dsimp only at hSw); obtain ⟨⟨p0, p1⟩, ⟨g0, g1, g2, g3, g4, g5, g6, g7⟩, _, _, _⟩ := AT.out w hSw; go_simp; (try with_reducible rfl)
            simp only [List.getElem_toArray, List.getElem_cons_succ, List.getElem_cons_zero, Act.put, List.setIfInBounds_toArray, List.set_cons_zero, List.set_cons_succ]
            refine wpAnyH_take (i := 15) (v := ?_) rfl (by kernel_rfl) (by kernel_rfl) (by kernel_rfl) (fun _ _ _ h => h) (Or.inl ⟨by rfl, ?_⟩) (by assumption) ?_
            rotate_left
            · intro w hSw; (try dsimp only at hSw); obtain ⟨⟨p0, p1⟩, ⟨g0, g1, g2, g3, g4, g5, g6, g7⟩, _, _, _⟩ := AT.out w hSw; go_simp; (try with_reducible rfl)
            simp only [List.getElem_toArray, List.getElem_cons_succ, List.getElem_cons_zero, Act.put, List.setIfInBounds_toArray, List.set_cons_zero, List.set_cons_succ]
            refine wpAnyH_ready (rs := [16]) (by kernel_rfl) (by simp) ?_
            refine AllReadyH.cons rfl (fun K hK => ?_) AllReadyH.nil
            go_simp
            (go_at_call 50; (refine (NX.out _ B5.out).mono ?_); rintro z w7 ⟨rfl, b7⟩; have B7 := Lib.hid b7; clear b7)
            refine hK.out _ _ ?_ (fun hHeld3 => ?_)
            · exact B7.out
            clear hK K hHeld2
            try simp only [List.getElem_toArray, List.getElem_cons_succ, List.getElem_cons_zero, Act.put, List.setIfInBounds_toArray, List.set_cons_zero, List.set_cons_succ]
            refine wpAnyH_take (i := 17) (v := ?_) rfl (by kernel_rfl) (by kernel_rfl) (by kernel_rfl) (fun _ _ _ h => h) (Or.inl ⟨by rfl, ?_⟩) (by assumption) ?_
            rotate_left
            · intro w hSw; (try dsimp only at hSw); obtain ⟨⟨p0, p1⟩, ⟨g0, g1, g2, g3, g4, g5, g6, g7⟩, _, _, _⟩ := AT.out w hSw; go_simp; (try with_reducible rfl)
            simp only [List.getElem_toArray, List.getElem_cons_succ, List.getElem_cons_zero, Act.put, List.setIfInBounds_toArray, List.set_cons_zero, List.set_cons_succ]
            refine wpAnyH_take (i := 18) (v := ?_) rfl (by kernel_rfl) (by kernel_rfl) (by kernel_rfl) (fun _ _ _ h => h) (Or.inl ⟨by rfl, ?_⟩) (by assumption) ?_
            rotate_left
            · intro w hSw; (try dsimp only at hSw); obtain ⟨⟨p0, p1⟩, ⟨g0, g1, g2, g3, g4, g5, g6, g7⟩, _, _, _⟩ := AT.out w hSw; go_simp; (try with_reducible rfl)
            simp only [List.getElem_toArray, List.getElem_cons_succ, List.getElem_cons_zero, Act.put, List.setIfInBounds_toArray, List.set_cons_zero, List.set_cons_succ]
            refine wpAnyH_take (i := 19) (v := ?_) rfl (by kernel_rfl) (by kernel_rfl) (by kernel_rfl) (fun _ _ _ h => h) (Or.inl ⟨by rfl, ?_⟩) (by assumption) ?_
            rotate_left
            · intro w hSw; (try dsimp only at hSw); obtain ⟨⟨p0, p1⟩, ⟨g0, g1, g2, g3, g4, g5, g6, g7⟩, _, _, _⟩ := AT.out w hSw; go_simp; (try with_reducible rfl)
            simp only [List.getElem_toArray, List.getElem_cons_succ, List.getElem_cons_zero, Act.put, List.setIfInBounds_toArray, List.set_cons_zero, List.set_cons_succ]
            refine wpAnyH_take (i := 20) (v := ?_) rfl (by kernel_rfl) (by kernel_rfl) (by kernel_rfl) (fun _ _ _ h => h) (Or.inl ⟨by rfl, ?_⟩) (by assumption) ?_
            rotate_left
            · intro w hSw; (try dsimp only at hSw); obtain ⟨⟨p0, p1⟩, ⟨g0, g1, g2, g3, g4, g5, g6, g7⟩, _, _, _⟩ := AT.out w hSw; go_simp; (try with_reducible rfl)
            simp only [List.getElem_toArray, List.getElem_cons_succ, List.getElem_cons_zero, Act.put, List.setIfInBounds_toArray, List.set_cons_zero, List.set_cons_succ]
            refine wpAnyH_take (i := 21) (v := ?_) rfl (by kernel_rfl) (by kernel_rfl) (by kernel_rfl) (fun _ _ _ h => h) (Or.inl ⟨by rfl, ?_⟩) (by assumption) ?_
            rotate_left
            · intro w hSw; (try dsimp only at hSw); obtain ⟨⟨p0, p1⟩, ⟨g0, g1, g2, g3, g4, g5, g6, g7⟩, _, _, _⟩ := AT.out w hSw; go_simp; (try with_reducible rfl)
            simp only [List.getElem_toArray, List.getElem_cons_succ, List.getElem_cons_zero, Act.put, List.setIfInBounds_toArray, List.set_cons_zero, List.set_cons_succ]
            refine wpAnyH_take (i := 22) (v := ?_) rfl (by kernel_rfl) (by kernel_rfl) (by kernel_rfl) (fun _ _ _ h => h) (Or.inl ⟨by rfl, ?_⟩) (by assumption) ?_
            rotate_left
            · intro w hSw; (try dsimp only at hSw); obtain ⟨⟨p0, p1⟩, ⟨g0, g1, g2, g3, g4, g5, g6, g7⟩, _, _, _⟩ := AT.out w hSw; go_simp; (try with_reducible rfl)
            simp only [List.getElem_toArray, List.getElem_cons_succ, List.getElem_cons_zero, Act.put, List.setIfInBounds_toArray, List.set_cons_zero, List.set_cons_succ]
            refine wpAnyH_take (i := 23) (v := ?_) rfl (by kernel_rfl) (by kernel_rfl) (by kernel_rfl) (fun _ _ _ h => h) (Or.inl ⟨by rfl, ?_⟩) (by assumption) ?_
            rotate_left
            · intro w hSw; (try dsimp only at hSw); obtain ⟨⟨p0, p1⟩, ⟨g0, g1, g2, g3, g4, g5, g6, g7⟩, _, _, _⟩ := AT.out w hSw; go_simp; (try with_reducible rfl)
            simp only [List.getElem_toArray, List.getElem_cons_succ, List.getElem_cons_zero, Act.put, List.setIfInBounds_toArray, List.set_cons_zero, List.set_cons_succ]
            refine wpAnyH_take (i := 24) (v := ?_) rfl (by kernel_rfl) (by kernel_rfl) (by kernel_rfl) (fun _ _ _ h => h) (Or.inl ⟨by rfl, ?_⟩) (by assumption) ?_
            rotate_left
            · intro w hSw; (try dsimp only at hSw); obtain ⟨⟨p0, p1⟩, ⟨g0, g1, g2, g3, g4, g5, g6, g7⟩, _, _, _⟩ := AT.out w hSw; go_simp; (try with_reducible rfl)
            try simp only [List.getElem_toArray, List.getElem_cons_succ, List.getElem_cons_zero, Act.put, List.setIfInBounds_toArray, List.set_cons_zero, List.set_cons_succ]
            refine wpAnyH_done (by kernel_rfl) ?_ _
            obtain ⟨⟨j0, j1⟩, ⟨k0, k1, k2, k3, k4, k5, k6, k7⟩, ⟨u0, u1, l0, l1⟩, lf, _⟩ := AT.out _ B7.out
            go_wp2_with fail
            refine bodyPost_ret (v := .tuple #[.agg #[.slice a L.length c, .slice a' S.length c'], .int .i64 14]) ?_ rfl ⟨_, by rw [RE.out], ?_, ?_⟩
            · simp [results, Tryz.f26, go_sem, l0, l1]
            · rw [RR.out]
              exact ⟨a, c, a', c', rfl, OW1.out.below (((BB.out _ B7.out).setCell (by first | omega | (simp; omega) | simp) _).setCell (by first | omega | (simp; omega) | simp) _), OW2.out.below (((BB.out _ B7.out).setCell (by first | omega | (simp; omega) | simp) _).setCell (by first | omega | (simp; omega) | simp) _)⟩
            · exact ((BB.out _ B7.out).setCell (by first | omega | (simp; omega) | simp) _).setCell (by first | omega | (simp; omega) | simp) _
      · have hne' : (ac != nx) = true := by simpa using hne
        have RE : Hid (se = 1) := Lib.hid (by rw [SE.out, if_pos (.inr (.inr (.inl hne)))])
        have RR : Hid (sr = ⟨L, S⟩) := Lib.hid (by rw [SR.out, RE.out, if_neg (by decide)])
        clear SE SR
        go_enter Tryz.func26, Tryz.ntmps26
        go_wp2_with (go_at_call 49; (with_reducible refine (BY.out).mono ?_); rintro z w2 ⟨rfl, b2⟩; have B2 := Lib.hid b2; clear b2; obtain ⟨⟨h0, h1⟩, ⟨i0, i1, i2, i3, i4, i5, i6, i7⟩, _, _, _⟩ := AT.out _ B2.out)
        refine wp_region_held_drew (S := fun w' => Below (w.heap.size + 3) (((w.alloc (.cells #[.slice a L.length c, .slice a' S.length c'] 25)).alloc (.cells #[.int .i64 kd, .int .i64 ac, .int .i64 pu, .int .i64 t, .int .i64 nu, .string ea, .string eb, .string ec] 46)).alloc (.cells #[.slice none 0 0, .slice none 0 0] 25)) w') (by kernel_rfl) ?_ (fun hHeld0 => ?_)
        · exact below_drew (BA.out _ B2.out)
        refine wpAnyH_take (i := 0) (v := ?_) rfl (by kernel_rfl) (by kernel_rfl) (by kernel_rfl) (fun _ _ _ h => h) (Or.inl ⟨by rfl, ?_⟩) (by assumption) ?_
        rotate_left
        · intro w hSw; (try dsimp only at hSw); obtain ⟨⟨p0, p1⟩, ⟨g0, g1, g2, g3, g4, g5, g6, g7⟩, _, _, _⟩ := AT.out w hSw; go_simp; (try with_reducible rfl)
        simp only [List.getElem_toArray, List.getElem_cons_zero, Act.put, List.setIfInBounds_toArray, List.set_cons_zero, List.set_cons_succ]
        refine wpAnyH_take (i := 1) (v := ?_) rfl (by kernel_rfl) (by kernel_rfl) (by kernel_rfl) (fun _ _ _ h => h) (Or.inl ⟨by rfl, ?_⟩) (by assumption) ?_
        rotate_left
        · intro w hSw; (try dsimp only at hSw); obtain ⟨⟨p0, p1⟩, ⟨g0, g1, g2, g3, g4, g5, g6, g7⟩, _, _, _⟩ := AT.out w hSw; go_simp; (try with_reducible rfl)
        simp only [List.getElem_toArray, List.getElem_cons_succ, List.getElem_cons_zero, Act.put, List.setIfInBounds_toArray, List.set_cons_zero, List.set_cons_succ]
        refine wpAnyH_ready (rs := [2]) (by kernel_rfl) (by simp) ?_
        refine AllReadyH.cons rfl (fun K hK => ?_) AllReadyH.nil
        go_simp
        (go_at_call 45; (refine (ON.out _ (below_drew (BA.out _ B2.out))).mono ?_); rintro z w5 ⟨rfl, b5⟩; have B5 := Lib.hid b5; clear b5)
        refine hK.out _ _ ?_ (fun hHeld1 => ?_)
        · exact B5.out
        clear hK K hHeld0
        try simp only [List.getElem_toArray, List.getElem_cons_succ, List.getElem_cons_zero, Act.put, List.setIfInBounds_toArray, List.set_cons_zero, List.set_cons_succ]
        refine wpAnyH_take (i := 3) (v := ?_) rfl (by kernel_rfl) (by kernel_rfl) (by kernel_rfl) (fun _ _ _ h => h) (Or.inl ⟨by rfl, ?_⟩) (by assumption) ?_
        rotate_left
        · intro w hSw; (try dsimp only at hSw); obtain ⟨⟨p0, p1⟩, ⟨g0, g1, g2, g3, g4, g5, g6, g7⟩, _, _, _⟩ := AT.out w hSw; go_simp; (try with_reducible rfl)
        simp only [List.getElem_toArray, List.getElem_cons_succ, List.getElem_cons_zero, Act.put, List.setIfInBounds_toArray, List.set_cons_zero, List.set_cons_succ]
        refine wpAnyH_take (i := 4) (v := ?_) rfl (by kernel_rfl) (by kernel_rfl) (by kernel_rfl) (fun _ _ _ h => h) (Or.inl ⟨by rfl, ?_⟩) (by assumption) ?_
        rotate_left
        · intro w hSw; (try dsimp only at hSw); obtain ⟨⟨p0, p1⟩, ⟨g0, g1, g2, g3, g4, g5, g6, g7⟩, _, _, _⟩ := AT.out w hSw; go_simp; (try with_reducible rfl)
        simp only [List.getElem_toArray, List.getElem_cons_succ, List.getElem_cons_zero, Act.put, List.setIfInBounds_toArray, List.set_cons_zero, List.set_cons_succ]
        refine wpAnyH_take (i := 5) (v := ?_) rfl (by kernel_rfl) (by kernel_rfl) (by kernel_rfl) (fun _ _ _ h => h) (Or.inl ⟨by rfl, ?_⟩) (by assumption) ?_
        rotate_left
        · intro w hSw; (try dsimp only at hSw); obtain ⟨⟨p0, p1⟩, ⟨g0, g1, g2, g3, g4, g5, g6, g7⟩, _, _, _⟩ := AT.out w hSw; go_simp; (try with_reducible rfl)
        simp only [List.getElem_toArray, List.getElem_cons_succ, List.getElem_cons_zero, Act.put, List.setIfInBounds_toArray, List.set_cons_zero, List.set_cons_succ]
        refine wpAnyH_take (i := 6) (v := ?_) rfl (by kernel_rfl) (by kernel_rfl) (by kernel_rfl) (fun _ _ _ h => h) (Or.inl ⟨by rfl, ?_⟩) (by assumption) ?_
        rotate_left
        · intro w hSw; (try dsimp only at hSw); obtain ⟨⟨p0, p1⟩, ⟨g0, g1, g2, g3, g4, g5, g6, g7⟩, _, _, _⟩ := AT.out w hSw; go_simp; (try with_reducible rfl)
        simp only [List.getElem_toArray, List.getElem_cons_succ, List.getElem_cons_zero, Act.put, List.setIfInBounds_toArray, List.set_cons_zero, List.set_cons_succ]
        refine wpAnyH_take (i := 7) (v := ?_) rfl (by kernel_rfl) (by kernel_rfl) (by kernel_rfl) (fun _ _ _ h => h) (Or.inl ⟨by rfl, ?_⟩) (by assumption) ?_
        rotate_left
        · intro w hSw; (try dsimp only at hSw); obtain ⟨⟨p0, p1⟩, ⟨g0, g1, g2, g3, g4, g5, g6, g7⟩, _, _, _⟩ := AT.out w hSw; go_simp; (try with_reducible rfl)
        simp only [List.getElem_toArray, List.getElem_cons_succ, List.getElem_cons_zero, Act.put, List.setIfInBounds_toArray, List.set_cons_zero, List.set_cons_succ]
        refine wpAnyH_take (i := 8) (v := ?_) rfl (by kernel_rfl) (by kernel_rfl) (by kernel_rfl) (fun _ _ _ h => h) (Or.inl ⟨by rfl, ?_⟩) (by assumption) ?_
        rotate_left
        · intro w hSw; (try dsimp only at hSw); obtain ⟨⟨p0, p1⟩, ⟨g0, g1, g2, g3, g4, g5, g6, g7⟩, _, _, _⟩ := AT.out w hSw; go_simp; (try with_reducible rfl)
        simp only [List.getElem_toArray, List.getElem_cons_succ, List.getElem_cons_zero, Act.put, List.setIfInBounds_toArray, List.set_cons_zero, List.set_cons_succ]
        refine wpAnyH_ready (rs := [9]) (by kernel_rfl) (by simp) ?_
        refine AllReadyH.cons rfl (fun K hK => ?_) AllReadyH.nil
        go_simp
        (go_at_call 46; (refine (KY.out _).mono ?_); rintro z w6 ⟨rfl, q6⟩; subst q6)
        refine hK.out _ _ ?_ (fun hHeld2 => ?_)
        · exact B5.out
        clear hK K hHeld1
        try simp only [List.getElem_toArray, List.getElem_cons_succ, List.getElem_cons_zero, Act.put, List.setIfInBounds_toArray, List.set_cons_zero, List.set_cons_succ]
        refine wpAnyH_take (i := 10) (v := ?_) rfl (by kernel_rfl) (by kernel_rfl) (by kernel_rfl) (fun _ _ _ h => h) (Or.inl ⟨by rfl, ?_⟩) (by assumption) ?_
        rotate_left
        · intro w hSw; (try dsimp only at hSw); obtain ⟨⟨p0, p1⟩, ⟨g0, g1, g2, g3, g4, g5, g6, g7⟩, _, _, _⟩ := AT.out w hSw; go_simp; (try with_reducible rfl)
        simp only [List.getElem_toArray, List.getElem_cons_succ, List.getElem_cons_zero, Act.put, List.setIfInBounds_toArray, List.set_cons_zero, List.set_cons_succ]
        refine wpAnyH_take (i := 11) (v := ?_) rfl (by kernel_rfl) (by kernel_rfl) (by kernel_rfl) (fun _ _ _ h => h) (Or.inl ⟨by rfl, ?_⟩) (by assumption) ?_
        rotate_left
        · intro w hSw; (try dsimp only at hSw); obtain ⟨⟨p0, p1⟩, ⟨g0, g1, g2, g3, g4, g5, g6, g7⟩, _, _, _⟩ := AT.out w hSw; go_simp; (try with_reducible rfl)
        simp only [List.getElem_toArray, List.getElem_cons_succ, List.getElem_cons_zero, Act.put, List.setIfInBounds_toArray, List.set_cons_zero, List.set_cons_succ]
        refine wpAnyH_take (i := 12) (v := ?_) rfl (by kernel_rfl) (by kernel_rfl) (by kernel_rfl) (fun _ _ _ h => h) (Or.inl ⟨by rfl, ?_⟩) (by assumption) ?_
        rotate_left
        · intro w hSw; (try dsimp only at hSw); obtain ⟨⟨p0, p1⟩, ⟨g0, g1, g2, g3, g4, g5, g6, g7⟩, _, _, _⟩ := AT.out w hSw; go_simp; (try with_reducible rfl)
        simp only [List.getElem_toArray, List.getElem_cons_succ, List.getElem_cons_zero, Act.put, List.setIfInBounds_toArray, List.set_cons_zero, List.set_cons_succ]
        refine wpAnyH_take (i := 13) (v := ?_) rfl (by kernel_rfl) (by kernel_rfl) (by kernel_rfl) (fun _ _ _ h => h) (Or.inl ⟨by rfl, ?_⟩) (by assumption) ?_
        rotate_left
        · intro w hSw; (try dsimp only at hSw); obtain ⟨⟨p0, p1⟩, ⟨g0, g1, g2, g3, g4, g5, g6, g7⟩, _, _, _⟩ := AT.out w hSw; go_simp; (try with_reducible rfl)
        simp only [List.getElem_toArray, List.getElem_cons_succ, List.getElem_cons_zero, Act.put, List.setIfInBounds_toArray, List.set_cons_zero, List.set_cons_succ]
        refine wpAnyH_take (i := 14) (v := ?_) rfl (by kernel_rfl) (by kernel_rfl) (by kernel_rfl) (fun _ _ _ h => h) (Or.inl ⟨by rfl, ?_⟩) (by assumption) ?_
        rotate_left
        · intro w hSw; (try dsimp only at hSw); obtain ⟨⟨p0, p1⟩, ⟨g0, g1, g2, g3, g4, g5, g6, g7⟩, _, _, _⟩ := AT.out w hSw; go_simp; (try with_reducible rfl)
        simp only [List.getElem_toArray, List.getElem_cons_succ, List.getElem_cons_zero, Act.put, List.setIfInBounds_toArray, List.set_cons_zero, List.set_cons_succ]
        refine wpAnyH_take (i := 15) (v := ?_) rfl (by kernel_rfl) (by kernel_rfl) (by kernel_rfl) (fun _ _ _ h => h) (Or.inl ⟨by rfl, ?_⟩) (by assumption) ?_
        rotate_left
        · intro w hSw; (try dsimp only at hSw); obtain ⟨⟨p0, p1⟩, ⟨g0, g1, g2, g3, g4, g5, g6, g7⟩, _, _, _⟩ := AT.out w hSw; go_simp; (try with_reducible rfl)
        simp only [List.getElem_toArray, List.getElem_cons_succ, List.getElem_cons_zero, Act.put, List.setIfInBounds_toArray, List.set_cons_zero, List.set_cons_succ]
        refine wpAnyH_ready (rs := [16]) (by kernel_rfl) (by simp) ?_
        refine AllReadyH.cons rfl (fun K hK => ?_) AllReadyH.nil
        go_simp
        (go_at_call 50; (refine (NX.out _ B5.out).mono ?_); rintro z w7 ⟨rfl, b7⟩; have B7 := Lib.hid b7; clear b7)
        refine hK.out _ _ ?_ (fun hHeld3 => ?_)
        · exact B7.out
        clear hK K hHeld2
        try simp only [List.getElem_toArray, List.getElem_cons_succ, List.getElem_cons_zero, Act.put, List.setIfInBounds_toArray, List.set_cons_zero, List.set_cons_succ]
        refine wpAnyH_take (i := 17) (v := ?_) rfl (by kernel_rfl) (by kernel_rfl) (by kernel_rfl) (fun _ _ _ h => h) (Or.inl ⟨by rfl, ?_⟩) (by assumption) ?_
        rotate_left
        · intro w hSw; (try dsimp only at hSw); obtain ⟨⟨p0, p1⟩, ⟨g0, g1, g2, g3, g4, g5, g6, g7⟩, _, _, _⟩ := AT.out w hSw; go_simp; (try with_reducible rfl)
        simp only [List.getElem_toArray, List.getElem_cons_succ, List.getElem_cons_zero, Act.put, List.setIfInBounds_toArray, List.set_cons_zero, List.set_cons_succ]
        refine wpAnyH_take (i := 18) (v := ?_) rfl (by kernel_rfl) (by kernel_rfl) (by kernel_rfl) (fun _ _ _ h => h) (Or.inl ⟨by rfl, ?_⟩) (by assumption) ?_
        rotate_left
        · intro w hSw; (try dsimp only at hSw); obtain ⟨⟨p0, p1⟩, ⟨g0, g1, g2, g3, g4, g5, g6, g7⟩, _, _, _⟩ := AT.out w hSw; go_simp; (try with_reducible rfl)
        simp only [List.getElem_toArray, List.getElem_cons_succ, List.getElem_cons_zero, Act.put, List.setIfInBounds_toArray, List.set_cons_zero, List.set_cons_succ]
        refine wpAnyH_take (i := 19) (v := ?_) rfl (by kernel_rfl) (by kernel_rfl) (by kernel_rfl) (fun _ _ _ h => h) (Or.inl ⟨by rfl, ?_⟩) (by assumption) ?_
        rotate_left
        · intro w hSw; (try dsimp only at hSw); obtain ⟨⟨p0, p1⟩, ⟨g0, g1, g2, g3, g4, g5, g6, g7⟩, _, _, _⟩ := AT.out w hSw; go_simp; (try with_reducible rfl)
        simp only [List.getElem_toArray, List.getElem_cons_succ, List.getElem_cons_zero, Act.put, List.setIfInBounds_toArray, List.set_cons_zero, List.set_cons_succ]
        refine wpAnyH_take (i := 20) (v := undef) rfl (by kernel_rfl) (by kernel_rfl) (by kernel_rfl) (fun _ _ _ h => h) (Or.inr ⟨by rfl, rfl⟩) (by assumption) ?_
        simp only [List.getElem_toArray, List.getElem_cons_succ, List.getElem_cons_zero, Act.put, List.setIfInBounds_toArray, List.set_cons_zero, List.set_cons_succ]
        refine wpAnyH_take (i := 21) (v := undef) rfl (by kernel_rfl) (by kernel_rfl) (by kernel_rfl) (fun _ _ _ h => h) (Or.inr ⟨by rfl, rfl⟩) (by assumption) ?_
        simp only [List.getElem_toArray, List.getElem_cons_succ, List.getElem_cons_zero, Act.put, List.setIfInBounds_toArray, List.set_cons_zero, List.set_cons_succ]
        refine wpAnyH_take (i := 22) (v := undef) rfl (by kernel_rfl) (by kernel_rfl) (by kernel_rfl) (fun _ _ _ h => h) (Or.inr ⟨by rfl, rfl⟩) (by assumption) ?_
        simp only [List.getElem_toArray, List.getElem_cons_succ, List.getElem_cons_zero, Act.put, List.setIfInBounds_toArray, List.set_cons_zero, List.set_cons_succ]
        refine wpAnyH_take (i := 23) (v := ?_) rfl (by kernel_rfl) (by kernel_rfl) (by kernel_rfl) (fun _ _ _ h => h) (Or.inl ⟨by rfl, ?_⟩) (by assumption) ?_
        rotate_left
        · intro w hSw; (try dsimp only at hSw); obtain ⟨⟨p0, p1⟩, ⟨g0, g1, g2, g3, g4, g5, g6, g7⟩, _, _, _⟩ := AT.out w hSw; go_simp; (try with_reducible rfl)
        simp only [List.getElem_toArray, List.getElem_cons_succ, List.getElem_cons_zero, Act.put, List.setIfInBounds_toArray, List.set_cons_zero, List.set_cons_succ]
        refine wpAnyH_take (i := 24) (v := ?_) rfl (by kernel_rfl) (by kernel_rfl) (by kernel_rfl) (fun _ _ _ h => h) (Or.inl ⟨by rfl, ?_⟩) (by assumption) ?_
        rotate_left
        · intro w hSw; (try dsimp only at hSw); obtain ⟨⟨p0, p1⟩, ⟨g0, g1, g2, g3, g4, g5, g6, g7⟩, _, _, _⟩ := AT.out w hSw; go_simp; (try with_reducible rfl)
        try simp only [List.getElem_toArray, List.getElem_cons_succ, List.getElem_cons_zero, Act.put, List.setIfInBounds_toArray, List.set_cons_zero, List.set_cons_succ]
        refine wpAnyH_done (by kernel_rfl) ?_ _
        obtain ⟨⟨j0, j1⟩, ⟨k0, k1, k2, k3, k4, k5, k6, k7⟩, ⟨u0, u1, l0, l1⟩, lf, _⟩ := AT.out _ B7.out
        go_wp2_with fail
        refine bodyPost_ret (v := .tuple #[.agg #[.slice a L.length c, .slice a' S.length c'], .int .i64 1]) ?_ rfl ⟨_, by rw [RE.out], ?_, ?_⟩
        · simp [results, Tryz.f26, go_sem, l0, l1]
        · rw [RR.out]
          exact ⟨a, c, a', c', rfl, OW1.out.below (((BB.out _ B7.out).setCell (by first | omega | (simp; omega) | simp) _).setCell (by first | omega | (simp; omega) | simp) _), OW2.out.below (((BB.out _ B7.out).setCell (by first | omega | (simp; omega) | simp) _).setCell (by first | omega | (simp; omega) | simp) _)⟩
        · exact ((BB.out _ B7.out).setCell (by first | omega | (simp; omega) | simp) _).setCell (by first | omega | (simp; omega) | simp) _
end Go.Proofs.YtkihleecjgoipaaGreatDoor
