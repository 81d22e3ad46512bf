/- The reference's people: signup, walked. Written by wip/tools/mkr16e.py. -/
import Derived.Test.YtkihleecjgoipaaGreatDoorR16D
import Derived.Test.YtkihleecjgoipaaGreatDoorEv16
namespace Go.Proofs.YtkihleecjgoipaaGreatDoor
open Go.RowKit Go.Maps Go.Proofs.YtkihleecjgoipaaGreatDoor.Rw

set_option maxHeartbeats 8000000 in
set_option maxRecDepth 100000 in
theorem signup16_any {B0 : Nat} {w : World} {v : Value} {p : Ppl} (hown : pown w B0 v p) (lim : few p) (hsm : small p) (hB0 : B0 ≤ w.heap.size) (e : Evn) (hs : e.a.size ≤ 4000000000) :
    Calls Tryz.prog 34 #[v, e.agg] w fun r w' => ∃ v', r = .returned (.tuple #[v', .int .i64 (sgnE p e)]) ∧ pown w' B0 v' (sgnR p e) ∧ Below w.heap.size w w' := by
  have SE : Hid (sgnE p e = if onesB e.a = false ∨ keyB e.b e.c = false ∨ e.acc ≠ nextN p ∨ 99 < e.acc then 1 else if byB p e.a = true then 14 else if 12 ≤ p.ps.length then 15 else 0) := Lib.hid rfl
  have SR : Hid (sgnR p e = if sgnE p e = 0 then ⟨p.ps ++ [newP e], p.ss⟩ else p) := Lib.hid rfl
  have hown0 := hown
  have lim0 := lim
  obtain ⟨a, c, a', c', rfl, o1, o2⟩ := hown
  obtain ⟨lim1, lim2⟩ := lim
  have z3 := W3_size w (.slice a p.ps.length c) (.slice a' p.ss.length c') e
  have b3 := W3_below w (.slice a p.ps.length c) (.slice a' p.ss.length c') e
  have AT := Lib.hid (fun w2 b => W3_at (w := w) (w2 := w2) (.slice a p.ps.length c) (.slice a' p.ss.length c') e b)
  have PH := Lib.hid (fun w2 b => W3_heap (w := w) (w2 := w2) (.slice a p.ps.length c) (.slice a' p.ss.length c') e b)
  have BB : Hid (∀ w2, Below (w.heap.size + 3) (W3 w (.slice a p.ps.length c) (.slice a' p.ss.length c') e) w2 → Below w.heap.size w w2 ∧ w.heap.size + 3 ≤ w2.heap.size) := Lib.hid (fun w2 b => ⟨b3.trans (b.mono (by omega)), by have := b.size; omega⟩)
  have ON : Hid (∀ w2, Calls Tryz.prog 36 #[.string e.a] w2 fun r w' => r = .returned (.bool (onesB e.a)) ∧ w' = w2) := Lib.hid (fun w2 => ones16_any e.a hs w2)
  have KY : Hid (∀ w2, Calls Tryz.prog 39 #[.string e.b, .string e.c] w2 fun r w' => r = .returned (.bool (keyB e.b e.c)) ∧ w' = w2) := Lib.hid (fun w2 => key16_any e.b e.c w2)
  have NX : Hid (∀ w2, Below (w.heap.size + 3) (W3 w (.slice a p.ps.length c) (.slice a' p.ss.length c') e) w2 → Calls Tryz.prog 44 #[.agg #[.slice a p.ps.length c, .slice a' p.ss.length c']] w2 fun r w' => r = .returned (.int .i64 (nextN p)) ∧ Below (w.heap.size + 3) (W3 w (.slice a p.ps.length c) (.slice a' p.ss.length c') e) w') := Lib.hid (fun w2 b =>
    (rnext_any (hown0.below (BB.out _ b).1) lim0 hsm).mono fun r w' ⟨q1, q2⟩ => ⟨q1, b.trans (q2.mono (BB.out _ b).2)⟩)
  have BY : Hid (∀ w2, Below (w.heap.size + 3) (W3 w (.slice a p.ps.length c) (.slice a' p.ss.length c') e) w2 → Calls Tryz.prog 37 #[.agg #[.slice a p.ps.length c, .slice a' p.ss.length c'], .string e.a] w2 fun r w' => r = .returned (.tuple #[(pick p.ps (fun x => decide (x.mail = e.a))).agg, .bool (byB p e.a)]) ∧ Below (w.heap.size + 3) (W3 w (.slice a p.ps.length c) (.slice a' p.ss.length c') e) w') := Lib.hid (fun w2 b =>
    (by16_any (hown0.below (BB.out _ b).1) lim0 e.a).mono fun r w' ⟨q1, q2⟩ => ⟨q1, b.trans (q2.mono (BB.out _ b).2)⟩)
  have OP : Hid (∀ w2, Below w.heap.size w w2 → Per.owns w2 B0 (.slice a p.ps.length c) p.ps ∧ Ses.owns w2 B0 (.slice a' p.ss.length c') p.ss) := Lib.hid (fun w2 b => ⟨o1.below b, o2.below b⟩)
  have NP : Hid (newP e = ⟨e.acc, e.a, false, e.b, e.c, 1, 0, 0, ⟨#[]⟩, ⟨#[]⟩, ⟨#[]⟩, ⟨#[]⟩, ⟨#[]⟩⟩) := Lib.hid rfl
  obtain ⟨⟨x0, x1⟩, ⟨v0, v1, v2, v3, v4, v5, v6, v7⟩, ⟨y0, y1, y2, y3⟩, yf, _⟩ := AT.out _ (Below.refl _ _)
  generalize pick p.ps (fun x => decide (x.mail = e.a)) = yp at *
  generalize sgnR p e = sr at *
  generalize sgnE p e = se at *
  generalize byB p e.a = th at *
  generalize onesB e.a = on at *
  generalize keyB e.b e.c = ky at *
  generalize nextN p = nx at *
  clear o1 o2 b3 z3 hown0 hsm lim0
  obtain ⟨L, S⟩ := p
  rw [NP.out] at SR
  clear NP
  obtain ⟨kd, ac, pu, t, nu, ea, eb, ec⟩ := e
  obtain ⟨yid, ymail, yver, ysalt, ychk, yvers, ymiss, ylock, yc0, yc1, yc2, yc3, yc4⟩ := yp
  unfold W3 pobj Evn.obj at *
  unfold Evn.agg
  unfold Per.R.agg at BY
  simp only at *
  cases on
  · skip
    have RE : Hid (se = 1) := Lib.hid (by rw [SE.out, if_pos (.inl rfl)])
    have RR : Hid (sr = ⟨L, S⟩) := Lib.hid (by rw [SR.out, RE.out, if_neg (by decide)])
    clear SE SR
    go_enter Tryz.func34, Tryz.ntmps34
    go_wp2_with (first
      | (go_at_call 36; (refine (ON.out _).mono ?_); rintro z w2 ⟨rfl, rfl⟩)
      | (go_at_call 39; (refine (KY.out _).mono ?_); rintro z w3 ⟨rfl, rfl⟩))
    refine wp_region_held_drew (S := fun w' => Below (w.heap.size + 3) (((w.alloc (.cells #[.slice a L.length c, .slice a' S.length c'] 25)).alloc (.cells #[.int .i64 kd, .int .i64 ac, .int .i64 pu, .int .i64 t, .int .i64 nu, .string ea, .string eb, .string ec] 46)).alloc (.cells #[.slice none 0 0, .slice none 0 0] 25)) w') (by kernel_rfl) ?_ (fun hHeld0 => ?_)
    · exact below_drew (Below.refl _ _)
    refine wpAnyH_take (i := 0) (v := ?_) rfl (by kernel_rfl) (by kernel_rfl) (by kernel_rfl) (fun _ _ _ h => h) (Or.inl ⟨by rfl, ?_⟩) (by assumption) ?_
    rotate_left
    · intro w hSw; (try dsimp only at hSw); obtain ⟨⟨p0, p1⟩, ⟨g0, g1, g2, g3, g4, g5, g6, g7⟩, _, _, _⟩ := AT.out w hSw; go_simp; (try with_reducible rfl)
    simp only [List.getElem_toArray, List.getElem_cons_zero, Act.put, List.setIfInBounds_toArray, List.set_cons_zero, List.set_cons_succ]
    refine wpAnyH_take (i := 1) (v := ?_) rfl (by kernel_rfl) (by kernel_rfl) (by kernel_rfl) (fun _ _ _ h => h) (Or.inl ⟨by rfl, ?_⟩) (by assumption) ?_
    rotate_left
    · intro w hSw; (try dsimp only at hSw); obtain ⟨⟨p0, p1⟩, ⟨g0, g1, g2, g3, g4, g5, g6, g7⟩, _, _, _⟩ := AT.out w hSw; go_simp; (try with_reducible rfl)
    simp only [List.getElem_toArray, List.getElem_cons_succ, List.getElem_cons_zero, Act.put, List.setIfInBounds_toArray, List.set_cons_zero, List.set_cons_succ]
    refine wpAnyH_take (i := 2) (v := ?_) rfl (by kernel_rfl) (by kernel_rfl) (by kernel_rfl) (fun _ _ _ h => h) (Or.inl ⟨by rfl, ?_⟩) (by assumption) ?_
    rotate_left
    · intro w hSw; (try dsimp only at hSw); obtain ⟨⟨p0, p1⟩, ⟨g0, g1, g2, g3, g4, g5, g6, g7⟩, _, _, _⟩ := AT.out w hSw; go_simp; (try with_reducible rfl)
    simp only [List.getElem_toArray, List.getElem_cons_succ, List.getElem_cons_zero, Act.put, List.setIfInBounds_toArray, List.set_cons_zero, List.set_cons_succ]
    refine wpAnyH_take (i := 3) (v := undef) rfl (by kernel_rfl) (by kernel_rfl) (by kernel_rfl) (fun _ _ _ h => h) (Or.inr ⟨by rfl, rfl⟩) (by assumption) ?_
    simp only [List.getElem_toArray, List.getElem_cons_succ, List.getElem_cons_zero, Act.put, List.setIfInBounds_toArray, List.set_cons_zero, List.set_cons_succ]
    refine wpAnyH_take (i := 4) (v := undef) rfl (by kernel_rfl) (by kernel_rfl) (by kernel_rfl) (fun _ _ _ h => h) (Or.inr ⟨by rfl, rfl⟩) (by assumption) ?_
    simp only [List.getElem_toArray, List.getElem_cons_succ, List.getElem_cons_zero, Act.put, List.setIfInBounds_toArray, List.set_cons_zero, List.set_cons_succ]
    refine wpAnyH_take (i := 5) (v := ?_) rfl (by kernel_rfl) (by kernel_rfl) (by kernel_rfl) (fun _ _ _ h => h) (Or.inl ⟨by rfl, ?_⟩) (by assumption) ?_
    rotate_left
    · intro w hSw; (try dsimp only at hSw); obtain ⟨⟨p0, p1⟩, ⟨g0, g1, g2, g3, g4, g5, g6, g7⟩, _, _, _⟩ := AT.out w hSw; go_simp; (try with_reducible rfl)
    simp only [List.getElem_toArray, List.getElem_cons_succ, List.getElem_cons_zero, Act.put, List.setIfInBounds_toArray, List.set_cons_zero, List.set_cons_succ]
    refine wpAnyH_take (i := 6) (v := ?_) rfl (by kernel_rfl) (by kernel_rfl) (by kernel_rfl) (fun _ _ _ h => h) (Or.inl ⟨by rfl, ?_⟩) (by assumption) ?_
    rotate_left
    · intro w hSw; (try dsimp only at hSw); obtain ⟨⟨p0, p1⟩, ⟨g0, g1, g2, g3, g4, g5, g6, g7⟩, _, _, _⟩ := AT.out w hSw; go_simp; (try with_reducible rfl)
    simp only [List.getElem_toArray, List.getElem_cons_succ, List.getElem_cons_zero, Act.put, List.setIfInBounds_toArray, List.set_cons_zero, List.set_cons_succ]
    refine wpAnyH_take (i := 7) (v := undef) rfl (by kernel_rfl) (by kernel_rfl) (by kernel_rfl) (fun _ _ _ h => h) (Or.inr ⟨by rfl, rfl⟩) (by assumption) ?_
    simp only [List.getElem_toArray, List.getElem_cons_succ, List.getElem_cons_zero, Act.put, List.setIfInBounds_toArray, List.set_cons_zero, List.set_cons_succ]
    refine wpAnyH_take (i := 8) (v := undef) rfl (by kernel_rfl) (by kernel_rfl) (by kernel_rfl) (fun _ _ _ h => h) (Or.inr ⟨by rfl, rfl⟩) (by assumption) ?_
    simp only [List.getElem_toArray, List.getElem_cons_succ, List.getElem_cons_zero, Act.put, List.setIfInBounds_toArray, List.set_cons_zero, List.set_cons_succ]
    refine wpAnyH_take (i := 9) (v := undef) rfl (by kernel_rfl) (by kernel_rfl) (by kernel_rfl) (fun _ _ _ h => h) (Or.inr ⟨by rfl, rfl⟩) (by assumption) ?_
    simp only [List.getElem_toArray, List.getElem_cons_succ, List.getElem_cons_zero, Act.put, List.setIfInBounds_toArray, List.set_cons_zero, List.set_cons_succ]
    refine wpAnyH_take (i := 10) (v := undef) rfl (by kernel_rfl) (by kernel_rfl) (by kernel_rfl) (fun _ _ _ h => h) (Or.inr ⟨by rfl, rfl⟩) (by assumption) ?_
    simp only [List.getElem_toArray, List.getElem_cons_succ, List.getElem_cons_zero, Act.put, List.setIfInBounds_toArray, List.set_cons_zero, List.set_cons_succ]
    refine wpAnyH_take (i := 11) (v := undef) rfl (by kernel_rfl) (by kernel_rfl) (by kernel_rfl) (fun _ _ _ h => h) (Or.inr ⟨by rfl, rfl⟩) (by assumption) ?_
    simp only [List.getElem_toArray, List.getElem_cons_succ, List.getElem_cons_zero, Act.put, List.setIfInBounds_toArray, List.set_cons_zero, List.set_cons_succ]
    refine wpAnyH_take (i := 12) (v := ?_) rfl (by kernel_rfl) (by kernel_rfl) (by kernel_rfl) (fun _ _ _ h => h) (Or.inl ⟨by rfl, ?_⟩) (by assumption) ?_
    rotate_left
    · intro w hSw; (try dsimp only at hSw); obtain ⟨⟨p0, p1⟩, ⟨g0, g1, g2, g3, g4, g5, g6, g7⟩, _, _, _⟩ := AT.out w hSw; go_simp; (try with_reducible rfl)
    simp only [List.getElem_toArray, List.getElem_cons_succ, List.getElem_cons_zero, Act.put, List.setIfInBounds_toArray, List.set_cons_zero, List.set_cons_succ]
    refine wpAnyH_take (i := 13) (v := ?_) rfl (by kernel_rfl) (by kernel_rfl) (by kernel_rfl) (fun _ _ _ h => h) (Or.inl ⟨by rfl, ?_⟩) (by assumption) ?_
    rotate_left
    · intro w hSw; (try dsimp only at hSw); obtain ⟨⟨p0, p1⟩, ⟨g0, g1, g2, g3, g4, g5, g6, g7⟩, _, _, _⟩ := AT.out w hSw; go_simp; (try with_reducible rfl)
    simp only [List.getElem_toArray, List.getElem_cons_succ, List.getElem_cons_zero, Act.put, List.setIfInBounds_toArray, List.set_cons_zero, List.set_cons_succ]
    refine wpAnyH_take (i := 14) (v := undef) rfl (by kernel_rfl) (by kernel_rfl) (by kernel_rfl) (fun _ _ _ h => h) (Or.inr ⟨by rfl, rfl⟩) (by assumption) ?_
    simp only [List.getElem_toArray, List.getElem_cons_succ, List.getElem_cons_zero, Act.put, List.setIfInBounds_toArray, List.set_cons_zero, List.set_cons_succ]
    refine wpAnyH_take (i := 15) (v := undef) rfl (by kernel_rfl) (by kernel_rfl) (by kernel_rfl) (fun _ _ _ h => h) (Or.inr ⟨by rfl, rfl⟩) (by assumption) ?_
    simp only [List.getElem_toArray, List.getElem_cons_succ, List.getElem_cons_zero, Act.put, List.setIfInBounds_toArray, List.set_cons_zero, List.set_cons_succ]
    refine wpAnyH_take (i := 16) (v := undef) rfl (by kernel_rfl) (by kernel_rfl) (by kernel_rfl) (fun _ _ _ h => h) (Or.inr ⟨by rfl, rfl⟩) (by assumption) ?_
    simp only [List.getElem_toArray, List.getElem_cons_succ, List.getElem_cons_zero, Act.put, List.setIfInBounds_toArray, List.set_cons_zero, List.set_cons_succ]
    refine wpAnyH_take (i := 17) (v := ?_) rfl (by kernel_rfl) (by kernel_rfl) (by kernel_rfl) (fun _ _ _ h => h) (Or.inl ⟨by rfl, ?_⟩) (by assumption) ?_
    rotate_left
    · intro w hSw; (try dsimp only at hSw); obtain ⟨⟨p0, p1⟩, ⟨g0, g1, g2, g3, g4, g5, g6, g7⟩, _, _, _⟩ := AT.out w hSw; go_simp; (try with_reducible rfl)
    try simp only [List.getElem_toArray, List.getElem_cons_succ, List.getElem_cons_zero, Act.put, List.setIfInBounds_toArray, List.set_cons_zero, List.set_cons_succ]
    refine wpAnyH_done (by kernel_rfl) ?_ _
    have B0W := Lib.hid (below_drew (Below.refl (w.heap.size + 3) (((w.alloc (.cells #[.slice a L.length c, .slice a' S.length c'] 25)).alloc (.cells #[.int .i64 kd, .int .i64 ac, .int .i64 pu, .int .i64 t, .int .i64 nu, .string ea, .string eb, .string ec] 46)).alloc (.cells #[.slice none 0 0, .slice none 0 0] 25))))
    obtain ⟨⟨q0, q1⟩, _, ⟨_, _, l0, l1⟩, lf, _⟩ := AT.out _ B0W.out
    obtain ⟨w1, hw1⟩ : ∃ w1, ((((w.alloc (.cells #[.slice a L.length c, .slice a' S.length c'] 25)).alloc (.cells #[.int .i64 kd, .int .i64 ac, .int .i64 pu, .int .i64 t, .int .i64 nu, .string ea, .string eb, .string ec] 46)).alloc (.cells #[.slice none 0 0, .slice none 0 0] 25))).drew = w1 := ⟨_, rfl⟩
    simp only [hw1] at B0W q0 q1 l0 l1 lf ⊢
    clear hw1
    go_wp2_with fail
    refine bodyPost_ret (v := .tuple #[.agg #[.slice a L.length c, .slice a' S.length c'], .int .i64 1]) ?_ rfl ⟨_, by rw [RE.out], ?_, ?_⟩
    · simp [results, Tryz.f34, go_sem, l0, l1]
    · rw [RR.out]
      exact ⟨a, c, a', c', rfl, (OP.out _ (((BB.out _ B0W.out).1.setCell (by first | omega | (simp; omega) | simp) _).setCell (by first | omega | (simp; omega) | simp) _)).1, (OP.out _ (((BB.out _ B0W.out).1.setCell (by first | omega | (simp; omega) | simp) _).setCell (by first | omega | (simp; omega) | simp) _)).2⟩
    · exact (((BB.out _ B0W.out).1.setCell (by first | omega | (simp; omega) | simp) _).setCell (by first | omega | (simp; omega) | simp) _)
  · cases ky
    · skip
      have RE : Hid (se = 1) := Lib.hid (by rw [SE.out, if_pos (.inr (.inl rfl))])
      have RR : Hid (sr = ⟨L, S⟩) := Lib.hid (by rw [SR.out, RE.out, if_neg (by decide)])
      clear SE SR
      go_enter Tryz.func34, Tryz.ntmps34
      go_wp2_with (first
        | (go_at_call 36; (refine (ON.out _).mono ?_); rintro z w2 ⟨rfl, rfl⟩)
        | (go_at_call 39; (refine (KY.out _).mono ?_); rintro z w3 ⟨rfl, rfl⟩))
      refine wp_region_held_drew (S := fun w' => Below (w.heap.size + 3) (((w.alloc (.cells #[.slice a L.length c, .slice a' S.length c'] 25)).alloc (.cells #[.int .i64 kd, .int .i64 ac, .int .i64 pu, .int .i64 t, .int .i64 nu, .string ea, .string eb, .string ec] 46)).alloc (.cells #[.slice none 0 0, .slice none 0 0] 25)) w') (by kernel_rfl) ?_ (fun hHeld0 => ?_)
      · exact below_drew (Below.refl _ _)
      refine wpAnyH_take (i := 0) (v := ?_) rfl (by kernel_rfl) (by kernel_rfl) (by kernel_rfl) (fun _ _ _ h => h) (Or.inl ⟨by rfl, ?_⟩) (by assumption) ?_
      rotate_left
      · intro w hSw; (try dsimp only at hSw); obtain ⟨⟨p0, p1⟩, ⟨g0, g1, g2, g3, g4, g5, g6, g7⟩, _, _, _⟩ := AT.out w hSw; go_simp; (try with_reducible rfl)
      simp only [List.getElem_toArray, List.getElem_cons_zero, Act.put, List.setIfInBounds_toArray, List.set_cons_zero, List.set_cons_succ]
      refine wpAnyH_take (i := 1) (v := ?_) rfl (by kernel_rfl) (by kernel_rfl) (by kernel_rfl) (fun _ _ _ h => h) (Or.inl ⟨by rfl, ?_⟩) (by assumption) ?_
      rotate_left
      · intro w hSw; (try dsimp only at hSw); obtain ⟨⟨p0, p1⟩, ⟨g0, g1, g2, g3, g4, g5, g6, g7⟩, _, _, _⟩ := AT.out w hSw; go_simp; (try with_reducible rfl)
      simp only [List.getElem_toArray, List.getElem_cons_succ, List.getElem_cons_zero, Act.put, List.setIfInBounds_toArray, List.set_cons_zero, List.set_cons_succ]
      refine wpAnyH_take (i := 2) (v := ?_) rfl (by kernel_rfl) (by kernel_rfl) (by kernel_rfl) (fun _ _ _ h => h) (Or.inl ⟨by rfl, ?_⟩) (by assumption) ?_
      rotate_left
      · intro w hSw; (try dsimp only at hSw); obtain ⟨⟨p0, p1⟩, ⟨g0, g1, g2, g3, g4, g5, g6, g7⟩, _, _, _⟩ := AT.out w hSw; go_simp; (try with_reducible rfl)
      simp only [List.getElem_toArray, List.getElem_cons_succ, List.getElem_cons_zero, Act.put, List.setIfInBounds_toArray, List.set_cons_zero, List.set_cons_succ]
      refine wpAnyH_take (i := 3) (v := ?_) rfl (by kernel_rfl) (by kernel_rfl) (by kernel_rfl) (fun _ _ _ h => h) (Or.inl ⟨by rfl, ?_⟩) (by assumption) ?_
      rotate_left
      · intro w hSw; (try dsimp only at hSw); obtain ⟨⟨p0, p1⟩, ⟨g0, g1, g2, g3, g4, g5, g6, g7⟩, _, _, _⟩ := AT.out w hSw; go_simp; (try with_reducible rfl)
      simp only [List.getElem_toArray, List.getElem_cons_succ, List.getElem_cons_zero, Act.put, List.setIfInBounds_toArray, List.set_cons_zero, List.set_cons_succ]
      refine wpAnyH_take (i := 4) (v := ?_) rfl (by kernel_rfl) (by kernel_rfl) (by kernel_rfl) (fun _ _ _ h => h) (Or.inl ⟨by rfl, ?_⟩) (by assumption) ?_
      rotate_left
      · intro w hSw; (try dsimp only at hSw); obtain ⟨⟨p0, p1⟩, ⟨g0, g1, g2, g3, g4, g5, g6, g7⟩, _, _, _⟩ := AT.out w hSw; go_simp; (try with_reducible rfl)
      simp only [List.getElem_toArray, List.getElem_cons_succ, List.getElem_cons_zero, Act.put, List.setIfInBounds_toArray, List.set_cons_zero, List.set_cons_succ]
      refine wpAnyH_take (i := 5) (v := ?_) rfl (by kernel_rfl) (by kernel_rfl) (by kernel_rfl) (fun _ _ _ h => h) (Or.inl ⟨by rfl, ?_⟩) (by assumption) ?_
      rotate_left
      · intro w hSw; (try dsimp only at hSw); obtain ⟨⟨p0, p1⟩, ⟨g0, g1, g2, g3, g4, g5, g6, g7⟩, _, _, _⟩ := AT.out w hSw; go_simp; (try with_reducible rfl)
      simp only [List.getElem_toArray, List.getElem_cons_succ, List.getElem_cons_zero, Act.put, List.setIfInBounds_toArray, List.set_cons_zero, List.set_cons_succ]
      refine wpAnyH_take (i := 6) (v := ?_) rfl (by kernel_rfl) (by kernel_rfl) (by kernel_rfl) (fun _ _ _ h => h) (Or.inl ⟨by rfl, ?_⟩) (by assumption) ?_
      rotate_left
      · intro w hSw; (try dsimp only at hSw); obtain ⟨⟨p0, p1⟩, ⟨g0, g1, g2, g3, g4, g5, g6, g7⟩, _, _, _⟩ := AT.out w hSw; go_simp; (try with_reducible rfl)
      simp only [List.getElem_toArray, List.getElem_cons_succ, List.getElem_cons_zero, Act.put, List.setIfInBounds_toArray, List.set_cons_zero, List.set_cons_succ]
      refine wpAnyH_take (i := 7) (v := undef) rfl (by kernel_rfl) (by kernel_rfl) (by kernel_rfl) (fun _ _ _ h => h) (Or.inr ⟨by rfl, rfl⟩) (by assumption) ?_
      simp only [List.getElem_toArray, List.getElem_cons_succ, List.getElem_cons_zero, Act.put, List.setIfInBounds_toArray, List.set_cons_zero, List.set_cons_succ]
      refine wpAnyH_take (i := 8) (v := undef) rfl (by kernel_rfl) (by kernel_rfl) (by kernel_rfl) (fun _ _ _ h => h) (Or.inr ⟨by rfl, rfl⟩) (by assumption) ?_
      simp only [List.getElem_toArray, List.getElem_cons_succ, List.getElem_cons_zero, Act.put, List.setIfInBounds_toArray, List.set_cons_zero, List.set_cons_succ]
      refine wpAnyH_take (i := 9) (v := undef) rfl (by kernel_rfl) (by kernel_rfl) (by kernel_rfl) (fun _ _ _ h => h) (Or.inr ⟨by rfl, rfl⟩) (by assumption) ?_
      simp only [List.getElem_toArray, List.getElem_cons_succ, List.getElem_cons_zero, Act.put, List.setIfInBounds_toArray, List.set_cons_zero, List.set_cons_succ]
      refine wpAnyH_take (i := 10) (v := undef) rfl (by kernel_rfl) (by kernel_rfl) (by kernel_rfl) (fun _ _ _ h => h) (Or.inr ⟨by rfl, rfl⟩) (by assumption) ?_
      simp only [List.getElem_toArray, List.getElem_cons_succ, List.getElem_cons_zero, Act.put, List.setIfInBounds_toArray, List.set_cons_zero, List.set_cons_succ]
      refine wpAnyH_take (i := 11) (v := undef) rfl (by kernel_rfl) (by kernel_rfl) (by kernel_rfl) (fun _ _ _ h => h) (Or.inr ⟨by rfl, rfl⟩) (by assumption) ?_
      simp only [List.getElem_toArray, List.getElem_cons_succ, List.getElem_cons_zero, Act.put, List.setIfInBounds_toArray, List.set_cons_zero, List.set_cons_succ]
      refine wpAnyH_take (i := 12) (v := ?_) rfl (by kernel_rfl) (by kernel_rfl) (by kernel_rfl) (fun _ _ _ h => h) (Or.inl ⟨by rfl, ?_⟩) (by assumption) ?_
      rotate_left
      · intro w hSw; (try dsimp only at hSw); obtain ⟨⟨p0, p1⟩, ⟨g0, g1, g2, g3, g4, g5, g6, g7⟩, _, _, _⟩ := AT.out w hSw; go_simp; (try with_reducible rfl)
      simp only [List.getElem_toArray, List.getElem_cons_succ, List.getElem_cons_zero, Act.put, List.setIfInBounds_toArray, List.set_cons_zero, List.set_cons_succ]
      refine wpAnyH_take (i := 13) (v := ?_) rfl (by kernel_rfl) (by kernel_rfl) (by kernel_rfl) (fun _ _ _ h => h) (Or.inl ⟨by rfl, ?_⟩) (by assumption) ?_
      rotate_left
      · intro w hSw; (try dsimp only at hSw); obtain ⟨⟨p0, p1⟩, ⟨g0, g1, g2, g3, g4, g5, g6, g7⟩, _, _, _⟩ := AT.out w hSw; go_simp; (try with_reducible rfl)
      simp only [List.getElem_toArray, List.getElem_cons_succ, List.getElem_cons_zero, Act.put, List.setIfInBounds_toArray, List.set_cons_zero, List.set_cons_succ]
      refine wpAnyH_take (i := 14) (v := undef) rfl (by kernel_rfl) (by kernel_rfl) (by kernel_rfl) (fun _ _ _ h => h) (Or.inr ⟨by rfl, rfl⟩) (by assumption) ?_
      simp only [List.getElem_toArray, List.getElem_cons_succ, List.getElem_cons_zero, Act.put, List.setIfInBounds_toArray, List.set_cons_zero, List.set_cons_succ]
      refine wpAnyH_take (i := 15) (v := undef) rfl (by kernel_rfl) (by kernel_rfl) (by kernel_rfl) (fun _ _ _ h => h) (Or.inr ⟨by rfl, rfl⟩) (by assumption) ?_
      simp only [List.getElem_toArray, List.getElem_cons_succ, List.getElem_cons_zero, Act.put, List.setIfInBounds_toArray, List.set_cons_zero, List.set_cons_succ]
      refine wpAnyH_take (i := 16) (v := undef) rfl (by kernel_rfl) (by kernel_rfl) (by kernel_rfl) (fun _ _ _ h => h) (Or.inr ⟨by rfl, rfl⟩) (by assumption) ?_
      simp only [List.getElem_toArray, List.getElem_cons_succ, List.getElem_cons_zero, Act.put, List.setIfInBounds_toArray, List.set_cons_zero, List.set_cons_succ]
      refine wpAnyH_take (i := 17) (v := ?_) rfl (by kernel_rfl) (by kernel_rfl) (by kernel_rfl) (fun _ _ _ h => h) (Or.inl ⟨by rfl, ?_⟩) (by assumption) ?_
      rotate_left
      · intro w hSw; (try dsimp only at hSw); obtain ⟨⟨p0, p1⟩, ⟨g0, g1, g2, g3, g4, g5, g6, g7⟩, _, _, _⟩ := AT.out w hSw; go_simp; (try with_reducible rfl)
      try simp only [List.getElem_toArray, List.getElem_cons_succ, List.getElem_cons_zero, Act.put, List.setIfInBounds_toArray, List.set_cons_zero, List.set_cons_succ]
      refine wpAnyH_done (by kernel_rfl) ?_ _
      have B0W := Lib.hid (below_drew (Below.refl (w.heap.size + 3) (((w.alloc (.cells #[.slice a L.length c, .slice a' S.length c'] 25)).alloc (.cells #[.int .i64 kd, .int .i64 ac, .int .i64 pu, .int .i64 t, .int .i64 nu, .string ea, .string eb, .string ec] 46)).alloc (.cells #[.slice none 0 0, .slice none 0 0] 25))))
      obtain ⟨⟨q0, q1⟩, _, ⟨_, _, l0, l1⟩, lf, _⟩ := AT.out _ B0W.out
      obtain ⟨w1, hw1⟩ : ∃ w1, ((((w.alloc (.cells #[.slice a L.length c, .slice a' S.length c'] 25)).alloc (.cells #[.int .i64 kd, .int .i64 ac, .int .i64 pu, .int .i64 t, .int .i64 nu, .string ea, .string eb, .string ec] 46)).alloc (.cells #[.slice none 0 0, .slice none 0 0] 25))).drew = w1 := ⟨_, rfl⟩
      simp only [hw1] at B0W q0 q1 l0 l1 lf ⊢
      clear hw1
      go_wp2_with fail
      refine bodyPost_ret (v := .tuple #[.agg #[.slice a L.length c, .slice a' S.length c'], .int .i64 1]) ?_ rfl ⟨_, by rw [RE.out], ?_, ?_⟩
      · simp [results, Tryz.f34, go_sem, l0, l1]
      · rw [RR.out]
        exact ⟨a, c, a', c', rfl, (OP.out _ (((BB.out _ B0W.out).1.setCell (by first | omega | (simp; omega) | simp) _).setCell (by first | omega | (simp; omega) | simp) _)).1, (OP.out _ (((BB.out _ B0W.out).1.setCell (by first | omega | (simp; omega) | simp) _).setCell (by first | omega | (simp; omega) | simp) _)).2⟩
      · exact (((BB.out _ B0W.out).1.setCell (by first | omega | (simp; omega) | simp) _).setCell (by first | omega | (simp; omega) | simp) _)
    · by_cases hne : ac = nx
      · subst hne
        by_cases h99 : 99 < ac
        · have h99' : decide (99 < ac) = true := decide_eq_true h99
          have RE : Hid (se = 1) := Lib.hid (by rw [SE.out, if_pos (.inr (.inr (.inr h99)))])
          have RR : Hid (sr = ⟨L, S⟩) := Lib.hid (by rw [SR.out, RE.out, if_neg (by decide)])
          clear SE SR
          go_enter Tryz.func34, Tryz.ntmps34
          go_wp2_with (first
            | (go_at_call 36; (refine (ON.out _).mono ?_); rintro z w2 ⟨rfl, rfl⟩)
            | (go_at_call 39; (refine (KY.out _).mono ?_); rintro z w3 ⟨rfl, rfl⟩))
          refine wp_region_held_drew (S := fun w' => Below (w.heap.size + 3) (((w.alloc (.cells #[.slice a L.length c, .slice a' S.length c'] 25)).alloc (.cells #[.int .i64 kd, .int .i64 ac, .int .i64 pu, .int .i64 t, .int .i64 nu, .string ea, .string eb, .string ec] 46)).alloc (.cells #[.slice none 0 0, .slice none 0 0] 25)) w') (by kernel_rfl) ?_ (fun hHeld0 => ?_)
          · exact below_drew (Below.refl _ _)
          refine wpAnyH_take (i := 0) (v := ?_) rfl (by kernel_rfl) (by kernel_rfl) (by kernel_rfl) (fun _ _ _ h => h) (Or.inl ⟨by rfl, ?_⟩) (by assumption) ?_
          rotate_left
          · intro w hSw; (try dsimp only at hSw); obtain ⟨⟨p0, p1⟩, ⟨g0, g1, g2, g3, g4, g5, g6, g7⟩, _, _, _⟩ := AT.out w hSw; go_simp; (try with_reducible rfl)
          simp only [List.getElem_toArray, List.getElem_cons_zero, Act.put, List.setIfInBounds_toArray, List.set_cons_zero, List.set_cons_succ]
          refine wpAnyH_take (i := 1) (v := ?_) rfl (by kernel_rfl) (by kernel_rfl) (by kernel_rfl) (fun _ _ _ h => h) (Or.inl ⟨by rfl, ?_⟩) (by assumption) ?_
          rotate_left
          · intro w hSw; (try dsimp only at hSw); obtain ⟨⟨p0, p1⟩, ⟨g0, g1, g2, g3, g4, g5, g6, g7⟩, _, _, _⟩ := AT.out w hSw; go_simp; (try with_reducible rfl)
          simp only [List.getElem_toArray, List.getElem_cons_succ, List.getElem_cons_zero, Act.put, List.setIfInBounds_toArray, List.set_cons_zero, List.set_cons_succ]
          refine wpAnyH_take (i := 2) (v := ?_) rfl (by kernel_rfl) (by kernel_rfl) (by kernel_rfl) (fun _ _ _ h => h) (Or.inl ⟨by rfl, ?_⟩) (by assumption) ?_
          rotate_left
          · intro w hSw; (try dsimp only at hSw); obtain ⟨⟨p0, p1⟩, ⟨g0, g1, g2, g3, g4, g5, g6, g7⟩, _, _, _⟩ := AT.out w hSw; go_simp; (try with_reducible rfl)
          simp only [List.getElem_toArray, List.getElem_cons_succ, List.getElem_cons_zero, Act.put, List.setIfInBounds_toArray, List.set_cons_zero, List.set_cons_succ]
          refine wpAnyH_take (i := 3) (v := ?_) rfl (by kernel_rfl) (by kernel_rfl) (by kernel_rfl) (fun _ _ _ h => h) (Or.inl ⟨by rfl, ?_⟩) (by assumption) ?_
          rotate_left
          · intro w hSw; (try dsimp only at hSw); obtain ⟨⟨p0, p1⟩, ⟨g0, g1, g2, g3, g4, g5, g6, g7⟩, _, _, _⟩ := AT.out w hSw; go_simp; (try with_reducible rfl)
          simp only [List.getElem_toArray, List.getElem_cons_succ, List.getElem_cons_zero, Act.put, List.setIfInBounds_toArray, List.set_cons_zero, List.set_cons_succ]
          refine wpAnyH_take (i := 4) (v := ?_) rfl (by kernel_rfl) (by kernel_rfl) (by kernel_rfl) (fun _ _ _ h => h) (Or.inl ⟨by rfl, ?_⟩) (by assumption) ?_
          rotate_left
          · intro w hSw; (try dsimp only at hSw); obtain ⟨⟨p0, p1⟩, ⟨g0, g1, g2, g3, g4, g5, g6, g7⟩, _, _, _⟩ := AT.out w hSw; go_simp; (try with_reducible rfl)
          simp only [List.getElem_toArray, List.getElem_cons_succ, List.getElem_cons_zero, Act.put, List.setIfInBounds_toArray, List.set_cons_zero, List.set_cons_succ]
          refine wpAnyH_take (i := 5) (v := ?_) rfl (by kernel_rfl) (by kernel_rfl) (by kernel_rfl) (fun _ _ _ h => h) (Or.inl ⟨by rfl, ?_⟩) (by assumption) ?_
          rotate_left
          · intro w hSw; (try dsimp only at hSw); obtain ⟨⟨p0, p1⟩, ⟨g0, g1, g2, g3, g4, g5, g6, g7⟩, _, _, _⟩ := AT.out w hSw; go_simp; (try with_reducible rfl)
          simp only [List.getElem_toArray, List.getElem_cons_succ, List.getElem_cons_zero, Act.put, List.setIfInBounds_toArray, List.set_cons_zero, List.set_cons_succ]
          refine wpAnyH_take (i := 6) (v := ?_) rfl (by kernel_rfl) (by kernel_rfl) (by kernel_rfl) (fun _ _ _ h => h) (Or.inl ⟨by rfl, ?_⟩) (by assumption) ?_
          rotate_left
          · intro w hSw; (try dsimp only at hSw); obtain ⟨⟨p0, p1⟩, ⟨g0, g1, g2, g3, g4, g5, g6, g7⟩, _, _, _⟩ := AT.out w hSw; go_simp; (try with_reducible rfl)
          simp only [List.getElem_toArray, List.getElem_cons_succ, List.getElem_cons_zero, Act.put, List.setIfInBounds_toArray, List.set_cons_zero, List.set_cons_succ]
          refine wpAnyH_take (i := 7) (v := ?_) rfl (by kernel_rfl) (by kernel_rfl) (by kernel_rfl) (fun _ _ _ h => h) (Or.inl ⟨by rfl, ?_⟩) (by assumption) ?_
          rotate_left
          · intro w hSw; (try dsimp only at hSw); obtain ⟨⟨p0, p1⟩, ⟨g0, g1, g2, g3, g4, g5, g6, g7⟩, _, _, _⟩ := AT.out w hSw; go_simp; (try with_reducible rfl)
          simp only [List.getElem_toArray, List.getElem_cons_succ, List.getElem_cons_zero, Act.put, List.setIfInBounds_toArray, List.set_cons_zero, List.set_cons_succ]
          refine wpAnyH_take (i := 8) (v := ?_) rfl (by kernel_rfl) (by kernel_rfl) (by kernel_rfl) (fun _ _ _ h => h) (Or.inl ⟨by rfl, ?_⟩) (by assumption) ?_
          rotate_left
          · intro w hSw; (try dsimp only at hSw); obtain ⟨⟨p0, p1⟩, ⟨g0, g1, g2, g3, g4, g5, g6, g7⟩, _, _, _⟩ := AT.out w hSw; go_simp; (try with_reducible rfl)
          simp only [List.getElem_toArray, List.getElem_cons_succ, List.getElem_cons_zero, Act.put, List.setIfInBounds_toArray, List.set_cons_zero, List.set_cons_succ]
          refine wpAnyH_take (i := 9) (v := ?_) rfl (by kernel_rfl) (by kernel_rfl) (by kernel_rfl) (fun _ _ _ h => h) (Or.inl ⟨by rfl, ?_⟩) (by assumption) ?_
          rotate_left
          · intro w hSw; (try dsimp only at hSw); obtain ⟨⟨p0, p1⟩, ⟨g0, g1, g2, g3, g4, g5, g6, g7⟩, _, _, _⟩ := AT.out w hSw; go_simp; (try with_reducible rfl)
          simp only [List.getElem_toArray, List.getElem_cons_succ, List.getElem_cons_zero, Act.put, List.setIfInBounds_toArray, List.set_cons_zero, List.set_cons_succ]
          refine wpAnyH_ready (rs := [10]) (by kernel_rfl) (by simp) ?_
          refine AllReadyH.cons rfl (fun K hK => ?_) AllReadyH.nil
          go_simp
          (go_at_call 44; (refine (NX.out _ (below_drew (Below.refl _ _))).mono ?_); rintro z w4 ⟨rfl, b4⟩; have B4 := Lib.hid b4; clear b4)
          refine hK.out _ _ ?_ (fun hHeld1 => ?_)
          · exact B4.out
          clear hK K hHeld0
          try simp only [List.getElem_toArray, List.getElem_cons_succ, List.getElem_cons_zero, Act.put, List.setIfInBounds_toArray, List.set_cons_zero, List.set_cons_succ]
          refine wpAnyH_take (i := 11) (v := ?_) rfl (by kernel_rfl) (by kernel_rfl) (by kernel_rfl) (fun _ _ _ h => h) (Or.inl ⟨by rfl, ?_⟩) (by assumption) ?_
          rotate_left
          · intro w hSw; (try dsimp only at hSw); obtain ⟨⟨p0, p1⟩, ⟨g0, g1, g2, g3, g4, g5, g6, g7⟩, _, _, _⟩ := AT.out w hSw; go_simp; (try with_reducible rfl)
          simp only [List.getElem_toArray, List.getElem_cons_succ, List.getElem_cons_zero, Act.put, List.setIfInBounds_toArray, List.set_cons_zero, List.set_cons_succ]
          refine wpAnyH_take (i := 12) (v := ?_) rfl (by kernel_rfl) (by kernel_rfl) (by kernel_rfl) (fun _ _ _ h => h) (Or.inl ⟨by rfl, ?_⟩) (by assumption) ?_
          rotate_left
          · intro w hSw; (try dsimp only at hSw); obtain ⟨⟨p0, p1⟩, ⟨g0, g1, g2, g3, g4, g5, g6, g7⟩, _, _, _⟩ := AT.out w hSw; go_simp; (try with_reducible rfl)
          simp only [List.getElem_toArray, List.getElem_cons_succ, List.getElem_cons_zero, Act.put, List.setIfInBounds_toArray, List.set_cons_zero, List.set_cons_succ]
          refine wpAnyH_take (i := 13) (v := ?_) rfl (by kernel_rfl) (by kernel_rfl) (by kernel_rfl) (fun _ _ _ h => h) (Or.inl ⟨by rfl, ?_⟩) (by assumption) ?_
          rotate_left
          · intro w hSw; (try dsimp only at hSw); obtain ⟨⟨p0, p1⟩, ⟨g0, g1, g2, g3, g4, g5, g6, g7⟩, _, _, _⟩ := AT.out w hSw; go_simp; (try with_reducible rfl)
          simp only [List.getElem_toArray, List.getElem_cons_succ, List.getElem_cons_zero, Act.put, List.setIfInBounds_toArray, List.set_cons_zero, List.set_cons_succ]
          refine wpAnyH_take (i := 14) (v := ?_) rfl (by kernel_rfl) (by kernel_rfl) (by kernel_rfl) (fun _ _ _ h => h) (Or.inl ⟨by rfl, ?_⟩) (by assumption) ?_
          rotate_left
          · intro w hSw; (try dsimp only at hSw); obtain ⟨⟨p0, p1⟩, ⟨g0, g1, g2, g3, g4, g5, g6, g7⟩, _, _, _⟩ := AT.out w hSw; go_simp; (try with_reducible rfl)
          simp only [List.getElem_toArray, List.getElem_cons_succ, List.getElem_cons_zero, Act.put, List.setIfInBounds_toArray, List.set_cons_zero, List.set_cons_succ]
          refine wpAnyH_take (i := 15) (v := ?_) rfl (by kernel_rfl) (by kernel_rfl) (by kernel_rfl) (fun _ _ _ h => h) (Or.inl ⟨by rfl, ?_⟩) (by assumption) ?_
          rotate_left
          · intro w hSw; (try dsimp only at hSw); obtain ⟨⟨p0, p1⟩, ⟨g0, g1, g2, g3, g4, g5, g6, g7⟩, _, _, _⟩ := AT.out w hSw; go_simp; (try with_reducible rfl)
          simp only [List.getElem_toArray, List.getElem_cons_succ, List.getElem_cons_zero, Act.put, List.setIfInBounds_toArray, List.set_cons_zero, List.set_cons_succ]
          refine wpAnyH_take (i := 16) (v := ?_) rfl (by kernel_rfl) (by kernel_rfl) (by kernel_rfl) (fun _ _ _ h => h) (Or.inl ⟨by rfl, ?_⟩) (by assumption) ?_
          rotate_left
          · intro w hSw; (try dsimp only at hSw); obtain ⟨⟨p0, p1⟩, ⟨g0, g1, g2, g3, g4, g5, g6, g7⟩, _, _, _⟩ := AT.out w hSw; go_simp; (try with_reducible rfl)
          simp only [List.getElem_toArray, List.getElem_cons_succ, List.getElem_cons_zero, Act.put, List.setIfInBounds_toArray, List.set_cons_zero, List.set_cons_succ]
          refine wpAnyH_take (i := 17) (v := ?_) rfl (by kernel_rfl) (by kernel_rfl) (by kernel_rfl) (fun _ _ _ h => h) (Or.inl ⟨by rfl, ?_⟩) (by assumption) ?_
          rotate_left
          · intro w hSw; (try dsimp only at hSw); obtain ⟨⟨p0, p1⟩, ⟨g0, g1, g2, g3, g4, g5, g6, g7⟩, _, _, _⟩ := AT.out w hSw; go_simp; (try with_reducible rfl)
          try simp only [List.getElem_toArray, List.getElem_cons_succ, List.getElem_cons_zero, Act.put, List.setIfInBounds_toArray, List.set_cons_zero, List.set_cons_succ]
          refine wpAnyH_done (by kernel_rfl) ?_ _
          obtain ⟨⟨q0, q1⟩, _, ⟨_, _, l0, l1⟩, lf, _⟩ := AT.out _ B4.out
          go_wp2_with fail
          refine bodyPost_ret (v := .tuple #[.agg #[.slice a L.length c, .slice a' S.length c'], .int .i64 1]) ?_ rfl ⟨_, by rw [RE.out], ?_, ?_⟩
          · simp [results, Tryz.f34, go_sem, l0, l1]
          · rw [RR.out]
            exact ⟨a, c, a', c', rfl, (OP.out _ (((BB.out _ B4.out).1.setCell (by first | omega | (simp; omega) | simp) _).setCell (by first | omega | (simp; omega) | simp) _)).1, (OP.out _ (((BB.out _ B4.out).1.setCell (by first | omega | (simp; omega) | simp) _).setCell (by first | omega | (simp; omega) | simp) _)).2⟩
          · exact (((BB.out _ B4.out).1.setCell (by first | omega | (simp; omega) | simp) _).setCell (by first | omega | (simp; omega) | simp) _)
        · have h99' : decide (99 < ac) = false := decide_eq_false h99
          have hor : ¬ (true = false ∨ true = false ∨ ac ≠ ac ∨ 99 < ac) := by simp; omega
          cases th
          · by_cases h12 : 12 ≤ L.length
            · have h12' : (12 : Int) ≤ L.length := by omega
              have RE : Hid (se = 15) := Lib.hid (by rw [SE.out, if_neg hor, if_neg (by decide), if_pos h12])
              have RR : Hid (sr = ⟨L, S⟩) := Lib.hid (by rw [SR.out, RE.out, if_neg (by decide)])
              clear SE SR
              go_enter Tryz.func34, Tryz.ntmps34
              go_wp2_with (first
                | (go_at_call 36; (refine (ON.out _).mono ?_); rintro z w2 ⟨rfl, rfl⟩)
                | (go_at_call 39; (refine (KY.out _).mono ?_); rintro z w3 ⟨rfl, rfl⟩))
              refine wp_region_held_drew (S := fun w' => Below (w.heap.size + 3) (((w.alloc (.cells #[.slice a L.length c, .slice a' S.length c'] 25)).alloc (.cells #[.int .i64 kd, .int .i64 ac, .int .i64 pu, .int .i64 t, .int .i64 nu, .string ea, .string eb, .string ec] 46)).alloc (.cells #[.slice none 0 0, .slice none 0 0] 25)) w') (by kernel_rfl) ?_ (fun hHeld0 => ?_)
              · exact below_drew (Below.refl _ _)
              refine wpAnyH_take (i := 0) (v := ?_) rfl (by kernel_rfl) (by kernel_rfl) (by kernel_rfl) (fun _ _ _ h => h) (Or.inl ⟨by rfl, ?_⟩) (by assumption) ?_
              rotate_left
              · intro w hSw; (try dsimp only at hSw); obtain ⟨⟨p0, p1⟩, ⟨g0, g1, g2, g3, g4, g5, g6, g7⟩, _, _, _⟩ := AT.out w hSw; go_simp; (try with_reducible rfl)
              simp only [List.getElem_toArray, List.getElem_cons_zero, Act.put, List.setIfInBounds_toArray, List.set_cons_zero, List.set_cons_succ]
              refine wpAnyH_take (i := 1) (v := ?_) rfl (by kernel_rfl) (by kernel_rfl) (by kernel_rfl) (fun _ _ _ h => h) (Or.inl ⟨by rfl, ?_⟩) (by assumption) ?_
              rotate_left
              · intro w hSw; (try dsimp only at hSw); obtain ⟨⟨p0, p1⟩, ⟨g0, g1, g2, g3, g4, g5, g6, g7⟩, _, _, _⟩ := AT.out w hSw; go_simp; (try with_reducible rfl)
              simp only [List.getElem_toArray, List.getElem_cons_succ, List.getElem_cons_zero, Act.put, List.setIfInBounds_toArray, List.set_cons_zero, List.set_cons_succ]
              refine wpAnyH_take (i := 2) (v := ?_) rfl (by kernel_rfl) (by kernel_rfl) (by kernel_rfl) (fun _ _ _ h => h) (Or.inl ⟨by rfl, ?_⟩) (by assumption) ?_
              rotate_left
              · intro w hSw; (try dsimp only at hSw); obtain ⟨⟨p0, p1⟩, ⟨g0, g1, g2, g3, g4, g5, g6, g7⟩, _, _, _⟩ := AT.out w hSw; go_simp; (try with_reducible rfl)
              simp only [List.getElem_toArray, List.getElem_cons_succ, List.getElem_cons_zero, Act.put, List.setIfInBounds_toArray, List.set_cons_zero, List.set_cons_succ]
              refine wpAnyH_take (i := 3) (v := ?_) rfl (by kernel_rfl) (by kernel_rfl) (by kernel_rfl) (fun _ _ _ h => h) (Or.inl ⟨by rfl, ?_⟩) (by assumption) ?_
              rotate_left
              · intro w hSw; (try dsimp only at hSw); obtain ⟨⟨p0, p1⟩, ⟨g0, g1, g2, g3, g4, g5, g6, g7⟩, _, _, _⟩ := AT.out w hSw; go_simp; (try with_reducible rfl)
              simp only [List.getElem_toArray, List.getElem_cons_succ, List.getElem_cons_zero, Act.put, List.setIfInBounds_toArray, List.set_cons_zero, List.set_cons_succ]
              refine wpAnyH_take (i := 4) (v := ?_) rfl (by kernel_rfl) (by kernel_rfl) (by kernel_rfl) (fun _ _ _ h => h) (Or.inl ⟨by rfl, ?_⟩) (by assumption) ?_
              rotate_left
              · intro w hSw; (try dsimp only at hSw); obtain ⟨⟨p0, p1⟩, ⟨g0, g1, g2, g3, g4, g5, g6, g7⟩, _, _, _⟩ := AT.out w hSw; go_simp; (try with_reducible rfl)
              simp only [List.getElem_toArray, List.getElem_cons_succ, List.getElem_cons_zero, Act.put, List.setIfInBounds_toArray, List.set_cons_zero, List.set_cons_succ]
              refine wpAnyH_take (i := 5) (v := ?_) rfl (by kernel_rfl) (by kernel_rfl) (by kernel_rfl) (fun _ _ _ h => h) (Or.inl ⟨by rfl, ?_⟩) (by assumption) ?_
              rotate_left
              · intro w hSw; (try dsimp only at hSw); obtain ⟨⟨p0, p1⟩, ⟨g0, g1, g2, g3, g4, g5, g6, g7⟩, _, _, _⟩ := AT.out w hSw; go_simp; (try with_reducible rfl)
              simp only [List.getElem_toArray, List.getElem_cons_succ, List.getElem_cons_zero, Act.put, List.setIfInBounds_toArray, List.set_cons_zero, List.set_cons_succ]
              refine wpAnyH_take (i := 6) (v := ?_) rfl (by kernel_rfl) (by kernel_rfl) (by kernel_rfl) (fun _ _ _ h => h) (Or.inl ⟨by rfl, ?_⟩) (by assumption) ?_
              rotate_left
              · intro w hSw; (try dsimp only at hSw); obtain ⟨⟨p0, p1⟩, ⟨g0, g1, g2, g3, g4, g5, g6, g7⟩, _, _, _⟩ := AT.out w hSw; go_simp; (try with_reducible rfl)
              simp only [List.getElem_toArray, List.getElem_cons_succ, List.getElem_cons_zero, Act.put, List.setIfInBounds_toArray, List.set_cons_zero, List.set_cons_succ]
              refine wpAnyH_take (i := 7) (v := ?_) rfl (by kernel_rfl) (by kernel_rfl) (by kernel_rfl) (fun _ _ _ h => h) (Or.inl ⟨by rfl, ?_⟩) (by assumption) ?_
              rotate_left
              · intro w hSw; (try dsimp only at hSw); obtain ⟨⟨p0, p1⟩, ⟨g0, g1, g2, g3, g4, g5, g6, g7⟩, _, _, _⟩ := AT.out w hSw; go_simp; (try with_reducible rfl)
              simp only [List.getElem_toArray, List.getElem_cons_succ, List.getElem_cons_zero, Act.put, List.setIfInBounds_toArray, List.set_cons_zero, List.set_cons_succ]
              refine wpAnyH_take (i := 8) (v := ?_) rfl (by kernel_rfl) (by kernel_rfl) (by kernel_rfl) (fun _ _ _ h => h) (Or.inl ⟨by rfl, ?_⟩) (by assumption) ?_
              rotate_left
              · intro w hSw; (try dsimp only at hSw); obtain ⟨⟨p0, p1⟩, ⟨g0, g1, g2, g3, g4, g5, g6, g7⟩, _, _, _⟩ := AT.out w hSw; go_simp; (try with_reducible rfl)
              simp only [List.getElem_toArray, List.getElem_cons_succ, List.getElem_cons_zero, Act.put, List.setIfInBounds_toArray, List.set_cons_zero, List.set_cons_succ]
              refine wpAnyH_take (i := 9) (v := ?_) rfl (by kernel_rfl) (by kernel_rfl) (by kernel_rfl) (fun _ _ _ h => h) (Or.inl ⟨by rfl, ?_⟩) (by assumption) ?_
              rotate_left
              · intro w hSw; (try dsimp only at hSw); obtain ⟨⟨p0, p1⟩, ⟨g0, g1, g2, g3, g4, g5, g6, g7⟩, _, _, _⟩ := AT.out w hSw; go_simp; (try with_reducible rfl)
              simp only [List.getElem_toArray, List.getElem_cons_succ, List.getElem_cons_zero, Act.put, List.setIfInBounds_toArray, List.set_cons_zero, List.set_cons_succ]
              refine wpAnyH_ready (rs := [10]) (by kernel_rfl) (by simp) ?_
              refine AllReadyH.cons rfl (fun K hK => ?_) AllReadyH.nil
              go_simp
              (go_at_call 44; (refine (NX.out _ (below_drew (Below.refl _ _))).mono ?_); rintro z w4 ⟨rfl, b4⟩; have B4 := Lib.hid b4; clear b4)
              refine hK.out _ _ ?_ (fun hHeld1 => ?_)
              · exact B4.out
              clear hK K hHeld0
              try simp only [List.getElem_toArray, List.getElem_cons_succ, List.getElem_cons_zero, Act.put, List.setIfInBounds_toArray, List.set_cons_zero, List.set_cons_succ]
              refine wpAnyH_take (i := 11) (v := ?_) rfl (by kernel_rfl) (by kernel_rfl) (by kernel_rfl) (fun _ _ _ h => h) (Or.inl ⟨by rfl, ?_⟩) (by assumption) ?_
              rotate_left
              · intro w hSw; (try dsimp only at hSw); obtain ⟨⟨p0, p1⟩, ⟨g0, g1, g2, g3, g4, g5, g6, g7⟩, _, _, _⟩ := AT.out w hSw; go_simp; (try with_reducible rfl)
              simp only [List.getElem_toArray, List.getElem_cons_succ, List.getElem_cons_zero, Act.put, List.setIfInBounds_toArray, List.set_cons_zero, List.set_cons_succ]
              refine wpAnyH_take (i := 12) (v := ?_) rfl (by kernel_rfl) (by kernel_rfl) (by kernel_rfl) (fun _ _ _ h => h) (Or.inl ⟨by rfl, ?_⟩) (by assumption) ?_
              rotate_left
              · intro w hSw; (try dsimp only at hSw); obtain ⟨⟨p0, p1⟩, ⟨g0, g1, g2, g3, g4, g5, g6, g7⟩, _, _, _⟩ := AT.out w hSw; go_simp; (try with_reducible rfl)
              simp only [List.getElem_toArray, List.getElem_cons_succ, List.getElem_cons_zero, Act.put, List.setIfInBounds_toArray, List.set_cons_zero, List.set_cons_succ]
              refine wpAnyH_take (i := 13) (v := ?_) rfl (by kernel_rfl) (by kernel_rfl) (by kernel_rfl) (fun _ _ _ h => h) (Or.inl ⟨by rfl, ?_⟩) (by assumption) ?_
              rotate_left
              · intro w hSw; (try dsimp only at hSw); obtain ⟨⟨p0, p1⟩, ⟨g0, g1, g2, g3, g4, g5, g6, g7⟩, _, _, _⟩ := AT.out w hSw; go_simp; (try with_reducible rfl)
              simp only [List.getElem_toArray, List.getElem_cons_succ, List.getElem_cons_zero, Act.put, List.setIfInBounds_toArray, List.set_cons_zero, List.set_cons_succ]
              refine wpAnyH_take (i := 14) (v := ?_) rfl (by kernel_rfl) (by kernel_rfl) (by kernel_rfl) (fun _ _ _ h => h) (Or.inl ⟨by rfl, ?_⟩) (by assumption) ?_
              rotate_left
              · intro w hSw; (try dsimp only at hSw); obtain ⟨⟨p0, p1⟩, ⟨g0, g1, g2, g3, g4, g5, g6, g7⟩, _, _, _⟩ := AT.out w hSw; go_simp; (try with_reducible rfl)
              simp only [List.getElem_toArray, List.getElem_cons_succ, List.getElem_cons_zero, Act.put, List.setIfInBounds_toArray, List.set_cons_zero, List.set_cons_succ]
              refine wpAnyH_take (i := 15) (v := ?_) rfl (by kernel_rfl) (by kernel_rfl) (by kernel_rfl) (fun _ _ _ h => h) (Or.inl ⟨by rfl, ?_⟩) (by assumption) ?_
              rotate_left
              · intro w hSw; (try dsimp only at hSw); obtain ⟨⟨p0, p1⟩, ⟨g0, g1, g2, g3, g4, g5, g6, g7⟩, _, _, _⟩ := AT.out w hSw; go_simp; (try with_reducible rfl)
              simp only [List.getElem_toArray, List.getElem_cons_succ, List.getElem_cons_zero, Act.put, List.setIfInBounds_toArray, List.set_cons_zero, List.set_cons_succ]
              refine wpAnyH_take (i := 16) (v := ?_) rfl (by kernel_rfl) (by kernel_rfl) (by kernel_rfl) (fun _ _ _ h => h) (Or.inl ⟨by rfl, ?_⟩) (by assumption) ?_
              rotate_left
              · intro w hSw; (try dsimp only at hSw); obtain ⟨⟨p0, p1⟩, ⟨g0, g1, g2, g3, g4, g5, g6, g7⟩, _, _, _⟩ := AT.out w hSw; go_simp; (try with_reducible rfl)
              simp only [List.getElem_toArray, List.getElem_cons_succ, List.getElem_cons_zero, Act.put, List.setIfInBounds_toArray, List.set_cons_zero, List.set_cons_succ]
              refine wpAnyH_take (i := 17) (v := ?_) rfl (by kernel_rfl) (by kernel_rfl) (by kernel_rfl) (fun _ _ _ h => h) (Or.inl ⟨by rfl, ?_⟩) (by assumption) ?_
              rotate_left
              · intro w hSw; (try dsimp only at hSw); obtain ⟨⟨p0, p1⟩, ⟨g0, g1, g2, g3, g4, g5, g6, g7⟩, _, _, _⟩ := AT.out w hSw; go_simp; (try with_reducible rfl)
              try simp only [List.getElem_toArray, List.getElem_cons_succ, List.getElem_cons_zero, Act.put, List.setIfInBounds_toArray, List.set_cons_zero, List.set_cons_succ]
              refine wpAnyH_done (by kernel_rfl) ?_ _
              obtain ⟨⟨q0, q1⟩, ⟨h0, h1, h2, h3, h4, h5, h6, h7⟩, ⟨_, _, l0, l1⟩, lf, _⟩ := AT.out _ B4.out
              go_wp2_with (go_at_call 37; (refine (BY.out _ B4.out).mono ?_); rintro z w5 ⟨rfl, b5⟩; have B5 := Lib.hid b5; have B6 := Lib.hid (b5.alloc (BB.out _ b5).2 (.cells #[.int .i64 yid, .string ymail, .bool yver, .string ysalt, .string ychk, .int .i64 yvers, .int .i64 ymiss, .int .i64 ylock, .string yc0, .string yc1, .string yc2, .string yc3, .string yc4] 34)); clear b5; obtain ⟨⟨q0, q1⟩, ⟨h0, h1, h2, h3, h4, h5, h6, h7⟩, ⟨_, _, l0, l1⟩, lf, _⟩ := AT.out _ B6.out)
              obtain ⟨⟨q0, q1⟩, _, ⟨_, _, l0, l1⟩, lf, _⟩ := AT.out _ B6.out
              skip
              refine bodyPost_ret (v := .tuple #[.agg #[.slice a L.length c, .slice a' S.length c'], .int .i64 15]) ?_ rfl ⟨_, by rw [RE.out], ?_, ?_⟩
              · simp [results, Tryz.f34, go_sem, l0, l1]
              · rw [RR.out]
                exact ⟨a, c, a', c', rfl, (OP.out _ (((BB.out _ B6.out).1.setCell (by first | omega | (simp; omega) | simp) _).setCell (by first | omega | (simp; omega) | simp) _)).1, (OP.out _ (((BB.out _ B6.out).1.setCell (by first | omega | (simp; omega) | simp) _).setCell (by first | omega | (simp; omega) | simp) _)).2⟩
              · exact (((BB.out _ B6.out).1.setCell (by first | omega | (simp; omega) | simp) _).setCell (by first | omega | (simp; omega) | simp) _)
            · have h12' : ¬ (12 : Int) ≤ L.length := by omega
              have RE : Hid (se = 0) := Lib.hid (by rw [SE.out, if_neg hor, if_neg (by decide), if_neg h12])
              have RR : Hid (sr = ⟨L ++ [(⟨ac, ea, false, eb, ec, 1, 0, 0, ⟨#[]⟩, ⟨#[]⟩, ⟨#[]⟩, ⟨#[]⟩, ⟨#[]⟩⟩ : Per.R)], S⟩) := Lib.hid (by rw [SR.out, RE.out, if_pos rfl])
              clear SE SR
              go_enter Tryz.func34, Tryz.ntmps34
              go_wp2_with (first
                | (go_at_call 36; (refine (ON.out _).mono ?_); rintro z w2 ⟨rfl, rfl⟩)
                | (go_at_call 39; (refine (KY.out _).mono ?_); rintro z w3 ⟨rfl, rfl⟩))
              refine wp_region_held_drew (S := fun w' => Below (w.heap.size + 3) (((w.alloc (.cells #[.slice a L.length c, .slice a' S.length c'] 25)).alloc (.cells #[.int .i64 kd, .int .i64 ac, .int .i64 pu, .int .i64 t, .int .i64 nu, .string ea, .string eb, .string ec] 46)).alloc (.cells #[.slice none 0 0, .slice none 0 0] 25)) w') (by kernel_rfl) ?_ (fun hHeld0 => ?_)
              · exact below_drew (Below.refl _ _)
              refine wpAnyH_take (i := 0) (v := ?_) rfl (by kernel_rfl) (by kernel_rfl) (by kernel_rfl) (fun _ _ _ h => h) (Or.inl ⟨by rfl, ?_⟩) (by assumption) ?_
              rotate_left
              · intro w hSw; (try dsimp only at hSw); obtain ⟨⟨p0, p1⟩, ⟨g0, g1, g2, g3, g4, g5, g6, g7⟩, _, _, _⟩ := AT.out w hSw; go_simp; (try with_reducible rfl)
              simp only [List.getElem_toArray, List.getElem_cons_zero, Act.put, List.setIfInBounds_toArray, List.set_cons_zero, List.set_cons_succ]
              refine wpAnyH_take (i := 1) (v := ?_) rfl (by kernel_rfl) (by kernel_rfl) (by kernel_rfl) (fun _ _ _ h => h) (Or.inl ⟨by rfl, ?_⟩) (by assumption) ?_
              rotate_left
              · intro w hSw; (try dsimp only at hSw); obtain ⟨⟨p0, p1⟩, ⟨g0, g1, g2, g3, g4, g5, g6, g7⟩, _, _, _⟩ := AT.out w hSw; go_simp; (try with_reducible rfl)
              simp only [List.getElem_toArray, List.getElem_cons_succ, List.getElem_cons_zero, Act.put, List.setIfInBounds_toArray, List.set_cons_zero, List.set_cons_succ]
              refine wpAnyH_take (i := 2) (v := ?_) rfl (by kernel_rfl) (by kernel_rfl) (by kernel_rfl) (fun _ _ _ h => h) (Or.inl ⟨by rfl, ?_⟩) (by assumption) ?_
              rotate_left
              · intro w hSw; (try dsimp only at hSw); obtain ⟨⟨p0, p1⟩, ⟨g0, g1, g2, g3, g4, g5, g6, g7⟩, _, _, _⟩ := AT.out w hSw; go_simp; (try with_reducible rfl)
              simp only [List.getElem_toArray, List.getElem_cons_succ, List.getElem_cons_zero, Act.put, List.setIfInBounds_toArray, List.set_cons_zero, List.set_cons_succ]
              refine wpAnyH_take (i := 3) (v := ?_) rfl (by kernel_rfl) (by kernel_rfl) (by kernel_rfl) (fun _ _ _ h => h) (Or.inl ⟨by rfl, ?_⟩) (by assumption) ?_
              rotate_left
              · intro w hSw; (try dsimp only at hSw); obtain ⟨⟨p0, p1⟩, ⟨g0, g1, g2, g3, g4, g5, g6, g7⟩, _, _, _⟩ := AT.out w hSw; go_simp; (try with_reducible rfl)
              simp only [List.getElem_toArray, List.getElem_cons_succ, List.getElem_cons_zero, Act.put, List.setIfInBounds_toArray, List.set_cons_zero, List.set_cons_succ]
              refine wpAnyH_take (i := 4) (v := ?_) rfl (by kernel_rfl) (by kernel_rfl) (by kernel_rfl) (fun _ _ _ h => h) (Or.inl ⟨by rfl, ?_⟩) (by assumption) ?_
              rotate_left
              · intro w hSw; (try dsimp only at hSw); obtain ⟨⟨p0, p1⟩, ⟨g0, g1, g2, g3, g4, g5, g6, g7⟩, _, _, _⟩ := AT.out w hSw; go_simp; (try with_reducible rfl)
              simp only [List.getElem_toArray, List.getElem_cons_succ, List.getElem_cons_zero, Act.put, List.setIfInBounds_toArray, List.set_cons_zero, List.set_cons_succ]
              refine wpAnyH_take (i := 5) (v := ?_) rfl (by kernel_rfl) (by kernel_rfl) (by kernel_rfl) (fun _ _ _ h => h) (Or.inl ⟨by rfl, ?_⟩) (by assumption) ?_
              rotate_left
              · intro w hSw; (try dsimp only at hSw); obtain ⟨⟨p0, p1⟩, ⟨g0, g1, g2, g3, g4, g5, g6, g7⟩, _, _, _⟩ := AT.out w hSw; go_simp; (try with_reducible rfl)
              simp only [List.getElem_toArray, List.getElem_cons_succ, List.getElem_cons_zero, Act.put, List.setIfInBounds_toArray, List.set_cons_zero, List.set_cons_succ]
              refine wpAnyH_take (i := 6) (v := ?_) rfl (by kernel_rfl) (by kernel_rfl) (by kernel_rfl) (fun _ _ _ h => h) (Or.inl ⟨by rfl, ?_⟩) (by assumption) ?_
              rotate_left
              · intro w hSw; (try dsimp only at hSw); obtain ⟨⟨p0, p1⟩, ⟨g0, g1, g2, g3, g4, g5, g6, g7⟩, _, _, _⟩ := AT.out w hSw; go_simp; (try with_reducible rfl)
              simp only [List.getElem_toArray, List.getElem_cons_succ, List.getElem_cons_zero, Act.put, List.setIfInBounds_toArray, List.set_cons_zero, List.set_cons_succ]
              refine wpAnyH_take (i := 7) (v := ?_) rfl (by kernel_rfl) (by kernel_rfl) (by kernel_rfl) (fun _ _ _ h => h) (Or.inl ⟨by rfl, ?_⟩) (by assumption) ?_
              rotate_left
              · intro w hSw; (try dsimp only at hSw); obtain ⟨⟨p0, p1⟩, ⟨g0, g1, g2, g3, g4, g5, g6, g7⟩, _, _, _⟩ := AT.out w hSw; go_simp; (try with_reducible rfl)
              simp only [List.getElem_toArray, List.getElem_cons_succ, List.getElem_cons_zero, Act.put, List.setIfInBounds_toArray, List.set_cons_zero, List.set_cons_succ]
              refine wpAnyH_take (i := 8) (v := ?_) rfl (by kernel_rfl) (by kernel_rfl) (by kernel_rfl) (fun _ _ _ h => h) (Or.inl ⟨by rfl, ?_⟩) (by assumption) ?_
              rotate_left
              · intro w hSw; (try dsimp only at hSw); obtain ⟨⟨p0, p1⟩, ⟨g0, g1, g2, g3, g4, g5, g6, g7⟩, _, _, _⟩ := AT.out w hSw; go_simp; (try with_reducible rfl)
              simp only [List.getElem_toArray, List.getElem_cons_succ, List.getElem_cons_zero, Act.put, List.setIfInBounds_toArray, List.set_cons_zero, List.set_cons_succ]
              refine wpAnyH_take (i := 9) (v := ?_) rfl (by kernel_rfl) (by kernel_rfl) (by kernel_rfl) (fun _ _ _ h => h) (Or.inl ⟨by rfl, ?_⟩) (by assumption) ?_
              rotate_left
              · intro w hSw; (try dsimp only at hSw); obtain ⟨⟨p0, p1⟩, ⟨g0, g1, g2, g3, g4, g5, g6, g7⟩, _, _, _⟩ := AT.out w hSw; go_simp; (try with_reducible rfl)
              simp only [List.getElem_toArray, List.getElem_cons_succ, List.getElem_cons_zero, Act.put, List.setIfInBounds_toArray, List.set_cons_zero, List.set_cons_succ]
              refine wpAnyH_ready (rs := [10]) (by kernel_rfl) (by simp) ?_
              refine AllReadyH.cons rfl (fun K hK => ?_) AllReadyH.nil
              go_simp
              (go_at_call 44; (refine (NX.out _ (below_drew (Below.refl _ _))).mono ?_); rintro z w4 ⟨rfl, b4⟩; have B4 := Lib.hid b4; clear b4)
              refine hK.out _ _ ?_ (fun hHeld1 => ?_)
              · exact B4.out
              clear hK K hHeld0
              try simp only [List.getElem_toArray, List.getElem_cons_succ, List.getElem_cons_zero, Act.put, List.setIfInBounds_toArray, List.set_cons_zero, List.set_cons_succ]
              refine wpAnyH_take (i := 11) (v := ?_) rfl (by kernel_rfl) (by kernel_rfl) (by kernel_rfl) (fun _ _ _ h => h) (Or.inl ⟨by rfl, ?_⟩) (by assumption) ?_
              rotate_left
              · intro w hSw; (try dsimp only at hSw); obtain ⟨⟨p0, p1⟩, ⟨g0, g1, g2, g3, g4, g5, g6, g7⟩, _, _, _⟩ := AT.out w hSw; go_simp; (try with_reducible rfl)
              simp only [List.getElem_toArray, List.getElem_cons_succ, List.getElem_cons_zero, Act.put, List.setIfInBounds_toArray, List.set_cons_zero, List.set_cons_succ]
              refine wpAnyH_take (i := 12) (v := ?_) rfl (by kernel_rfl) (by kernel_rfl) (by kernel_rfl) (fun _ _ _ h => h) (Or.inl ⟨by rfl, ?_⟩) (by assumption) ?_
              rotate_left
              · intro w hSw; (try dsimp only at hSw); obtain ⟨⟨p0, p1⟩, ⟨g0, g1, g2, g3, g4, g5, g6, g7⟩, _, _, _⟩ := AT.out w hSw; go_simp; (try with_reducible rfl)
              simp only [List.getElem_toArray, List.getElem_cons_succ, List.getElem_cons_zero, Act.put, List.setIfInBounds_toArray, List.set_cons_zero, List.set_cons_succ]
              refine wpAnyH_take (i := 13) (v := ?_) rfl (by kernel_rfl) (by kernel_rfl) (by kernel_rfl) (fun _ _ _ h => h) (Or.inl ⟨by rfl, ?_⟩) (by assumption) ?_
              rotate_left
              · intro w hSw; (try dsimp only at hSw); obtain ⟨⟨p0, p1⟩, ⟨g0, g1, g2, g3, g4, g5, g6, g7⟩, _, _, _⟩ := AT.out w hSw; go_simp; (try with_reducible rfl)
              simp only [List.getElem_toArray, List.getElem_cons_succ, List.getElem_cons_zero, Act.put, List.setIfInBounds_toArray, List.set_cons_zero, List.set_cons_succ]
              refine wpAnyH_take (i := 14) (v := ?_) rfl (by kernel_rfl) (by kernel_rfl) (by kernel_rfl) (fun _ _ _ h => h) (Or.inl ⟨by rfl, ?_⟩) (by assumption) ?_
              rotate_left
              · intro w hSw; (try dsimp only at hSw); obtain ⟨⟨p0, p1⟩, ⟨g0, g1, g2, g3, g4, g5, g6, g7⟩, _, _, _⟩ := AT.out w hSw; go_simp; (try with_reducible rfl)
              simp only [List.getElem_toArray, List.getElem_cons_succ, List.getElem_cons_zero, Act.put, List.setIfInBounds_toArray, List.set_cons_zero, List.set_cons_succ]
              refine wpAnyH_take (i := 15) (v := ?_) rfl (by kernel_rfl) (by kernel_rfl) (by kernel_rfl) (fun _ _ _ h => h) (Or.inl ⟨by rfl, ?_⟩) (by assumption) ?_
              rotate_left
              · intro w hSw; (try dsimp only at hSw); obtain ⟨⟨p0, p1⟩, ⟨g0, g1, g2, g3, g4, g5, g6, g7⟩, _, _, _⟩ := AT.out w hSw; go_simp; (try with_reducible rfl)
              simp only [List.getElem_toArray, List.getElem_cons_succ, List.getElem_cons_zero, Act.put, List.setIfInBounds_toArray, List.set_cons_zero, List.set_cons_succ]
              refine wpAnyH_take (i := 16) (v := ?_) rfl (by kernel_rfl) (by kernel_rfl) (by kernel_rfl) (fun _ _ _ h => h) (Or.inl ⟨by rfl, ?_⟩) (by assumption) ?_
              rotate_left
              · intro w hSw; (try dsimp only at hSw); obtain ⟨⟨p0, p1⟩, ⟨g0, g1, g2, g3, g4, g5, g6, g7⟩, _, _, _⟩ := AT.out w hSw; go_simp; (try with_reducible rfl)
              simp only [List.getElem_toArray, List.getElem_cons_succ, List.getElem_cons_zero, Act.put, List.setIfInBounds_toArray, List.set_cons_zero, List.set_cons_succ]
              refine wpAnyH_take (i := 17) (v := ?_) rfl (by kernel_rfl) (by kernel_rfl) (by kernel_rfl) (fun _ _ _ h => h) (Or.inl ⟨by rfl, ?_⟩) (by assumption) ?_
              rotate_left
              · intro w hSw; (try dsimp only at hSw); obtain ⟨⟨p0, p1⟩, ⟨g0, g1, g2, g3, g4, g5, g6, g7⟩, _, _, _⟩ := AT.out w hSw; go_simp; (try with_reducible rfl)
              try simp only [List.getElem_toArray, List.getElem_cons_succ, List.getElem_cons_zero, Act.put, List.setIfInBounds_toArray, List.set_cons_zero, List.set_cons_succ]
              refine wpAnyH_done (by kernel_rfl) ?_ _
              obtain ⟨⟨q0, q1⟩, ⟨h0, h1, h2, h3, h4, h5, h6, h7⟩, ⟨_, _, l0, l1⟩, lf, _⟩ := AT.out _ B4.out
              go_upto_region 10 with (go_at_call 37; (refine (BY.out _ B4.out).mono ?_); rintro z w5 ⟨rfl, b5⟩; have B5 := Lib.hid b5; have B6 := Lib.hid (b5.alloc (BB.out _ b5).2 (.cells #[.int .i64 yid, .string ymail, .bool yver, .string ysalt, .string ychk, .int .i64 yvers, .int .i64 ymiss, .int .i64 ylock, .string yc0, .string yc1, .string yc2, .string yc3, .string yc4] 34)); clear b5; obtain ⟨⟨q0, q1⟩, ⟨h0, h1, h2, h3, h4, h5, h6, h7⟩, ⟨_, _, l0, l1⟩, lf, _⟩ := AT.out _ B6.out)
              have B6D := Lib.hid (below_drew B6.out)
              have L1 := lim1
              obtain ⟨w6, hw6⟩ : ∃ w6, w5.alloc (.cells #[.int .i64 yid, .string ymail, .bool yver, .string ysalt, .string ychk, .int .i64 yvers, .int .i64 ymiss, .int .i64 ylock, .string yc0, .string yc1, .string yc2, .string yc3, .string yc4] 34) = w6 := ⟨_, rfl⟩
              rw [hw6] at B6 B6D ⊢
              simp only [hw6] at q0 q1 h0 h1 h2 h3 h4 h5 h6 h7 l0 l1 lf
              clear hw6
              go_cut [5] (fun x5 wx => ∃ a7 c7, x5 = .int .i64 0 ∧ wx.heap[w.heap.size]? = some (pobj (.slice a7 (L.length + 1) c7) (.slice a' S.length c')) ∧ Per.owns wx (w.heap.size + 3) (.slice a7 (L.length + 1) c7) (L ++ [(⟨ac, ea, false, eb, ec, 1, 0, 0, ⟨#[]⟩, ⟨#[]⟩, ⟨#[]⟩, ⟨#[]⟩, ⟨#[]⟩⟩ : Per.R)]) ∧ wx.heap[w.heap.size + 2]? = some (pobj (.slice none 0 0) (.slice none 0 0)) ∧ Below w.heap.size w wx)
              case first =>
                refine wp_region_held_drew (S := fun w' => EvAt w' (w.heap.size + 1) ⟨kd, ac, pu, t, nu, ea, eb, ec⟩) (by kernel_rfl) ?_ (fun hHeld0 => ?_)
                · exact (AT.out _ B6D.out).ev
                refine wpAnyH_take (i := 1) (v := ?_) rfl (by kernel_rfl) (by kernel_rfl) (by kernel_rfl) (fun _ _ _ h => h) (Or.inl ⟨by rfl, ?_⟩) (by assumption) ?_
                rotate_left
                · intro w hSw; (try dsimp only at hSw); obtain ⟨g0, g1, g2, g3, g4, g5, g6, g7⟩ := hSw; simp only at g0 g1 g2 g3 g4 g5 g6 g7; go_simp; (try with_reducible rfl)
                simp only [List.getElem_toArray, List.getElem_cons_succ, List.getElem_cons_zero, Act.put, List.setIfInBounds_toArray, List.set_cons_zero, List.set_cons_succ]
                refine wpAnyH_take (i := 4) (v := ?_) rfl (by kernel_rfl) (by kernel_rfl) (by kernel_rfl) (fun _ _ _ h => h) (Or.inl ⟨by rfl, ?_⟩) (by assumption) ?_
                rotate_left
                · intro w hSw; (try dsimp only at hSw); obtain ⟨g0, g1, g2, g3, g4, g5, g6, g7⟩ := hSw; simp only at g0 g1 g2 g3 g4 g5 g6 g7; go_simp; (try with_reducible rfl)
                simp only [List.getElem_toArray, List.getElem_cons_succ, List.getElem_cons_zero, Act.put, List.setIfInBounds_toArray, List.set_cons_zero, List.set_cons_succ]
                refine wpAnyH_take (i := 5) (v := ?_) rfl (by kernel_rfl) (by kernel_rfl) (by kernel_rfl) (fun _ _ _ h => h) (Or.inl ⟨by rfl, ?_⟩) (by assumption) ?_
                rotate_left
                · intro w hSw; (try dsimp only at hSw); obtain ⟨g0, g1, g2, g3, g4, g5, g6, g7⟩ := hSw; simp only at g0 g1 g2 g3 g4 g5 g6 g7; go_simp; (try with_reducible rfl)
                simp only [List.getElem_toArray, List.getElem_cons_succ, List.getElem_cons_zero, Act.put, List.setIfInBounds_toArray, List.set_cons_zero, List.set_cons_succ]
                refine wpAnyH_take (i := 6) (v := ?_) rfl (by kernel_rfl) (by kernel_rfl) (by kernel_rfl) (fun _ _ _ h => h) (Or.inl ⟨by rfl, ?_⟩) (by assumption) ?_
                rotate_left
                · intro w hSw; (try dsimp only at hSw); obtain ⟨g0, g1, g2, g3, g4, g5, g6, g7⟩ := hSw; simp only at g0 g1 g2 g3 g4 g5 g6 g7; go_simp; (try with_reducible rfl)
                simp only [List.getElem_toArray, List.getElem_cons_succ, List.getElem_cons_zero, Act.put, List.setIfInBounds_toArray, List.set_cons_zero, List.set_cons_succ]
                refine wpAnyH_take (i := 7) (v := ?_) rfl (by kernel_rfl) (by kernel_rfl) (by kernel_rfl) (fun _ _ _ h => h) (Or.inl ⟨by rfl, ?_⟩) (by assumption) ?_
                rotate_left
                · intro w hSw; (try dsimp only at hSw); obtain ⟨g0, g1, g2, g3, g4, g5, g6, g7⟩ := hSw; simp only at g0 g1 g2 g3 g4 g5 g6 g7; go_simp; (try with_reducible rfl)
                simp only [List.getElem_toArray, List.getElem_cons_succ, List.getElem_cons_zero, Act.put, List.setIfInBounds_toArray, List.set_cons_zero, List.set_cons_succ]
                refine wpAnyH_take (i := 8) (v := ?_) rfl (by kernel_rfl) (by kernel_rfl) (by kernel_rfl) (fun _ _ _ h => h) (Or.inl ⟨by rfl, ?_⟩) (by assumption) ?_
                rotate_left
                · intro w hSw; (try dsimp only at hSw); obtain ⟨g0, g1, g2, g3, g4, g5, g6, g7⟩ := hSw; simp only at g0 g1 g2 g3 g4 g5 g6 g7; go_simp; (try with_reducible rfl)
                simp only [List.getElem_toArray, List.getElem_cons_succ, List.getElem_cons_zero, Act.put, List.setIfInBounds_toArray, List.set_cons_zero, List.set_cons_succ]
                refine wpAnyH_take (i := 9) (v := ?_) rfl (by kernel_rfl) (by kernel_rfl) (by kernel_rfl) (fun _ _ _ h => h) (Or.inl ⟨by rfl, ?_⟩) (by assumption) ?_
                rotate_left
                · intro w hSw; (try dsimp only at hSw); obtain ⟨g0, g1, g2, g3, g4, g5, g6, g7⟩ := hSw; simp only at g0 g1 g2 g3 g4 g5 g6 g7; go_simp; (try with_reducible rfl)
                simp only [List.getElem_toArray, List.getElem_cons_succ, List.getElem_cons_zero, Act.put, List.setIfInBounds_toArray, List.set_cons_zero, List.set_cons_succ]
                refine wpAnyH_take (i := 10) (v := ?_) rfl (by kernel_rfl) (by kernel_rfl) (by kernel_rfl) (fun _ _ _ h => h) (Or.inl ⟨by rfl, ?_⟩) (by assumption) ?_
                rotate_left
                · intro w hSw; (try dsimp only at hSw); obtain ⟨g0, g1, g2, g3, g4, g5, g6, g7⟩ := hSw; simp only at g0 g1 g2 g3 g4 g5 g6 g7; go_simp; (try with_reducible rfl)
                simp only [List.getElem_toArray, List.getElem_cons_succ, List.getElem_cons_zero, Act.put, List.setIfInBounds_toArray, List.set_cons_zero, List.set_cons_succ]
                refine wpAnyH_take (i := 11) (v := ?_) rfl (by kernel_rfl) (by kernel_rfl) (by kernel_rfl) (fun _ _ _ h => h) (Or.inl ⟨by rfl, ?_⟩) (by assumption) ?_
                rotate_left
                · intro w hSw; (try dsimp only at hSw); obtain ⟨g0, g1, g2, g3, g4, g5, g6, g7⟩ := hSw; simp only at g0 g1 g2 g3 g4 g5 g6 g7; go_simp; (try with_reducible rfl)
                simp only [List.getElem_toArray, List.getElem_cons_succ, List.getElem_cons_zero, Act.put, List.setIfInBounds_toArray, List.set_cons_zero, List.set_cons_succ]
                refine wpAnyH_take (i := 12) (v := ?_) rfl (by kernel_rfl) (by kernel_rfl) (by kernel_rfl) (fun _ _ _ h => h) (Or.inl ⟨by rfl, ?_⟩) (by assumption) ?_
                rotate_left
                · intro w hSw; (try dsimp only at hSw); obtain ⟨g0, g1, g2, g3, g4, g5, g6, g7⟩ := hSw; simp only at g0 g1 g2 g3 g4 g5 g6 g7; go_simp; (try with_reducible rfl)
                simp only [List.getElem_toArray, List.getElem_cons_succ, List.getElem_cons_zero, Act.put, List.setIfInBounds_toArray, List.set_cons_zero, List.set_cons_succ]
                refine wpAnyH_ready (rs := [0, 2, 13]) (by kernel_rfl) (by simp) ?_
                refine AllReadyH.cons rfl (fun K hK => ?_) (AllReadyH.cons rfl (fun K hK => ?_) (AllReadyH.cons rfl (fun K hK => ?_) (AllReadyH.nil)))
                · skip
                  go_simp
                  have N10 := Lib.hid (B6.out.alloc (BB.out _ B6.out).2 (.cells #[] 34))
                  have B10 := Lib.hid (below_drew N10.out)
                  refine hK.out _ _ ?_ (fun hHeldN => ?_)
                  · exact (AT.out _ B10.out).ev
                  clear hK K
                  try simp only [List.getElem_toArray, List.getElem_cons_succ, List.getElem_cons_zero, Act.put, List.setIfInBounds_toArray, List.set_cons_zero, List.set_cons_succ]
                  refine wpAnyH_ready (rs := [2, 13]) (by kernel_rfl) (by simp) ?_
                  refine AllReadyH.cons rfl (fun K hK => ?_) (AllReadyH.cons rfl (fun K hK => ?_) (AllReadyH.nil))
                  · skip
                    obtain ⟨⟨p0, p1⟩, _⟩ := AT.out ((w6.alloc (.cells #[] 34)).drew) B10.out
                    go_simp
                    refine hK.out _ _ ?_ (fun hHeldN => ?_)
                    · exact (AT.out _ B10.out).ev
                    clear hK K
                    try simp only [List.getElem_toArray, List.getElem_cons_succ, List.getElem_cons_zero, Act.put, List.setIfInBounds_toArray, List.set_cons_zero, List.set_cons_succ]
                    clear p0 p1
                    refine wpAnyH_ready (rs := [3, 13]) (by kernel_rfl) (by simp) ?_
                    refine AllReadyH.cons rfl (fun K hK => ?_) (AllReadyH.cons rfl (fun K hK => ?_) (AllReadyH.nil))
                    · skip
                      have S6 := (BB.out _ B6.out).2
                      obtain ⟨a8, c8, w8, ra8, o8, gr8⟩ := Per.onto (w := (w6.alloc (.cells #[] 34)).drew) (q := w6.heap.size) (B := w.heap.size + 3) (OP.out _ (BB.out _ B10.out).1).1 (heap_new w6 (.cells #[] 34)) (by omega) (by omega) 22
                      have B12 := Lib.hid (B10.out.grown gr8 (BB.out _ B10.out).2 (fun k hk => by cases hk; omega))
                      have RA8 := Lib.hid ra8
                      have O8 := Lib.hid o8
                      clear ra8 o8 gr8 S6
                      refine step_append_at rfl (.tmp 51) (.tmp 53) 22 rfl _ _ _ (by simp [Act.eval]) (by simp [Act.eval]) _ RA8.out ?_
                      refine hK.out _ _ ?_ (fun hHeldN => ?_)
                      · exact (AT.out _ B12.out).ev
                      clear hK K
                      try simp only [List.getElem_toArray, List.getElem_cons_succ, List.getElem_cons_zero, Act.put, List.setIfInBounds_toArray, List.set_cons_zero, List.set_cons_succ]
                      refine wpAnyH_ready (rs := [13]) (by kernel_rfl) (by simp) ?_
                      refine AllReadyH.cons rfl (fun K hK => ?_) (AllReadyH.nil)
                      go_simp
                      have B13 := Lib.hid (B12.out.alloc (BB.out _ B12.out).2 (.cells #[.int .i64 ac, .string ea, .bool false, .string eb, .string ec, .int .i64 1, .int .i64 0, .int .i64 0, .string ⟨#[]⟩, .string ⟨#[]⟩, .string ⟨#[]⟩, .string ⟨#[]⟩, .string ⟨#[]⟩] 34))
                      refine hK.out _ _ ?_ (fun hHeldN => ?_)
                      · exact (AT.out _ B13.out).ev
                      clear hK K
                      try simp only [List.getElem_toArray, List.getElem_cons_succ, List.getElem_cons_zero, Act.put, List.setIfInBounds_toArray, List.set_cons_zero, List.set_cons_succ]
                      refine wpAnyH_ready (rs := [14]) (by kernel_rfl) (by simp) ?_
                      refine AllReadyH.cons rfl (fun K hK => ?_) (AllReadyH.nil)
                      obtain ⟨a9, c9, w9, ra9, o9, gr9⟩ := Per.push (w := (w8.alloc (.cells #[.int .i64 ac, .string ea, .bool false, .string eb, .string ec, .int .i64 1, .int .i64 0, .int .i64 0, .string ⟨#[]⟩, .string ⟨#[]⟩, .string ⟨#[]⟩, .string ⟨#[]⟩, .string ⟨#[]⟩] 34))) (q := w8.heap.size) (⟨ac, ea, false, eb, ec, 1, 0, 0, ⟨#[]⟩, ⟨#[]⟩, ⟨#[]⟩, ⟨#[]⟩, ⟨#[]⟩⟩ : Per.R) (O8.out.below ((Below.refl w8.heap.size w8).alloc (Nat.le_refl _) _)) (BB.out _ B13.out).2 (by omega) (heap_new w8 (.cells #[.int .i64 ac, .string ea, .bool false, .string eb, .string ec, .int .i64 1, .int .i64 0, .int .i64 0, .string ⟨#[]⟩, .string ⟨#[]⟩, .string ⟨#[]⟩, .string ⟨#[]⟩, .string ⟨#[]⟩] 34)) 22
                      have B20 := Lib.hid (B13.out.grown gr9 (BB.out _ B13.out).2 (fun k hk => (World.ownsRow.lt O8.out k hk).1))
                      have RA9 := Lib.hid ra9
                      have O9 := Lib.hid o9
                      clear ra9 o9 gr9
                      refine step_append_at rfl (.tmp 54) (.tmp 64) 22 rfl _ _ _ (by simp [Act.eval]) (by simp [Act.eval]) _ RA9.out ?_
                      refine hK.out _ _ ?_ (fun hHeldN => ?_)
                      · exact (AT.out _ B20.out).ev
                      clear hK K
                      try simp only [List.getElem_toArray, List.getElem_cons_succ, List.getElem_cons_zero, Act.put, List.setIfInBounds_toArray, List.set_cons_zero, List.set_cons_succ]
                      refine wpAnyH_take (i := 15) (v := ?_) rfl (by kernel_rfl) (by kernel_rfl) (by kernel_rfl) (fun _ _ _ h => h) (Or.inl ⟨by rfl, ?_⟩) (by assumption) ?_
                      rotate_left
                      · intro w hSw; (try dsimp only at hSw); obtain ⟨g0, g1, g2, g3, g4, g5, g6, g7⟩ := hSw; simp only at g0 g1 g2 g3 g4 g5 g6 g7; go_simp; (try with_reducible rfl)
                      try simp only [List.getElem_toArray, List.getElem_cons_succ, List.getElem_cons_zero, Act.put, List.setIfInBounds_toArray, List.set_cons_zero, List.set_cons_succ]
                      have HP9 := PH.out _ B20.out
                      obtain ⟨⟨p0, p1⟩, pf⟩ := pcell_of (v1 := .slice a L.length c) (v2 := .slice a' S.length c') HP9
                      obtain ⟨_, ⟨t0, t1, t2, t3, t4, t5, t6, t7⟩, _, _, hres⟩ := AT.out _ B20.out
                      have HPS := Lib.hid (heap_setCell_same w9 w.heap.size 0 _ 25 (.slice a9 (L.length + 1) c9) HP9)
                      have HRS := Lib.hid ((Below.heap_setCell w9 ⟨w.heap.size, 0, none⟩ (.slice a9 (L.length + 1) c9) (w.heap.size + 2) (by simp)).trans hres)
                      clear HP9 hres
                      refine wpAnyH_ready (rs := [16]) (by kernel_rfl) (by simp) ?_
                      refine AllReadyH.cons rfl (fun K hK => ?_) (AllReadyH.nil)
                      go_simp
                      refine hK.out _ _ ?_ (fun hHeldN => ?_)
                      · exact ⟨(cell_far (by omega)).trans t0, (cell_far (by omega)).trans t1, (cell_far (by omega)).trans t2, (cell_far (by omega)).trans t3, (cell_far (by omega)).trans t4, (cell_far (by omega)).trans t5, (cell_far (by omega)).trans t6, (cell_far (by omega)).trans t7⟩
                      clear hK K
                      try simp only [List.getElem_toArray, List.getElem_cons_succ, List.getElem_cons_zero, Act.put, List.setIfInBounds_toArray, List.set_cons_zero, List.set_cons_succ]
                      refine wpAnyH_done (by kernel_rfl) ?_ _
                      go_wp2_with fail
                      go_meet
                      case rel => exact ⟨a9, c9, rfl, HPS.out, by simpa using (O9.out.apart (b := w.heap.size) (k := 0) (by omega) (.slice a9 (L.length + 1) c9)), HRS.out, (BB.out _ B20.out).1.setCell (Nat.le_refl _) _⟩
                    · skip
                      go_simp
                      have N12 := Lib.hid (N10.out.alloc (BB.out _ N10.out).2 (.cells #[.int .i64 ac, .string ea, .bool false, .string eb, .string ec, .int .i64 1, .int .i64 0, .int .i64 0, .string ⟨#[]⟩, .string ⟨#[]⟩, .string ⟨#[]⟩, .string ⟨#[]⟩, .string ⟨#[]⟩] 34))
                      have B12 := Lib.hid (below_drew N12.out)
                      refine hK.out _ _ ?_ (fun hHeldN => ?_)
                      · exact (AT.out _ B12.out).ev
                      clear hK K
                      try simp only [List.getElem_toArray, List.getElem_cons_succ, List.getElem_cons_zero, Act.put, List.setIfInBounds_toArray, List.set_cons_zero, List.set_cons_succ]
                      refine wpAnyH_ready (rs := [3]) (by kernel_rfl) (by simp) ?_
                      refine AllReadyH.cons rfl (fun K hK => ?_) (AllReadyH.nil)
                      have S6 := (BB.out _ B6.out).2
                      have hE : (((w6.alloc (.cells #[] 34)).alloc (.cells #[.int .i64 ac, .string ea, .bool false, .string eb, .string ec, .int .i64 1, .int .i64 0, .int .i64 0, .string ⟨#[]⟩, .string ⟨#[]⟩, .string ⟨#[]⟩, .string ⟨#[]⟩, .string ⟨#[]⟩] 34)).drew).heap[w6.heap.size]? = some (.cells #[] 34) := (Lib.alloc_old _ _ _ (by simp)).trans (heap_new w6 (.cells #[] 34))
                      have hN : (((w6.alloc (.cells #[] 34)).alloc (.cells #[.int .i64 ac, .string ea, .bool false, .string eb, .string ec, .int .i64 1, .int .i64 0, .int .i64 0, .string ⟨#[]⟩, .string ⟨#[]⟩, .string ⟨#[]⟩, .string ⟨#[]⟩, .string ⟨#[]⟩] 34)).drew).heap[w6.heap.size + 1]? = some (.cells #[.int .i64 ac, .string ea, .bool false, .string eb, .string ec, .int .i64 1, .int .i64 0, .int .i64 0, .string ⟨#[]⟩, .string ⟨#[]⟩, .string ⟨#[]⟩, .string ⟨#[]⟩, .string ⟨#[]⟩] 34) := by rw [← show (w6.alloc (.cells #[] 34)).heap.size = w6.heap.size + 1 by simp]; exact heap_new _ _
                      obtain ⟨a8, c8, w8, ra8, o8, gr8⟩ := Per.onto (w := ((w6.alloc (.cells #[] 34)).alloc (.cells #[.int .i64 ac, .string ea, .bool false, .string eb, .string ec, .int .i64 1, .int .i64 0, .int .i64 0, .string ⟨#[]⟩, .string ⟨#[]⟩, .string ⟨#[]⟩, .string ⟨#[]⟩, .string ⟨#[]⟩] 34)).drew) (q := w6.heap.size) (B := w.heap.size + 3) (OP.out _ (BB.out _ B12.out).1).1 hE (by omega) (by omega) 22
                      have B13 := Lib.hid (B12.out.grown gr8 (BB.out _ B12.out).2 (fun k hk => by cases hk; omega))
                      have HN8 := Lib.hid ((gr8.block (w6.heap.size + 1) (heap_lt hN) (by simp)).trans hN)
                      have RA8 := Lib.hid ra8
                      have O8 := Lib.hid o8
                      clear ra8 o8 gr8 S6 hE hN
                      refine step_append_at rfl (.tmp 51) (.tmp 53) 22 rfl _ _ _ (by simp [Act.eval]) (by simp [Act.eval]) _ RA8.out ?_
                      refine hK.out _ _ ?_ (fun hHeldN => ?_)
                      · exact (AT.out _ B13.out).ev
                      clear hK K
                      try simp only [List.getElem_toArray, List.getElem_cons_succ, List.getElem_cons_zero, Act.put, List.setIfInBounds_toArray, List.set_cons_zero, List.set_cons_succ]
                      refine wpAnyH_ready (rs := [14]) (by kernel_rfl) (by simp) ?_
                      refine AllReadyH.cons rfl (fun K hK => ?_) (AllReadyH.nil)
                      obtain ⟨a9, c9, w9, ra9, o9, gr9⟩ := Per.push (w := w8) (q := w6.heap.size + 1) (⟨ac, ea, false, eb, ec, 1, 0, 0, ⟨#[]⟩, ⟨#[]⟩, ⟨#[]⟩, ⟨#[]⟩, ⟨#[]⟩⟩ : Per.R) O8.out (BB.out _ B13.out).2 (by omega) HN8.out 22
                      have B20 := Lib.hid (B13.out.grown gr9 (BB.out _ B13.out).2 (fun k hk => (World.ownsRow.lt O8.out k hk).1))
                      have RA9 := Lib.hid ra9
                      have O9 := Lib.hid o9
                      clear ra9 o9 gr9
                      refine step_append_at rfl (.tmp 54) (.tmp 64) 22 rfl _ _ _ (by simp [Act.eval]) (by simp [Act.eval]) _ RA9.out ?_
                      refine hK.out _ _ ?_ (fun hHeldN => ?_)
                      · exact (AT.out _ B20.out).ev
                      clear hK K
                      try simp only [List.getElem_toArray, List.getElem_cons_succ, List.getElem_cons_zero, Act.put, List.setIfInBounds_toArray, List.set_cons_zero, List.set_cons_succ]
                      refine wpAnyH_take (i := 15) (v := ?_) rfl (by kernel_rfl) (by kernel_rfl) (by kernel_rfl) (fun _ _ _ h => h) (Or.inl ⟨by rfl, ?_⟩) (by assumption) ?_
                      rotate_left
                      · intro w hSw; (try dsimp only at hSw); obtain ⟨g0, g1, g2, g3, g4, g5, g6, g7⟩ := hSw; simp only at g0 g1 g2 g3 g4 g5 g6 g7; go_simp; (try with_reducible rfl)
                      try simp only [List.getElem_toArray, List.getElem_cons_succ, List.getElem_cons_zero, Act.put, List.setIfInBounds_toArray, List.set_cons_zero, List.set_cons_succ]
                      have HP9 := PH.out _ B20.out
                      obtain ⟨⟨p0, p1⟩, pf⟩ := pcell_of (v1 := .slice a L.length c) (v2 := .slice a' S.length c') HP9
                      obtain ⟨_, ⟨t0, t1, t2, t3, t4, t5, t6, t7⟩, _, _, hres⟩ := AT.out _ B20.out
                      have HPS := Lib.hid (heap_setCell_same w9 w.heap.size 0 _ 25 (.slice a9 (L.length + 1) c9) HP9)
                      have HRS := Lib.hid ((Below.heap_setCell w9 ⟨w.heap.size, 0, none⟩ (.slice a9 (L.length + 1) c9) (w.heap.size + 2) (by simp)).trans hres)
                      clear HP9 hres
                      refine wpAnyH_ready (rs := [16]) (by kernel_rfl) (by simp) ?_
                      refine AllReadyH.cons rfl (fun K hK => ?_) (AllReadyH.nil)
                      go_simp
                      refine hK.out _ _ ?_ (fun hHeldN => ?_)
                      · exact ⟨(cell_far (by omega)).trans t0, (cell_far (by omega)).trans t1, (cell_far (by omega)).trans t2, (cell_far (by omega)).trans t3, (cell_far (by omega)).trans t4, (cell_far (by omega)).trans t5, (cell_far (by omega)).trans t6, (cell_far (by omega)).trans t7⟩
                      clear hK K
                      try simp only [List.getElem_toArray, List.getElem_cons_succ, List.getElem_cons_zero, Act.put, List.setIfInBounds_toArray, List.set_cons_zero, List.set_cons_succ]
                      refine wpAnyH_done (by kernel_rfl) ?_ _
                      go_wp2_with fail
                      go_meet
                      case rel => exact ⟨a9, c9, rfl, HPS.out, by simpa using (O9.out.apart (b := w.heap.size) (k := 0) (by omega) (.slice a9 (L.length + 1) c9)), HRS.out, (BB.out _ B20.out).1.setCell (Nat.le_refl _) _⟩
                  · skip
                    go_simp
                    have N11 := Lib.hid (N10.out.alloc (BB.out _ N10.out).2 (.cells #[.int .i64 ac, .string ea, .bool false, .string eb, .string ec, .int .i64 1, .int .i64 0, .int .i64 0, .string ⟨#[]⟩, .string ⟨#[]⟩, .string ⟨#[]⟩, .string ⟨#[]⟩, .string ⟨#[]⟩] 34))
                    have B11 := Lib.hid (below_drew N11.out)
                    refine hK.out _ _ ?_ (fun hHeldN => ?_)
                    · exact (AT.out _ B11.out).ev
                    clear hK K
                    try simp only [List.getElem_toArray, List.getElem_cons_succ, List.getElem_cons_zero, Act.put, List.setIfInBounds_toArray, List.set_cons_zero, List.set_cons_succ]
                    refine wpAnyH_ready (rs := [2]) (by kernel_rfl) (by simp) ?_
                    refine AllReadyH.cons rfl (fun K hK => ?_) (AllReadyH.nil)
                    obtain ⟨⟨p0, p1⟩, _⟩ := AT.out (((w6.alloc (.cells #[] 34)).alloc (.cells #[.int .i64 ac, .string ea, .bool false, .string eb, .string ec, .int .i64 1, .int .i64 0, .int .i64 0, .string ⟨#[]⟩, .string ⟨#[]⟩, .string ⟨#[]⟩, .string ⟨#[]⟩, .string ⟨#[]⟩] 34)).drew) B11.out
                    go_simp
                    refine hK.out _ _ ?_ (fun hHeldN => ?_)
                    · exact (AT.out _ B11.out).ev
                    clear hK K
                    try simp only [List.getElem_toArray, List.getElem_cons_succ, List.getElem_cons_zero, Act.put, List.setIfInBounds_toArray, List.set_cons_zero, List.set_cons_succ]
                    clear p0 p1
                    refine wpAnyH_ready (rs := [3]) (by kernel_rfl) (by simp) ?_
                    refine AllReadyH.cons rfl (fun K hK => ?_) (AllReadyH.nil)
                    have S6 := (BB.out _ B6.out).2
                    have hE : (((w6.alloc (.cells #[] 34)).alloc (.cells #[.int .i64 ac, .string ea, .bool false, .string eb, .string ec, .int .i64 1, .int .i64 0, .int .i64 0, .string ⟨#[]⟩, .string ⟨#[]⟩, .string ⟨#[]⟩, .string ⟨#[]⟩, .string ⟨#[]⟩] 34)).drew).heap[w6.heap.size]? = some (.cells #[] 34) := (Lib.alloc_old _ _ _ (by simp)).trans (heap_new w6 (.cells #[] 34))
                    have hN : (((w6.alloc (.cells #[] 34)).alloc (.cells #[.int .i64 ac, .string ea, .bool false, .string eb, .string ec, .int .i64 1, .int .i64 0, .int .i64 0, .string ⟨#[]⟩, .string ⟨#[]⟩, .string ⟨#[]⟩, .string ⟨#[]⟩, .string ⟨#[]⟩] 34)).drew).heap[w6.heap.size + 1]? = some (.cells #[.int .i64 ac, .string ea, .bool false, .string eb, .string ec, .int .i64 1, .int .i64 0, .int .i64 0, .string ⟨#[]⟩, .string ⟨#[]⟩, .string ⟨#[]⟩, .string ⟨#[]⟩, .string ⟨#[]⟩] 34) := by rw [← show (w6.alloc (.cells #[] 34)).heap.size = w6.heap.size + 1 by simp]; exact heap_new _ _
                    obtain ⟨a8, c8, w8, ra8, o8, gr8⟩ := Per.onto (w := ((w6.alloc (.cells #[] 34)).alloc (.cells #[.int .i64 ac, .string ea, .bool false, .string eb, .string ec, .int .i64 1, .int .i64 0, .int .i64 0, .string ⟨#[]⟩, .string ⟨#[]⟩, .string ⟨#[]⟩, .string ⟨#[]⟩, .string ⟨#[]⟩] 34)).drew) (q := w6.heap.size) (B := w.heap.size + 3) (OP.out _ (BB.out _ B11.out).1).1 hE (by omega) (by omega) 22
                    have B13 := Lib.hid (B11.out.grown gr8 (BB.out _ B11.out).2 (fun k hk => by cases hk; omega))
                    have HN8 := Lib.hid ((gr8.block (w6.heap.size + 1) (heap_lt hN) (by simp)).trans hN)
                    have RA8 := Lib.hid ra8
                    have O8 := Lib.hid o8
                    clear ra8 o8 gr8 S6 hE hN
                    refine step_append_at rfl (.tmp 51) (.tmp 53) 22 rfl _ _ _ (by simp [Act.eval]) (by simp [Act.eval]) _ RA8.out ?_
                    refine hK.out _ _ ?_ (fun hHeldN => ?_)
                    · exact (AT.out _ B13.out).ev
                    clear hK K
                    try simp only [List.getElem_toArray, List.getElem_cons_succ, List.getElem_cons_zero, Act.put, List.setIfInBounds_toArray, List.set_cons_zero, List.set_cons_succ]
                    refine wpAnyH_ready (rs := [14]) (by kernel_rfl) (by simp) ?_
                    refine AllReadyH.cons rfl (fun K hK => ?_) (AllReadyH.nil)
                    obtain ⟨a9, c9, w9, ra9, o9, gr9⟩ := Per.push (w := w8) (q := w6.heap.size + 1) (⟨ac, ea, false, eb, ec, 1, 0, 0, ⟨#[]⟩, ⟨#[]⟩, ⟨#[]⟩, ⟨#[]⟩, ⟨#[]⟩⟩ : Per.R) O8.out (BB.out _ B13.out).2 (by omega) HN8.out 22
                    have B20 := Lib.hid (B13.out.grown gr9 (BB.out _ B13.out).2 (fun k hk => (World.ownsRow.lt O8.out k hk).1))
                    have RA9 := Lib.hid ra9
                    have O9 := Lib.hid o9
                    clear ra9 o9 gr9
                    refine step_append_at rfl (.tmp 54) (.tmp 64) 22 rfl _ _ _ (by simp [Act.eval]) (by simp [Act.eval]) _ RA9.out ?_
                    refine hK.out _ _ ?_ (fun hHeldN => ?_)
                    · exact (AT.out _ B20.out).ev
                    clear hK K
                    try simp only [List.getElem_toArray, List.getElem_cons_succ, List.getElem_cons_zero, Act.put, List.setIfInBounds_toArray, List.set_cons_zero, List.set_cons_succ]
                    refine wpAnyH_take (i := 15) (v := ?_) rfl (by kernel_rfl) (by kernel_rfl) (by kernel_rfl) (fun _ _ _ h => h) (Or.inl ⟨by rfl, ?_⟩) (by assumption) ?_
                    rotate_left
                    · intro w hSw; (try dsimp only at hSw); obtain ⟨g0, g1, g2, g3, g4, g5, g6, g7⟩ := hSw; simp only at g0 g1 g2 g3 g4 g5 g6 g7; go_simp; (try with_reducible rfl)
                    try simp only [List.getElem_toArray, List.getElem_cons_succ, List.getElem_cons_zero, Act.put, List.setIfInBounds_toArray, List.set_cons_zero, List.set_cons_succ]
                    have HP9 := PH.out _ B20.out
                    obtain ⟨⟨p0, p1⟩, pf⟩ := pcell_of (v1 := .slice a L.length c) (v2 := .slice a' S.length c') HP9
                    obtain ⟨_, ⟨t0, t1, t2, t3, t4, t5, t6, t7⟩, _, _, hres⟩ := AT.out _ B20.out
                    have HPS := Lib.hid (heap_setCell_same w9 w.heap.size 0 _ 25 (.slice a9 (L.length + 1) c9) HP9)
                    have HRS := Lib.hid ((Below.heap_setCell w9 ⟨w.heap.size, 0, none⟩ (.slice a9 (L.length + 1) c9) (w.heap.size + 2) (by simp)).trans hres)
                    clear HP9 hres
                    refine wpAnyH_ready (rs := [16]) (by kernel_rfl) (by simp) ?_
                    refine AllReadyH.cons rfl (fun K hK => ?_) (AllReadyH.nil)
                    go_simp
                    refine hK.out _ _ ?_ (fun hHeldN => ?_)
                    · exact ⟨(cell_far (by omega)).trans t0, (cell_far (by omega)).trans t1, (cell_far (by omega)).trans t2, (cell_far (by omega)).trans t3, (cell_far (by omega)).trans t4, (cell_far (by omega)).trans t5, (cell_far (by omega)).trans t6, (cell_far (by omega)).trans t7⟩
                    clear hK K
                    try simp only [List.getElem_toArray, List.getElem_cons_succ, List.getElem_cons_zero, Act.put, List.setIfInBounds_toArray, List.set_cons_zero, List.set_cons_succ]
                    refine wpAnyH_done (by kernel_rfl) ?_ _
                    go_wp2_with fail
                    go_meet
                    case rel => exact ⟨a9, c9, rfl, HPS.out, by simpa using (O9.out.apart (b := w.heap.size) (k := 0) (by omega) (.slice a9 (L.length + 1) c9)), HRS.out, (BB.out _ B20.out).1.setCell (Nat.le_refl _) _⟩
                · skip
                  obtain ⟨⟨p0, p1⟩, _⟩ := AT.out (w6.drew) B6D.out
                  go_simp
                  refine hK.out _ _ ?_ (fun hHeldN => ?_)
                  · exact (AT.out _ B6D.out).ev
                  clear hK K
                  try simp only [List.getElem_toArray, List.getElem_cons_succ, List.getElem_cons_zero, Act.put, List.setIfInBounds_toArray, List.set_cons_zero, List.set_cons_succ]
                  clear p0 p1
                  refine wpAnyH_ready (rs := [0, 13]) (by kernel_rfl) (by simp) ?_
                  refine AllReadyH.cons rfl (fun K hK => ?_) (AllReadyH.cons rfl (fun K hK => ?_) (AllReadyH.nil))
                  · skip
                    go_simp
                    have N11 := Lib.hid (B6.out.alloc (BB.out _ B6.out).2 (.cells #[] 34))
                    have B11 := Lib.hid (below_drew N11.out)
                    refine hK.out _ _ ?_ (fun hHeldN => ?_)
                    · exact (AT.out _ B11.out).ev
                    clear hK K
                    try simp only [List.getElem_toArray, List.getElem_cons_succ, List.getElem_cons_zero, Act.put, List.setIfInBounds_toArray, List.set_cons_zero, List.set_cons_succ]
                    refine wpAnyH_ready (rs := [3, 13]) (by kernel_rfl) (by simp) ?_
                    refine AllReadyH.cons rfl (fun K hK => ?_) (AllReadyH.cons rfl (fun K hK => ?_) (AllReadyH.nil))
                    · skip
                      have S6 := (BB.out _ B6.out).2
                      obtain ⟨a8, c8, w8, ra8, o8, gr8⟩ := Per.onto (w := (w6.alloc (.cells #[] 34)).drew) (q := w6.heap.size) (B := w.heap.size + 3) (OP.out _ (BB.out _ B11.out).1).1 (heap_new w6 (.cells #[] 34)) (by omega) (by omega) 22
                      have B12 := Lib.hid (B11.out.grown gr8 (BB.out _ B11.out).2 (fun k hk => by cases hk; omega))
                      have RA8 := Lib.hid ra8
                      have O8 := Lib.hid o8
                      clear ra8 o8 gr8 S6
                      refine step_append_at rfl (.tmp 51) (.tmp 53) 22 rfl _ _ _ (by simp [Act.eval]) (by simp [Act.eval]) _ RA8.out ?_
                      refine hK.out _ _ ?_ (fun hHeldN => ?_)
                      · exact (AT.out _ B12.out).ev
                      clear hK K
                      try simp only [List.getElem_toArray, List.getElem_cons_succ, List.getElem_cons_zero, Act.put, List.setIfInBounds_toArray, List.set_cons_zero, List.set_cons_succ]
                      refine wpAnyH_ready (rs := [13]) (by kernel_rfl) (by simp) ?_
                      refine AllReadyH.cons rfl (fun K hK => ?_) (AllReadyH.nil)
                      go_simp
                      have B13 := Lib.hid (B12.out.alloc (BB.out _ B12.out).2 (.cells #[.int .i64 ac, .string ea, .bool false, .string eb, .string ec, .int .i64 1, .int .i64 0, .int .i64 0, .string ⟨#[]⟩, .string ⟨#[]⟩, .string ⟨#[]⟩, .string ⟨#[]⟩, .string ⟨#[]⟩] 34))
                      refine hK.out _ _ ?_ (fun hHeldN => ?_)
                      · exact (AT.out _ B13.out).ev
                      clear hK K
                      try simp only [List.getElem_toArray, List.getElem_cons_succ, List.getElem_cons_zero, Act.put, List.setIfInBounds_toArray, List.set_cons_zero, List.set_cons_succ]
                      refine wpAnyH_ready (rs := [14]) (by kernel_rfl) (by simp) ?_
                      refine AllReadyH.cons rfl (fun K hK => ?_) (AllReadyH.nil)
                      obtain ⟨a9, c9, w9, ra9, o9, gr9⟩ := Per.push (w := (w8.alloc (.cells #[.int .i64 ac, .string ea, .bool false, .string eb, .string ec, .int .i64 1, .int .i64 0, .int .i64 0, .string ⟨#[]⟩, .string ⟨#[]⟩, .string ⟨#[]⟩, .string ⟨#[]⟩, .string ⟨#[]⟩] 34))) (q := w8.heap.size) (⟨ac, ea, false, eb, ec, 1, 0, 0, ⟨#[]⟩, ⟨#[]⟩, ⟨#[]⟩, ⟨#[]⟩, ⟨#[]⟩⟩ : Per.R) (O8.out.below ((Below.refl w8.heap.size w8).alloc (Nat.le_refl _) _)) (BB.out _ B13.out).2 (by omega) (heap_new w8 (.cells #[.int .i64 ac, .string ea, .bool false, .string eb, .string ec, .int .i64 1, .int .i64 0, .int .i64 0, .string ⟨#[]⟩, .string ⟨#[]⟩, .string ⟨#[]⟩, .string ⟨#[]⟩, .string ⟨#[]⟩] 34)) 22
                      have B20 := Lib.hid (B13.out.grown gr9 (BB.out _ B13.out).2 (fun k hk => (World.ownsRow.lt O8.out k hk).1))
                      have RA9 := Lib.hid ra9
                      have O9 := Lib.hid o9
                      clear ra9 o9 gr9
                      refine step_append_at rfl (.tmp 54) (.tmp 64) 22 rfl _ _ _ (by simp [Act.eval]) (by simp [Act.eval]) _ RA9.out ?_
                      refine hK.out _ _ ?_ (fun hHeldN => ?_)
                      · exact (AT.out _ B20.out).ev
                      clear hK K
                      try simp only [List.getElem_toArray, List.getElem_cons_succ, List.getElem_cons_zero, Act.put, List.setIfInBounds_toArray, List.set_cons_zero, List.set_cons_succ]
                      refine wpAnyH_take (i := 15) (v := ?_) rfl (by kernel_rfl) (by kernel_rfl) (by kernel_rfl) (fun _ _ _ h => h) (Or.inl ⟨by rfl, ?_⟩) (by assumption) ?_
                      rotate_left
                      · intro w hSw; (try dsimp only at hSw); obtain ⟨g0, g1, g2, g3, g4, g5, g6, g7⟩ := hSw; simp only at g0 g1 g2 g3 g4 g5 g6 g7; go_simp; (try with_reducible rfl)
                      try simp only [List.getElem_toArray, List.getElem_cons_succ, List.getElem_cons_zero, Act.put, List.setIfInBounds_toArray, List.set_cons_zero, List.set_cons_succ]
                      have HP9 := PH.out _ B20.out
                      obtain ⟨⟨p0, p1⟩, pf⟩ := pcell_of (v1 := .slice a L.length c) (v2 := .slice a' S.length c') HP9
                      obtain ⟨_, ⟨t0, t1, t2, t3, t4, t5, t6, t7⟩, _, _, hres⟩ := AT.out _ B20.out
                      have HPS := Lib.hid (heap_setCell_same w9 w.heap.size 0 _ 25 (.slice a9 (L.length + 1) c9) HP9)
                      have HRS := Lib.hid ((Below.heap_setCell w9 ⟨w.heap.size, 0, none⟩ (.slice a9 (L.length + 1) c9) (w.heap.size + 2) (by simp)).trans hres)
                      clear HP9 hres
                      refine wpAnyH_ready (rs := [16]) (by kernel_rfl) (by simp) ?_
                      refine AllReadyH.cons rfl (fun K hK => ?_) (AllReadyH.nil)
                      go_simp
                      refine hK.out _ _ ?_ (fun hHeldN => ?_)
                      · exact ⟨(cell_far (by omega)).trans t0, (cell_far (by omega)).trans t1, (cell_far (by omega)).trans t2, (cell_far (by omega)).trans t3, (cell_far (by omega)).trans t4, (cell_far (by omega)).trans t5, (cell_far (by omega)).trans t6, (cell_far (by omega)).trans t7⟩
                      clear hK K
                      try simp only [List.getElem_toArray, List.getElem_cons_succ, List.getElem_cons_zero, Act.put, List.setIfInBounds_toArray, List.set_cons_zero, List.set_cons_succ]
                      refine wpAnyH_done (by kernel_rfl) ?_ _
                      go_wp2_with fail
                      go_meet
                      case rel => exact ⟨a9, c9, rfl, HPS.out, by simpa using (O9.out.apart (b := w.heap.size) (k := 0) (by omega) (.slice a9 (L.length + 1) c9)), HRS.out, (BB.out _ B20.out).1.setCell (Nat.le_refl _) _⟩
                    · skip
                      go_simp
                      have N12 := Lib.hid (N11.out.alloc (BB.out _ N11.out).2 (.cells #[.int .i64 ac, .string ea, .bool false, .string eb, .string ec, .int .i64 1, .int .i64 0, .int .i64 0, .string ⟨#[]⟩, .string ⟨#[]⟩, .string ⟨#[]⟩, .string ⟨#[]⟩, .string ⟨#[]⟩] 34))
                      have B12 := Lib.hid (below_drew N12.out)
                      refine hK.out _ _ ?_ (fun hHeldN => ?_)
                      · exact (AT.out _ B12.out).ev
                      clear hK K
                      try simp only [List.getElem_toArray, List.getElem_cons_succ, List.getElem_cons_zero, Act.put, List.setIfInBounds_toArray, List.set_cons_zero, List.set_cons_succ]
                      refine wpAnyH_ready (rs := [3]) (by kernel_rfl) (by simp) ?_
                      refine AllReadyH.cons rfl (fun K hK => ?_) (AllReadyH.nil)
                      have S6 := (BB.out _ B6.out).2
                      have hE : (((w6.alloc (.cells #[] 34)).alloc (.cells #[.int .i64 ac, .string ea, .bool false, .string eb, .string ec, .int .i64 1, .int .i64 0, .int .i64 0, .string ⟨#[]⟩, .string ⟨#[]⟩, .string ⟨#[]⟩, .string ⟨#[]⟩, .string ⟨#[]⟩] 34)).drew).heap[w6.heap.size]? = some (.cells #[] 34) := (Lib.alloc_old _ _ _ (by simp)).trans (heap_new w6 (.cells #[] 34))
                      have hN : (((w6.alloc (.cells #[] 34)).alloc (.cells #[.int .i64 ac, .string ea, .bool false, .string eb, .string ec, .int .i64 1, .int .i64 0, .int .i64 0, .string ⟨#[]⟩, .string ⟨#[]⟩, .string ⟨#[]⟩, .string ⟨#[]⟩, .string ⟨#[]⟩] 34)).drew).heap[w6.heap.size + 1]? = some (.cells #[.int .i64 ac, .string ea, .bool false, .string eb, .string ec, .int .i64 1, .int .i64 0, .int .i64 0, .string ⟨#[]⟩, .string ⟨#[]⟩, .string ⟨#[]⟩, .string ⟨#[]⟩, .string ⟨#[]⟩] 34) := by rw [← show (w6.alloc (.cells #[] 34)).heap.size = w6.heap.size + 1 by simp]; exact heap_new _ _
                      obtain ⟨a8, c8, w8, ra8, o8, gr8⟩ := Per.onto (w := ((w6.alloc (.cells #[] 34)).alloc (.cells #[.int .i64 ac, .string ea, .bool false, .string eb, .string ec, .int .i64 1, .int .i64 0, .int .i64 0, .string ⟨#[]⟩, .string ⟨#[]⟩, .string ⟨#[]⟩, .string ⟨#[]⟩, .string ⟨#[]⟩] 34)).drew) (q := w6.heap.size) (B := w.heap.size + 3) (OP.out _ (BB.out _ B12.out).1).1 hE (by omega) (by omega) 22
                      have B13 := Lib.hid (B12.out.grown gr8 (BB.out _ B12.out).2 (fun k hk => by cases hk; omega))
                      have HN8 := Lib.hid ((gr8.block (w6.heap.size + 1) (heap_lt hN) (by simp)).trans hN)
                      have RA8 := Lib.hid ra8
                      have O8 := Lib.hid o8
                      clear ra8 o8 gr8 S6 hE hN
                      refine step_append_at rfl (.tmp 51) (.tmp 53) 22 rfl _ _ _ (by simp [Act.eval]) (by simp [Act.eval]) _ RA8.out ?_
                      refine hK.out _ _ ?_ (fun hHeldN => ?_)
                      · exact (AT.out _ B13.out).ev
                      clear hK K
                      try simp only [List.getElem_toArray, List.getElem_cons_succ, List.getElem_cons_zero, Act.put, List.setIfInBounds_toArray, List.set_cons_zero, List.set_cons_succ]
                      refine wpAnyH_ready (rs := [14]) (by kernel_rfl) (by simp) ?_
                      refine AllReadyH.cons rfl (fun K hK => ?_) (AllReadyH.nil)
                      obtain ⟨a9, c9, w9, ra9, o9, gr9⟩ := Per.push (w := w8) (q := w6.heap.size + 1) (⟨ac, ea, false, eb, ec, 1, 0, 0, ⟨#[]⟩, ⟨#[]⟩, ⟨#[]⟩, ⟨#[]⟩, ⟨#[]⟩⟩ : Per.R) O8.out (BB.out _ B13.out).2 (by omega) HN8.out 22
                      have B20 := Lib.hid (B13.out.grown gr9 (BB.out _ B13.out).2 (fun k hk => (World.ownsRow.lt O8.out k hk).1))
                      have RA9 := Lib.hid ra9
                      have O9 := Lib.hid o9
                      clear ra9 o9 gr9
                      refine step_append_at rfl (.tmp 54) (.tmp 64) 22 rfl _ _ _ (by simp [Act.eval]) (by simp [Act.eval]) _ RA9.out ?_
                      refine hK.out _ _ ?_ (fun hHeldN => ?_)
                      · exact (AT.out _ B20.out).ev
                      clear hK K
                      try simp only [List.getElem_toArray, List.getElem_cons_succ, List.getElem_cons_zero, Act.put, List.setIfInBounds_toArray, List.set_cons_zero, List.set_cons_succ]
                      refine wpAnyH_take (i := 15) (v := ?_) rfl (by kernel_rfl) (by kernel_rfl) (by kernel_rfl) (fun _ _ _ h => h) (Or.inl ⟨by rfl, ?_⟩) (by assumption) ?_
                      rotate_left
                      · intro w hSw; (try dsimp only at hSw); obtain ⟨g0, g1, g2, g3, g4, g5, g6, g7⟩ := hSw; simp only at g0 g1 g2 g3 g4 g5 g6 g7; go_simp; (try with_reducible rfl)
                      try simp only [List.getElem_toArray, List.getElem_cons_succ, List.getElem_cons_zero, Act.put, List.setIfInBounds_toArray, List.set_cons_zero, List.set_cons_succ]
                      have HP9 := PH.out _ B20.out
                      obtain ⟨⟨p0, p1⟩, pf⟩ := pcell_of (v1 := .slice a L.length c) (v2 := .slice a' S.length c') HP9
                      obtain ⟨_, ⟨t0, t1, t2, t3, t4, t5, t6, t7⟩, _, _, hres⟩ := AT.out _ B20.out
                      have HPS := Lib.hid (heap_setCell_same w9 w.heap.size 0 _ 25 (.slice a9 (L.length + 1) c9) HP9)
                      have HRS := Lib.hid ((Below.heap_setCell w9 ⟨w.heap.size, 0, none⟩ (.slice a9 (L.length + 1) c9) (w.heap.size + 2) (by simp)).trans hres)
                      clear HP9 hres
                      refine wpAnyH_ready (rs := [16]) (by kernel_rfl) (by simp) ?_
                      refine AllReadyH.cons rfl (fun K hK => ?_) (AllReadyH.nil)
                      go_simp
                      refine hK.out _ _ ?_ (fun hHeldN => ?_)
                      · exact ⟨(cell_far (by omega)).trans t0, (cell_far (by omega)).trans t1, (cell_far (by omega)).trans t2, (cell_far (by omega)).trans t3, (cell_far (by omega)).trans t4, (cell_far (by omega)).trans t5, (cell_far (by omega)).trans t6, (cell_far (by omega)).trans t7⟩
                      clear hK K
                      try simp only [List.getElem_toArray, List.getElem_cons_succ, List.getElem_cons_zero, Act.put, List.setIfInBounds_toArray, List.set_cons_zero, List.set_cons_succ]
                      refine wpAnyH_done (by kernel_rfl) ?_ _
                      go_wp2_with fail
                      go_meet
                      case rel => exact ⟨a9, c9, rfl, HPS.out, by simpa using (O9.out.apart (b := w.heap.size) (k := 0) (by omega) (.slice a9 (L.length + 1) c9)), HRS.out, (BB.out _ B20.out).1.setCell (Nat.le_refl _) _⟩
                  · skip
                    go_simp
                    have N11 := Lib.hid (B6.out.alloc (BB.out _ B6.out).2 (.cells #[.int .i64 ac, .string ea, .bool false, .string eb, .string ec, .int .i64 1, .int .i64 0, .int .i64 0, .string ⟨#[]⟩, .string ⟨#[]⟩, .string ⟨#[]⟩, .string ⟨#[]⟩, .string ⟨#[]⟩] 34))
                    have B11 := Lib.hid (below_drew N11.out)
                    refine hK.out _ _ ?_ (fun hHeldN => ?_)
                    · exact (AT.out _ B11.out).ev
                    clear hK K
                    try simp only [List.getElem_toArray, List.getElem_cons_succ, List.getElem_cons_zero, Act.put, List.setIfInBounds_toArray, List.set_cons_zero, List.set_cons_succ]
                    refine wpAnyH_ready (rs := [0]) (by kernel_rfl) (by simp) ?_
                    refine AllReadyH.cons rfl (fun K hK => ?_) (AllReadyH.nil)
                    go_simp
                    have N12 := Lib.hid (N11.out.alloc (BB.out _ N11.out).2 (.cells #[] 34))
                    have B12 := Lib.hid (below_drew N12.out)
                    refine hK.out _ _ ?_ (fun hHeldN => ?_)
                    · exact (AT.out _ B12.out).ev
                    clear hK K
                    try simp only [List.getElem_toArray, List.getElem_cons_succ, List.getElem_cons_zero, Act.put, List.setIfInBounds_toArray, List.set_cons_zero, List.set_cons_succ]
                    refine wpAnyH_ready (rs := [3]) (by kernel_rfl) (by simp) ?_
                    refine AllReadyH.cons rfl (fun K hK => ?_) (AllReadyH.nil)
                    have S6 := (BB.out _ B6.out).2
                    have hN : (((w6.alloc (.cells #[.int .i64 ac, .string ea, .bool false, .string eb, .string ec, .int .i64 1, .int .i64 0, .int .i64 0, .string ⟨#[]⟩, .string ⟨#[]⟩, .string ⟨#[]⟩, .string ⟨#[]⟩, .string ⟨#[]⟩] 34)).alloc (.cells #[] 34)).drew).heap[w6.heap.size]? = some (.cells #[.int .i64 ac, .string ea, .bool false, .string eb, .string ec, .int .i64 1, .int .i64 0, .int .i64 0, .string ⟨#[]⟩, .string ⟨#[]⟩, .string ⟨#[]⟩, .string ⟨#[]⟩, .string ⟨#[]⟩] 34) := (Lib.alloc_old _ _ _ (by simp)).trans (heap_new w6 (.cells #[.int .i64 ac, .string ea, .bool false, .string eb, .string ec, .int .i64 1, .int .i64 0, .int .i64 0, .string ⟨#[]⟩, .string ⟨#[]⟩, .string ⟨#[]⟩, .string ⟨#[]⟩, .string ⟨#[]⟩] 34))
                    have hE : (((w6.alloc (.cells #[.int .i64 ac, .string ea, .bool false, .string eb, .string ec, .int .i64 1, .int .i64 0, .int .i64 0, .string ⟨#[]⟩, .string ⟨#[]⟩, .string ⟨#[]⟩, .string ⟨#[]⟩, .string ⟨#[]⟩] 34)).alloc (.cells #[] 34)).drew).heap[w6.heap.size + 1]? = some (.cells #[] 34) := by rw [← show (w6.alloc (.cells #[.int .i64 ac, .string ea, .bool false, .string eb, .string ec, .int .i64 1, .int .i64 0, .int .i64 0, .string ⟨#[]⟩, .string ⟨#[]⟩, .string ⟨#[]⟩, .string ⟨#[]⟩, .string ⟨#[]⟩] 34)).heap.size = w6.heap.size + 1 by simp]; exact heap_new _ _
                    obtain ⟨a8, c8, w8, ra8, o8, gr8⟩ := Per.onto (w := ((w6.alloc (.cells #[.int .i64 ac, .string ea, .bool false, .string eb, .string ec, .int .i64 1, .int .i64 0, .int .i64 0, .string ⟨#[]⟩, .string ⟨#[]⟩, .string ⟨#[]⟩, .string ⟨#[]⟩, .string ⟨#[]⟩] 34)).alloc (.cells #[] 34)).drew) (q := w6.heap.size + 1) (B := w.heap.size + 3) (OP.out _ (BB.out _ B12.out).1).1 hE (by omega) (by omega) 22
                    have B13 := Lib.hid (B12.out.grown gr8 (BB.out _ B12.out).2 (fun k hk => by cases hk; omega))
                    have HN8 := Lib.hid ((gr8.block (w6.heap.size) (heap_lt hN) (by simp)).trans hN)
                    have RA8 := Lib.hid ra8
                    have O8 := Lib.hid o8
                    clear ra8 o8 gr8 S6 hE hN
                    refine step_append_at rfl (.tmp 51) (.tmp 53) 22 rfl _ _ _ (by simp [Act.eval]) (by simp [Act.eval]) _ RA8.out ?_
                    refine hK.out _ _ ?_ (fun hHeldN => ?_)
                    · exact (AT.out _ B13.out).ev
                    clear hK K
                    try simp only [List.getElem_toArray, List.getElem_cons_succ, List.getElem_cons_zero, Act.put, List.setIfInBounds_toArray, List.set_cons_zero, List.set_cons_succ]
                    refine wpAnyH_ready (rs := [14]) (by kernel_rfl) (by simp) ?_
                    refine AllReadyH.cons rfl (fun K hK => ?_) (AllReadyH.nil)
                    obtain ⟨a9, c9, w9, ra9, o9, gr9⟩ := Per.push (w := w8) (q := w6.heap.size) (⟨ac, ea, false, eb, ec, 1, 0, 0, ⟨#[]⟩, ⟨#[]⟩, ⟨#[]⟩, ⟨#[]⟩, ⟨#[]⟩⟩ : Per.R) O8.out (BB.out _ B13.out).2 (by omega) HN8.out 22
                    have B20 := Lib.hid (B13.out.grown gr9 (BB.out _ B13.out).2 (fun k hk => (World.ownsRow.lt O8.out k hk).1))
                    have RA9 := Lib.hid ra9
                    have O9 := Lib.hid o9
                    clear ra9 o9 gr9
                    refine step_append_at rfl (.tmp 54) (.tmp 64) 22 rfl _ _ _ (by simp [Act.eval]) (by simp [Act.eval]) _ RA9.out ?_
                    refine hK.out _ _ ?_ (fun hHeldN => ?_)
                    · exact (AT.out _ B20.out).ev
                    clear hK K
                    try simp only [List.getElem_toArray, List.getElem_cons_succ, List.getElem_cons_zero, Act.put, List.setIfInBounds_toArray, List.set_cons_zero, List.set_cons_succ]
                    refine wpAnyH_take (i := 15) (v := ?_) rfl (by kernel_rfl) (by kernel_rfl) (by kernel_rfl) (fun _ _ _ h => h) (Or.inl ⟨by rfl, ?_⟩) (by assumption) ?_
                    rotate_left
                    · intro w hSw; (try dsimp only at hSw); obtain ⟨g0, g1, g2, g3, g4, g5, g6, g7⟩ := hSw; simp only at g0 g1 g2 g3 g4 g5 g6 g7; go_simp; (try with_reducible rfl)
                    try simp only [List.getElem_toArray, List.getElem_cons_succ, List.getElem_cons_zero, Act.put, List.setIfInBounds_toArray, List.set_cons_zero, List.set_cons_succ]
                    have HP9 := PH.out _ B20.out
                    obtain ⟨⟨p0, p1⟩, pf⟩ := pcell_of (v1 := .slice a L.length c) (v2 := .slice a' S.length c') HP9
                    obtain ⟨_, ⟨t0, t1, t2, t3, t4, t5, t6, t7⟩, _, _, hres⟩ := AT.out _ B20.out
                    have HPS := Lib.hid (heap_setCell_same w9 w.heap.size 0 _ 25 (.slice a9 (L.length + 1) c9) HP9)
                    have HRS := Lib.hid ((Below.heap_setCell w9 ⟨w.heap.size, 0, none⟩ (.slice a9 (L.length + 1) c9) (w.heap.size + 2) (by simp)).trans hres)
                    clear HP9 hres
                    refine wpAnyH_ready (rs := [16]) (by kernel_rfl) (by simp) ?_
                    refine AllReadyH.cons rfl (fun K hK => ?_) (AllReadyH.nil)
                    go_simp
                    refine hK.out _ _ ?_ (fun hHeldN => ?_)
                    · exact ⟨(cell_far (by omega)).trans t0, (cell_far (by omega)).trans t1, (cell_far (by omega)).trans t2, (cell_far (by omega)).trans t3, (cell_far (by omega)).trans t4, (cell_far (by omega)).trans t5, (cell_far (by omega)).trans t6, (cell_far (by omega)).trans t7⟩
                    clear hK K
                    try simp only [List.getElem_toArray, List.getElem_cons_succ, List.getElem_cons_zero, Act.put, List.setIfInBounds_toArray, List.set_cons_zero, List.set_cons_succ]
                    refine wpAnyH_done (by kernel_rfl) ?_ _
                    go_wp2_with fail
                    go_meet
                    case rel => exact ⟨a9, c9, rfl, HPS.out, by simpa using (O9.out.apart (b := w.heap.size) (k := 0) (by omega) (.slice a9 (L.length + 1) c9)), HRS.out, (BB.out _ B20.out).1.setCell (Nat.le_refl _) _⟩
                · skip
                  go_simp
                  have N10 := Lib.hid (B6.out.alloc (BB.out _ B6.out).2 (.cells #[.int .i64 ac, .string ea, .bool false, .string eb, .string ec, .int .i64 1, .int .i64 0, .int .i64 0, .string ⟨#[]⟩, .string ⟨#[]⟩, .string ⟨#[]⟩, .string ⟨#[]⟩, .string ⟨#[]⟩] 34))
                  have B10 := Lib.hid (below_drew N10.out)
                  refine hK.out _ _ ?_ (fun hHeldN => ?_)
                  · exact (AT.out _ B10.out).ev
                  clear hK K
                  try simp only [List.getElem_toArray, List.getElem_cons_succ, List.getElem_cons_zero, Act.put, List.setIfInBounds_toArray, List.set_cons_zero, List.set_cons_succ]
                  refine wpAnyH_ready (rs := [0, 2]) (by kernel_rfl) (by simp) ?_
                  refine AllReadyH.cons rfl (fun K hK => ?_) (AllReadyH.cons rfl (fun K hK => ?_) (AllReadyH.nil))
                  · skip
                    go_simp
                    have N11 := Lib.hid (N10.out.alloc (BB.out _ N10.out).2 (.cells #[] 34))
                    have B11 := Lib.hid (below_drew N11.out)
                    refine hK.out _ _ ?_ (fun hHeldN => ?_)
                    · exact (AT.out _ B11.out).ev
                    clear hK K
                    try simp only [List.getElem_toArray, List.getElem_cons_succ, List.getElem_cons_zero, Act.put, List.setIfInBounds_toArray, List.set_cons_zero, List.set_cons_succ]
                    refine wpAnyH_ready (rs := [2]) (by kernel_rfl) (by simp) ?_
                    refine AllReadyH.cons rfl (fun K hK => ?_) (AllReadyH.nil)
                    obtain ⟨⟨p0, p1⟩, _⟩ := AT.out (((w6.alloc (.cells #[.int .i64 ac, .string ea, .bool false, .string eb, .string ec, .int .i64 1, .int .i64 0, .int .i64 0, .string ⟨#[]⟩, .string ⟨#[]⟩, .string ⟨#[]⟩, .string ⟨#[]⟩, .string ⟨#[]⟩] 34)).alloc (.cells #[] 34)).drew) B11.out
                    go_simp
                    refine hK.out _ _ ?_ (fun hHeldN => ?_)
                    · exact (AT.out _ B11.out).ev
                    clear hK K
                    try simp only [List.getElem_toArray, List.getElem_cons_succ, List.getElem_cons_zero, Act.put, List.setIfInBounds_toArray, List.set_cons_zero, List.set_cons_succ]
                    clear p0 p1
                    refine wpAnyH_ready (rs := [3]) (by kernel_rfl) (by simp) ?_
                    refine AllReadyH.cons rfl (fun K hK => ?_) (AllReadyH.nil)
                    have S6 := (BB.out _ B6.out).2
                    have hN : (((w6.alloc (.cells #[.int .i64 ac, .string ea, .bool false, .string eb, .string ec, .int .i64 1, .int .i64 0, .int .i64 0, .string ⟨#[]⟩, .string ⟨#[]⟩, .string ⟨#[]⟩, .string ⟨#[]⟩, .string ⟨#[]⟩] 34)).alloc (.cells #[] 34)).drew).heap[w6.heap.size]? = some (.cells #[.int .i64 ac, .string ea, .bool false, .string eb, .string ec, .int .i64 1, .int .i64 0, .int .i64 0, .string ⟨#[]⟩, .string ⟨#[]⟩, .string ⟨#[]⟩, .string ⟨#[]⟩, .string ⟨#[]⟩] 34) := (Lib.alloc_old _ _ _ (by simp)).trans (heap_new w6 (.cells #[.int .i64 ac, .string ea, .bool false, .string eb, .string ec, .int .i64 1, .int .i64 0, .int .i64 0, .string ⟨#[]⟩, .string ⟨#[]⟩, .string ⟨#[]⟩, .string ⟨#[]⟩, .string ⟨#[]⟩] 34))
                    have hE : (((w6.alloc (.cells #[.int .i64 ac, .string ea, .bool false, .string eb, .string ec, .int .i64 1, .int .i64 0, .int .i64 0, .string ⟨#[]⟩, .string ⟨#[]⟩, .string ⟨#[]⟩, .string ⟨#[]⟩, .string ⟨#[]⟩] 34)).alloc (.cells #[] 34)).drew).heap[w6.heap.size + 1]? = some (.cells #[] 34) := by rw [← show (w6.alloc (.cells #[.int .i64 ac, .string ea, .bool false, .string eb, .string ec, .int .i64 1, .int .i64 0, .int .i64 0, .string ⟨#[]⟩, .string ⟨#[]⟩, .string ⟨#[]⟩, .string ⟨#[]⟩, .string ⟨#[]⟩] 34)).heap.size = w6.heap.size + 1 by simp]; exact heap_new _ _
                    obtain ⟨a8, c8, w8, ra8, o8, gr8⟩ := Per.onto (w := ((w6.alloc (.cells #[.int .i64 ac, .string ea, .bool false, .string eb, .string ec, .int .i64 1, .int .i64 0, .int .i64 0, .string ⟨#[]⟩, .string ⟨#[]⟩, .string ⟨#[]⟩, .string ⟨#[]⟩, .string ⟨#[]⟩] 34)).alloc (.cells #[] 34)).drew) (q := w6.heap.size + 1) (B := w.heap.size + 3) (OP.out _ (BB.out _ B11.out).1).1 hE (by omega) (by omega) 22
                    have B13 := Lib.hid (B11.out.grown gr8 (BB.out _ B11.out).2 (fun k hk => by cases hk; omega))
                    have HN8 := Lib.hid ((gr8.block (w6.heap.size) (heap_lt hN) (by simp)).trans hN)
                    have RA8 := Lib.hid ra8
                    have O8 := Lib.hid o8
                    clear ra8 o8 gr8 S6 hE hN
                    refine step_append_at rfl (.tmp 51) (.tmp 53) 22 rfl _ _ _ (by simp [Act.eval]) (by simp [Act.eval]) _ RA8.out ?_
                    refine hK.out _ _ ?_ (fun hHeldN => ?_)
                    · exact (AT.out _ B13.out).ev
                    clear hK K
                    try simp only [List.getElem_toArray, List.getElem_cons_succ, List.getElem_cons_zero, Act.put, List.setIfInBounds_toArray, List.set_cons_zero, List.set_cons_succ]
                    refine wpAnyH_ready (rs := [14]) (by kernel_rfl) (by simp) ?_
                    refine AllReadyH.cons rfl (fun K hK => ?_) (AllReadyH.nil)
                    obtain ⟨a9, c9, w9, ra9, o9, gr9⟩ := Per.push (w := w8) (q := w6.heap.size) (⟨ac, ea, false, eb, ec, 1, 0, 0, ⟨#[]⟩, ⟨#[]⟩, ⟨#[]⟩, ⟨#[]⟩, ⟨#[]⟩⟩ : Per.R) O8.out (BB.out _ B13.out).2 (by omega) HN8.out 22
                    have B20 := Lib.hid (B13.out.grown gr9 (BB.out _ B13.out).2 (fun k hk => (World.ownsRow.lt O8.out k hk).1))
                    have RA9 := Lib.hid ra9
                    have O9 := Lib.hid o9
                    clear ra9 o9 gr9
                    refine step_append_at rfl (.tmp 54) (.tmp 64) 22 rfl _ _ _ (by simp [Act.eval]) (by simp [Act.eval]) _ RA9.out ?_
                    refine hK.out _ _ ?_ (fun hHeldN => ?_)
                    · exact (AT.out _ B20.out).ev
                    clear hK K
                    try simp only [List.getElem_toArray, List.getElem_cons_succ, List.getElem_cons_zero, Act.put, List.setIfInBounds_toArray, List.set_cons_zero, List.set_cons_succ]
                    refine wpAnyH_take (i := 15) (v := ?_) rfl (by kernel_rfl) (by kernel_rfl) (by kernel_rfl) (fun _ _ _ h => h) (Or.inl ⟨by rfl, ?_⟩) (by assumption) ?_
                    rotate_left
                    · intro w hSw; (try dsimp only at hSw); obtain ⟨g0, g1, g2, g3, g4, g5, g6, g7⟩ := hSw; simp only at g0 g1 g2 g3 g4 g5 g6 g7; go_simp; (try with_reducible rfl)
                    try simp only [List.getElem_toArray, List.getElem_cons_succ, List.getElem_cons_zero, Act.put, List.setIfInBounds_toArray, List.set_cons_zero, List.set_cons_succ]
                    have HP9 := PH.out _ B20.out
                    obtain ⟨⟨p0, p1⟩, pf⟩ := pcell_of (v1 := .slice a L.length c) (v2 := .slice a' S.length c') HP9
                    obtain ⟨_, ⟨t0, t1, t2, t3, t4, t5, t6, t7⟩, _, _, hres⟩ := AT.out _ B20.out
                    have HPS := Lib.hid (heap_setCell_same w9 w.heap.size 0 _ 25 (.slice a9 (L.length + 1) c9) HP9)
                    have HRS := Lib.hid ((Below.heap_setCell w9 ⟨w.heap.size, 0, none⟩ (.slice a9 (L.length + 1) c9) (w.heap.size + 2) (by simp)).trans hres)
                    clear HP9 hres
                    refine wpAnyH_ready (rs := [16]) (by kernel_rfl) (by simp) ?_
                    refine AllReadyH.cons rfl (fun K hK => ?_) (AllReadyH.nil)
                    go_simp
                    refine hK.out _ _ ?_ (fun hHeldN => ?_)
                    · exact ⟨(cell_far (by omega)).trans t0, (cell_far (by omega)).trans t1, (cell_far (by omega)).trans t2, (cell_far (by omega)).trans t3, (cell_far (by omega)).trans t4, (cell_far (by omega)).trans t5, (cell_far (by omega)).trans t6, (cell_far (by omega)).trans t7⟩
                    clear hK K
                    try simp only [List.getElem_toArray, List.getElem_cons_succ, List.getElem_cons_zero, Act.put, List.setIfInBounds_toArray, List.set_cons_zero, List.set_cons_succ]
                    refine wpAnyH_done (by kernel_rfl) ?_ _
                    go_wp2_with fail
                    go_meet
                    case rel => exact ⟨a9, c9, rfl, HPS.out, by simpa using (O9.out.apart (b := w.heap.size) (k := 0) (by omega) (.slice a9 (L.length + 1) c9)), HRS.out, (BB.out _ B20.out).1.setCell (Nat.le_refl _) _⟩
                  · skip
                    obtain ⟨⟨p0, p1⟩, _⟩ := AT.out ((w6.alloc (.cells #[.int .i64 ac, .string ea, .bool false, .string eb, .string ec, .int .i64 1, .int .i64 0, .int .i64 0, .string ⟨#[]⟩, .string ⟨#[]⟩, .string ⟨#[]⟩, .string ⟨#[]⟩, .string ⟨#[]⟩] 34)).drew) B10.out
                    go_simp
                    refine hK.out _ _ ?_ (fun hHeldN => ?_)
                    · exact (AT.out _ B10.out).ev
                    clear hK K
                    try simp only [List.getElem_toArray, List.getElem_cons_succ, List.getElem_cons_zero, Act.put, List.setIfInBounds_toArray, List.set_cons_zero, List.set_cons_succ]
                    clear p0 p1
                    refine wpAnyH_ready (rs := [0]) (by kernel_rfl) (by simp) ?_
                    refine AllReadyH.cons rfl (fun K hK => ?_) (AllReadyH.nil)
                    go_simp
                    have N12 := Lib.hid (N10.out.alloc (BB.out _ N10.out).2 (.cells #[] 34))
                    have B12 := Lib.hid (below_drew N12.out)
                    refine hK.out _ _ ?_ (fun hHeldN => ?_)
                    · exact (AT.out _ B12.out).ev
                    clear hK K
                    try simp only [List.getElem_toArray, List.getElem_cons_succ, List.getElem_cons_zero, Act.put, List.setIfInBounds_toArray, List.set_cons_zero, List.set_cons_succ]
                    refine wpAnyH_ready (rs := [3]) (by kernel_rfl) (by simp) ?_
                    refine AllReadyH.cons rfl (fun K hK => ?_) (AllReadyH.nil)
                    have S6 := (BB.out _ B6.out).2
                    have hN : (((w6.alloc (.cells #[.int .i64 ac, .string ea, .bool false, .string eb, .string ec, .int .i64 1, .int .i64 0, .int .i64 0, .string ⟨#[]⟩, .string ⟨#[]⟩, .string ⟨#[]⟩, .string ⟨#[]⟩, .string ⟨#[]⟩] 34)).alloc (.cells #[] 34)).drew).heap[w6.heap.size]? = some (.cells #[.int .i64 ac, .string ea, .bool false, .string eb, .string ec, .int .i64 1, .int .i64 0, .int .i64 0, .string ⟨#[]⟩, .string ⟨#[]⟩, .string ⟨#[]⟩, .string ⟨#[]⟩, .string ⟨#[]⟩] 34) := (Lib.alloc_old _ _ _ (by simp)).trans (heap_new w6 (.cells #[.int .i64 ac, .string ea, .bool false, .string eb, .string ec, .int .i64 1, .int .i64 0, .int .i64 0, .string ⟨#[]⟩, .string ⟨#[]⟩, .string ⟨#[]⟩, .string ⟨#[]⟩, .string ⟨#[]⟩] 34))
                    have hE : (((w6.alloc (.cells #[.int .i64 ac, .string ea, .bool false, .string eb, .string ec, .int .i64 1, .int .i64 0, .int .i64 0, .string ⟨#[]⟩, .string ⟨#[]⟩, .string ⟨#[]⟩, .string ⟨#[]⟩, .string ⟨#[]⟩] 34)).alloc (.cells #[] 34)).drew).heap[w6.heap.size + 1]? = some (.cells #[] 34) := by rw [← show (w6.alloc (.cells #[.int .i64 ac, .string ea, .bool false, .string eb, .string ec, .int .i64 1, .int .i64 0, .int .i64 0, .string ⟨#[]⟩, .string ⟨#[]⟩, .string ⟨#[]⟩, .string ⟨#[]⟩, .string ⟨#[]⟩] 34)).heap.size = w6.heap.size + 1 by simp]; exact heap_new _ _
                    obtain ⟨a8, c8, w8, ra8, o8, gr8⟩ := Per.onto (w := ((w6.alloc (.cells #[.int .i64 ac, .string ea, .bool false, .string eb, .string ec, .int .i64 1, .int .i64 0, .int .i64 0, .string ⟨#[]⟩, .string ⟨#[]⟩, .string ⟨#[]⟩, .string ⟨#[]⟩, .string ⟨#[]⟩] 34)).alloc (.cells #[] 34)).drew) (q := w6.heap.size + 1) (B := w.heap.size + 3) (OP.out _ (BB.out _ B12.out).1).1 hE (by omega) (by omega) 22
                    have B13 := Lib.hid (B12.out.grown gr8 (BB.out _ B12.out).2 (fun k hk => by cases hk; omega))
                    have HN8 := Lib.hid ((gr8.block (w6.heap.size) (heap_lt hN) (by simp)).trans hN)
                    have RA8 := Lib.hid ra8
                    have O8 := Lib.hid o8
                    clear ra8 o8 gr8 S6 hE hN
                    refine step_append_at rfl (.tmp 51) (.tmp 53) 22 rfl _ _ _ (by simp [Act.eval]) (by simp [Act.eval]) _ RA8.out ?_
                    refine hK.out _ _ ?_ (fun hHeldN => ?_)
                    · exact (AT.out _ B13.out).ev
                    clear hK K
                    try simp only [List.getElem_toArray, List.getElem_cons_succ, List.getElem_cons_zero, Act.put, List.setIfInBounds_toArray, List.set_cons_zero, List.set_cons_succ]
                    refine wpAnyH_ready (rs := [14]) (by kernel_rfl) (by simp) ?_
                    refine AllReadyH.cons rfl (fun K hK => ?_) (AllReadyH.nil)
                    obtain ⟨a9, c9, w9, ra9, o9, gr9⟩ := Per.push (w := w8) (q := w6.heap.size) (⟨ac, ea, false, eb, ec, 1, 0, 0, ⟨#[]⟩, ⟨#[]⟩, ⟨#[]⟩, ⟨#[]⟩, ⟨#[]⟩⟩ : Per.R) O8.out (BB.out _ B13.out).2 (by omega) HN8.out 22
                    have B20 := Lib.hid (B13.out.grown gr9 (BB.out _ B13.out).2 (fun k hk => (World.ownsRow.lt O8.out k hk).1))
                    have RA9 := Lib.hid ra9
                    have O9 := Lib.hid o9
                    clear ra9 o9 gr9
                    refine step_append_at rfl (.tmp 54) (.tmp 64) 22 rfl _ _ _ (by simp [Act.eval]) (by simp [Act.eval]) _ RA9.out ?_
                    refine hK.out _ _ ?_ (fun hHeldN => ?_)
                    · exact (AT.out _ B20.out).ev
                    clear hK K
                    try simp only [List.getElem_toArray, List.getElem_cons_succ, List.getElem_cons_zero, Act.put, List.setIfInBounds_toArray, List.set_cons_zero, List.set_cons_succ]
                    refine wpAnyH_take (i := 15) (v := ?_) rfl (by kernel_rfl) (by kernel_rfl) (by kernel_rfl) (fun _ _ _ h => h) (Or.inl ⟨by rfl, ?_⟩) (by assumption) ?_
                    rotate_left
                    · intro w hSw; (try dsimp only at hSw); obtain ⟨g0, g1, g2, g3, g4, g5, g6, g7⟩ := hSw; simp only at g0 g1 g2 g3 g4 g5 g6 g7; go_simp; (try with_reducible rfl)
                    try simp only [List.getElem_toArray, List.getElem_cons_succ, List.getElem_cons_zero, Act.put, List.setIfInBounds_toArray, List.set_cons_zero, List.set_cons_succ]
                    have HP9 := PH.out _ B20.out
                    obtain ⟨⟨p0, p1⟩, pf⟩ := pcell_of (v1 := .slice a L.length c) (v2 := .slice a' S.length c') HP9
                    obtain ⟨_, ⟨t0, t1, t2, t3, t4, t5, t6, t7⟩, _, _, hres⟩ := AT.out _ B20.out
                    have HPS := Lib.hid (heap_setCell_same w9 w.heap.size 0 _ 25 (.slice a9 (L.length + 1) c9) HP9)
                    have HRS := Lib.hid ((Below.heap_setCell w9 ⟨w.heap.size, 0, none⟩ (.slice a9 (L.length + 1) c9) (w.heap.size + 2) (by simp)).trans hres)
                    clear HP9 hres
                    refine wpAnyH_ready (rs := [16]) (by kernel_rfl) (by simp) ?_
                    refine AllReadyH.cons rfl (fun K hK => ?_) (AllReadyH.nil)
                    go_simp
                    refine hK.out _ _ ?_ (fun hHeldN => ?_)
                    · exact ⟨(cell_far (by omega)).trans t0, (cell_far (by omega)).trans t1, (cell_far (by omega)).trans t2, (cell_far (by omega)).trans t3, (cell_far (by omega)).trans t4, (cell_far (by omega)).trans t5, (cell_far (by omega)).trans t6, (cell_far (by omega)).trans t7⟩
                    clear hK K
                    try simp only [List.getElem_toArray, List.getElem_cons_succ, List.getElem_cons_zero, Act.put, List.setIfInBounds_toArray, List.set_cons_zero, List.set_cons_succ]
                    refine wpAnyH_done (by kernel_rfl) ?_ _
                    go_wp2_with fail
                    go_meet
                    case rel => exact ⟨a9, c9, rfl, HPS.out, by simpa using (O9.out.apart (b := w.heap.size) (k := 0) (by omega) (.slice a9 (L.length + 1) c9)), HRS.out, (BB.out _ B20.out).1.setCell (Nat.le_refl _) _⟩
              case rest =>
                obtain ⟨a7, c7, rfl, hp7, o7, hr7, b7⟩ := hcut
                have O7 := Lib.hid o7
                have B7 := Lib.hid b7
                obtain ⟨⟨m0, m1⟩, _⟩ := pcell_of hp7
                obtain ⟨⟨n0, n1⟩, nf⟩ := pcell_of hr7
                have HR7 := Lib.hid hr7
                clear o7 b7 hp7 hr7
                go_wp2_with fail
                have bx := ((B7.out.setCell (p := ⟨w.heap.size + 2, 0, none⟩) (by first | omega | (simp; omega) | simp) (.slice a7 (L.length + 1) c7)).setCell (p := ⟨w.heap.size + 2, 1, none⟩) (by first | omega | (simp; omega) | simp) (.slice a' S.length c'))
                refine bodyPost_ret (v := .tuple #[.agg #[.slice a7 (L.length + 1) c7, .slice a' S.length c'], .int .i64 0]) ?_ rfl ⟨_, by rw [RE.out], ?_, ?_⟩
                · simp [results, Tryz.f34, go_sem, n0, n1]
                · rw [RR.out]
                  refine ⟨a7, c7, a', c', by simp, ?_, (OP.out _ bx).2⟩
                  simpa using ((O7.out.apart (b := w.heap.size + 2) (k := 0) (by omega) (.slice a7 (L.length + 1) c7)).apart (b := w.heap.size + 2) (k := 1) (by omega) (.slice a' S.length c')).mono (by omega)
                · exact bx
          · have hth : ¬ (true = false) := by decide
            have RE : Hid (se = 14) := Lib.hid (by rw [SE.out, if_neg hor, if_pos rfl])
            have RR : Hid (sr = ⟨L, S⟩) := Lib.hid (by rw [SR.out, RE.out, if_neg (by decide)])
            clear SE SR
            go_enter Tryz.func34, Tryz.ntmps34
            go_wp2_with (first
              | (go_at_call 36; (refine (ON.out _).mono ?_); rintro z w2 ⟨rfl, rfl⟩)
              | (go_at_call 39; (refine (KY.out _).mono ?_); rintro z w3 ⟨rfl, rfl⟩))
            refine wp_region_held_drew (S := fun w' => Below (w.heap.size + 3) (((w.alloc (.cells #[.slice a L.length c, .slice a' S.length c'] 25)).alloc (.cells #[.int .i64 kd, .int .i64 ac, .int .i64 pu, .int .i64 t, .int .i64 nu, .string ea, .string eb, .string ec] 46)).alloc (.cells #[.slice none 0 0, .slice none 0 0] 25)) w') (by kernel_rfl) ?_ (fun hHeld0 => ?_)
            · exact below_drew (Below.refl _ _)
            refine wpAnyH_take (i := 0) (v := ?_) rfl (by kernel_rfl) (by kernel_rfl) (by kernel_rfl) (fun _ _ _ h => h) (Or.inl ⟨by rfl, ?_⟩) (by assumption) ?_
            rotate_left
            · intro w hSw; (try dsimp only at hSw); obtain ⟨⟨p0, p1⟩, ⟨g0, g1, g2, g3, g4, g5, g6, g7⟩, _, _, _⟩ := AT.out w hSw; go_simp; (try with_reducible rfl)
            simp only [List.getElem_toArray, List.getElem_cons_zero, Act.put, List.setIfInBounds_toArray, List.set_cons_zero, List.set_cons_succ]
            refine wpAnyH_take (i := 1) (v := ?_) rfl (by kernel_rfl) (by kernel_rfl) (by kernel_rfl) (fun _ _ _ h => h) (Or.inl ⟨by rfl, ?_⟩) (by assumption) ?_
            rotate_left
            · intro w hSw; (try dsimp only at hSw); obtain ⟨⟨p0, p1⟩, ⟨g0, g1, g2, g3, g4, g5, g6, g7⟩, _, _, _⟩ := AT.out w hSw; go_simp; (try with_reducible rfl)
            simp only [List.getElem_toArray, List.getElem_cons_succ, List.getElem_cons_zero, Act.put, List.setIfInBounds_toArray, List.set_cons_zero, List.set_cons_succ]
            refine wpAnyH_take (i := 2) (v := ?_) rfl (by kernel_rfl) (by kernel_rfl) (by kernel_rfl) (fun _ _ _ h => h) (Or.inl ⟨by rfl, ?_⟩) (by assumption) ?_
            rotate_left
            · intro w hSw; (try dsimp only at hSw); obtain ⟨⟨p0, p1⟩, ⟨g0, g1, g2, g3, g4, g5, g6, g7⟩, _, _, _⟩ := AT.out w hSw; go_simp; (try with_reducible rfl)
            simp only [List.getElem_toArray, List.getElem_cons_succ, List.getElem_cons_zero, Act.put, List.setIfInBounds_toArray, List.set_cons_zero, List.set_cons_succ]
            refine wpAnyH_take (i := 3) (v := ?_) rfl (by kernel_rfl) (by kernel_rfl) (by kernel_rfl) (fun _ _ _ h => h) (Or.inl ⟨by rfl, ?_⟩) (by assumption) ?_
            rotate_left
            · intro w hSw; (try dsimp only at hSw); obtain ⟨⟨p0, p1⟩, ⟨g0, g1, g2, g3, g4, g5, g6, g7⟩, _, _, _⟩ := AT.out w hSw; go_simp; (try with_reducible rfl)
            simp only [List.getElem_toArray, List.getElem_cons_succ, List.getElem_cons_zero, Act.put, List.setIfInBounds_toArray, List.set_cons_zero, List.set_cons_succ]
            refine wpAnyH_take (i := 4) (v := ?_) rfl (by kernel_rfl) (by kernel_rfl) (by kernel_rfl) (fun _ _ _ h => h) (Or.inl ⟨by rfl, ?_⟩) (by assumption) ?_
            rotate_left
            · intro w hSw; (try dsimp only at hSw); obtain ⟨⟨p0, p1⟩, ⟨g0, g1, g2, g3, g4, g5, g6, g7⟩, _, _, _⟩ := AT.out w hSw; go_simp; (try with_reducible rfl)
            simp only [List.getElem_toArray, List.getElem_cons_succ, List.getElem_cons_zero, Act.put, List.setIfInBounds_toArray, List.set_cons_zero, List.set_cons_succ]
            refine wpAnyH_take (i := 5) (v := ?_) rfl (by kernel_rfl) (by kernel_rfl) (by kernel_rfl) (fun _ _ _ h => h) (Or.inl ⟨by rfl, ?_⟩) (by assumption) ?_
            rotate_left
            · intro w hSw; (try dsimp only at hSw); obtain ⟨⟨p0, p1⟩, ⟨g0, g1, g2, g3, g4, g5, g6, g7⟩, _, _, _⟩ := AT.out w hSw; go_simp; (try with_reducible rfl)
            simp only [List.getElem_toArray, List.getElem_cons_succ, List.getElem_cons_zero, Act.put, List.setIfInBounds_toArray, List.set_cons_zero, List.set_cons_succ]
            refine wpAnyH_take (i := 6) (v := ?_) rfl (by kernel_rfl) (by kernel_rfl) (by kernel_rfl) (fun _ _ _ h => h) (Or.inl ⟨by rfl, ?_⟩) (by assumption) ?_
            rotate_left
            · intro w hSw; (try dsimp only at hSw); obtain ⟨⟨p0, p1⟩, ⟨g0, g1, g2, g3, g4, g5, g6, g7⟩, _, _, _⟩ := AT.out w hSw; go_simp; (try with_reducible rfl)
            simp only [List.getElem_toArray, List.getElem_cons_succ, List.getElem_cons_zero, Act.put, List.setIfInBounds_toArray, List.set_cons_zero, List.set_cons_succ]
            refine wpAnyH_take (i := 7) (v := ?_) rfl (by kernel_rfl) (by kernel_rfl) (by kernel_rfl) (fun _ _ _ h => h) (Or.inl ⟨by rfl, ?_⟩) (by assumption) ?_
            rotate_left
            · intro w hSw; (try dsimp only at hSw); obtain ⟨⟨p0, p1⟩, ⟨g0, g1, g2, g3, g4, g5, g6, g7⟩, _, _, _⟩ := AT.out w hSw; go_simp; (try with_reducible rfl)
            simp only [List.getElem_toArray, List.getElem_cons_succ, List.getElem_cons_zero, Act.put, List.setIfInBounds_toArray, List.set_cons_zero, List.set_cons_succ]
            refine wpAnyH_take (i := 8) (v := ?_) rfl (by kernel_rfl) (by kernel_rfl) (by kernel_rfl) (fun _ _ _ h => h) (Or.inl ⟨by rfl, ?_⟩) (by assumption) ?_
            rotate_left
            · intro w hSw; (try dsimp only at hSw); obtain ⟨⟨p0, p1⟩, ⟨g0, g1, g2, g3, g4, g5, g6, g7⟩, _, _, _⟩ := AT.out w hSw; go_simp; (try with_reducible rfl)
            simp only [List.getElem_toArray, List.getElem_cons_succ, List.getElem_cons_zero, Act.put, List.setIfInBounds_toArray, List.set_cons_zero, List.set_cons_succ]
            refine wpAnyH_take (i := 9) (v := ?_) rfl (by kernel_rfl) (by kernel_rfl) (by kernel_rfl) (fun _ _ _ h => h) (Or.inl ⟨by rfl, ?_⟩) (by assumption) ?_
            rotate_left
            · intro w hSw; (try dsimp only at hSw); obtain ⟨⟨p0, p1⟩, ⟨g0, g1, g2, g3, g4, g5, g6, g7⟩, _, _, _⟩ := AT.out w hSw; go_simp; (try with_reducible rfl)
            simp only [List.getElem_toArray, List.getElem_cons_succ, List.getElem_cons_zero, Act.put, List.setIfInBounds_toArray, List.set_cons_zero, List.set_cons_succ]
            refine wpAnyH_ready (rs := [10]) (by kernel_rfl) (by simp) ?_
            refine AllReadyH.cons rfl (fun K hK => ?_) AllReadyH.nil
            go_simp
            (go_at_call 44; (refine (NX.out _ (below_drew (Below.refl _ _))).mono ?_); rintro z w4 ⟨rfl, b4⟩; have B4 := Lib.hid b4; clear b4)
            refine hK.out _ _ ?_ (fun hHeld1 => ?_)
            · exact B4.out
            clear hK K hHeld0
            try simp only [List.getElem_toArray, List.getElem_cons_succ, List.getElem_cons_zero, Act.put, List.setIfInBounds_toArray, List.set_cons_zero, List.set_cons_succ]
            refine wpAnyH_take (i := 11) (v := ?_) rfl (by kernel_rfl) (by kernel_rfl) (by kernel_rfl) (fun _ _ _ h => h) (Or.inl ⟨by rfl, ?_⟩) (by assumption) ?_
            rotate_left
            · intro w hSw; (try dsimp only at hSw); obtain ⟨⟨p0, p1⟩, ⟨g0, g1, g2, g3, g4, g5, g6, g7⟩, _, _, _⟩ := AT.out w hSw; go_simp; (try with_reducible rfl)
            simp only [List.getElem_toArray, List.getElem_cons_succ, List.getElem_cons_zero, Act.put, List.setIfInBounds_toArray, List.set_cons_zero, List.set_cons_succ]
            refine wpAnyH_take (i := 12) (v := ?_) rfl (by kernel_rfl) (by kernel_rfl) (by kernel_rfl) (fun _ _ _ h => h) (Or.inl ⟨by rfl, ?_⟩) (by assumption) ?_
            rotate_left
            · intro w hSw; (try dsimp only at hSw); obtain ⟨⟨p0, p1⟩, ⟨g0, g1, g2, g3, g4, g5, g6, g7⟩, _, _, _⟩ := AT.out w hSw; go_simp; (try with_reducible rfl)
            simp only [List.getElem_toArray, List.getElem_cons_succ, List.getElem_cons_zero, Act.put, List.setIfInBounds_toArray, List.set_cons_zero, List.set_cons_succ]
            refine wpAnyH_take (i := 13) (v := ?_) rfl (by kernel_rfl) (by kernel_rfl) (by kernel_rfl) (fun _ _ _ h => h) (Or.inl ⟨by rfl, ?_⟩) (by assumption) ?_
            rotate_left
            · intro w hSw; (try dsimp only at hSw); obtain ⟨⟨p0, p1⟩, ⟨g0, g1, g2, g3, g4, g5, g6, g7⟩, _, _, _⟩ := AT.out w hSw; go_simp; (try with_reducible rfl)
            simp only [List.getElem_toArray, List.getElem_cons_succ, List.getElem_cons_zero, Act.put, List.setIfInBounds_toArray, List.set_cons_zero, List.set_cons_succ]
            refine wpAnyH_take (i := 14) (v := ?_) rfl (by kernel_rfl) (by kernel_rfl) (by kernel_rfl) (fun _ _ _ h => h) (Or.inl ⟨by rfl, ?_⟩) (by assumption) ?_
            rotate_left
            · intro w hSw; (try dsimp only at hSw); obtain ⟨⟨p0, p1⟩, ⟨g0, g1, g2, g3, g4, g5, g6, g7⟩, _, _, _⟩ := AT.out w hSw; go_simp; (try with_reducible rfl)
            simp only [List.getElem_toArray, List.getElem_cons_succ, List.getElem_cons_zero, Act.put, List.setIfInBounds_toArray, List.set_cons_zero, List.set_cons_succ]
            refine wpAnyH_take (i := 15) (v := ?_) rfl (by kernel_rfl) (by kernel_rfl) (by kernel_rfl) (fun _ _ _ h => h) (Or.inl ⟨by rfl, ?_⟩) (by assumption) ?_
            rotate_left
            · intro w hSw; (try dsimp only at hSw); obtain ⟨⟨p0, p1⟩, ⟨g0, g1, g2, g3, g4, g5, g6, g7⟩, _, _, _⟩ := AT.out w hSw; go_simp; (try with_reducible rfl)
            simp only [List.getElem_toArray, List.getElem_cons_succ, List.getElem_cons_zero, Act.put, List.setIfInBounds_toArray, List.set_cons_zero, List.set_cons_succ]
            refine wpAnyH_take (i := 16) (v := ?_) rfl (by kernel_rfl) (by kernel_rfl) (by kernel_rfl) (fun _ _ _ h => h) (Or.inl ⟨by rfl, ?_⟩) (by assumption) ?_
            rotate_left
            · intro w hSw; (try dsimp only at hSw); obtain ⟨⟨p0, p1⟩, ⟨g0, g1, g2, g3, g4, g5, g6, g7⟩, _, _, _⟩ := AT.out w hSw; go_simp; (try with_reducible rfl)
            simp only [List.getElem_toArray, List.getElem_cons_succ, List.getElem_cons_zero, Act.put, List.setIfInBounds_toArray, List.set_cons_zero, List.set_cons_succ]
            refine wpAnyH_take (i := 17) (v := ?_) rfl (by kernel_rfl) (by kernel_rfl) (by kernel_rfl) (fun _ _ _ h => h) (Or.inl ⟨by rfl, ?_⟩) (by assumption) ?_
            rotate_left
            · intro w hSw; (try dsimp only at hSw); obtain ⟨⟨p0, p1⟩, ⟨g0, g1, g2, g3, g4, g5, g6, g7⟩, _, _, _⟩ := AT.out w hSw; go_simp; (try with_reducible rfl)
            try simp only [List.getElem_toArray, List.getElem_cons_succ, List.getElem_cons_zero, Act.put, List.setIfInBounds_toArray, List.set_cons_zero, List.set_cons_succ]
            refine wpAnyH_done (by kernel_rfl) ?_ _
            obtain ⟨⟨q0, q1⟩, ⟨h0, h1, h2, h3, h4, h5, h6, h7⟩, ⟨_, _, l0, l1⟩, lf, _⟩ := AT.out _ B4.out
            go_wp2_with (go_at_call 37; (refine (BY.out _ B4.out).mono ?_); rintro z w5 ⟨rfl, b5⟩; have B5 := Lib.hid b5; have B6 := Lib.hid (b5.alloc (BB.out _ b5).2 (.cells #[.int .i64 yid, .string ymail, .bool yver, .string ysalt, .string ychk, .int .i64 yvers, .int .i64 ymiss, .int .i64 ylock, .string yc0, .string yc1, .string yc2, .string yc3, .string yc4] 34)); clear b5; obtain ⟨⟨q0, q1⟩, ⟨h0, h1, h2, h3, h4, h5, h6, h7⟩, ⟨_, _, l0, l1⟩, lf, _⟩ := AT.out _ B6.out)
            obtain ⟨⟨q0, q1⟩, _, ⟨_, _, l0, l1⟩, lf, _⟩ := AT.out _ B6.out
            skip
            refine bodyPost_ret (v := .tuple #[.agg #[.slice a L.length c, .slice a' S.length c'], .int .i64 14]) ?_ rfl ⟨_, by rw [RE.out], ?_, ?_⟩
            · simp [results, Tryz.f34, go_sem, l0, l1]
            · rw [RR.out]
              exact ⟨a, c, a', c', rfl, (OP.out _ (((BB.out _ B6.out).1.setCell (by first | omega | (simp; omega) | simp) _).setCell (by first | omega | (simp; omega) | simp) _)).1, (OP.out _ (((BB.out _ B6.out).1.setCell (by first | omega | (simp; omega) | simp) _).setCell (by first | omega | (simp; omega) | simp) _)).2⟩
            · exact (((BB.out _ B6.out).1.setCell (by first | omega | (simp; omega) | simp) _).setCell (by first | omega | (simp; omega) | simp) _)
      · have hne' : (ac != nx) = true := by simpa using hne
        have RE : Hid (se = 1) := Lib.hid (by rw [SE.out, if_pos (.inr (.inr (.inl hne)))])
        have RR : Hid (sr = ⟨L, S⟩) := Lib.hid (by rw [SR.out, RE.out, if_neg (by decide)])
        clear SE SR
        go_enter Tryz.func34, Tryz.ntmps34
        go_wp2_with (first
          | (go_at_call 36; (refine (ON.out _).mono ?_); rintro z w2 ⟨rfl, rfl⟩)
          | (go_at_call 39; (refine (KY.out _).mono ?_); rintro z w3 ⟨rfl, rfl⟩))
        refine wp_region_held_drew (S := fun w' => Below (w.heap.size + 3) (((w.alloc (.cells #[.slice a L.length c, .slice a' S.length c'] 25)).alloc (.cells #[.int .i64 kd, .int .i64 ac, .int .i64 pu, .int .i64 t, .int .i64 nu, .string ea, .string eb, .string ec] 46)).alloc (.cells #[.slice none 0 0, .slice none 0 0] 25)) w') (by kernel_rfl) ?_ (fun hHeld0 => ?_)
        · exact below_drew (Below.refl _ _)
        refine wpAnyH_take (i := 0) (v := ?_) rfl (by kernel_rfl) (by kernel_rfl) (by kernel_rfl) (fun _ _ _ h => h) (Or.inl ⟨by rfl, ?_⟩) (by assumption) ?_
        rotate_left
        · intro w hSw; (try dsimp only at hSw); obtain ⟨⟨p0, p1⟩, ⟨g0, g1, g2, g3, g4, g5, g6, g7⟩, _, _, _⟩ := AT.out w hSw; go_simp; (try with_reducible rfl)
        simp only [List.getElem_toArray, List.getElem_cons_zero, Act.put, List.setIfInBounds_toArray, List.set_cons_zero, List.set_cons_succ]
        refine wpAnyH_take (i := 1) (v := ?_) rfl (by kernel_rfl) (by kernel_rfl) (by kernel_rfl) (fun _ _ _ h => h) (Or.inl ⟨by rfl, ?_⟩) (by assumption) ?_
        rotate_left
        · intro w hSw; (try dsimp only at hSw); obtain ⟨⟨p0, p1⟩, ⟨g0, g1, g2, g3, g4, g5, g6, g7⟩, _, _, _⟩ := AT.out w hSw; go_simp; (try with_reducible rfl)
        simp only [List.getElem_toArray, List.getElem_cons_succ, List.getElem_cons_zero, Act.put, List.setIfInBounds_toArray, List.set_cons_zero, List.set_cons_succ]
        refine wpAnyH_take (i := 2) (v := ?_) rfl (by kernel_rfl) (by kernel_rfl) (by kernel_rfl) (fun _ _ _ h => h) (Or.inl ⟨by rfl, ?_⟩) (by assumption) ?_
        rotate_left
        · intro w hSw; (try dsimp only at hSw); obtain ⟨⟨p0, p1⟩, ⟨g0, g1, g2, g3, g4, g5, g6, g7⟩, _, _, _⟩ := AT.out w hSw; go_simp; (try with_reducible rfl)
        simp only [List.getElem_toArray, List.getElem_cons_succ, List.getElem_cons_zero, Act.put, List.setIfInBounds_toArray, List.set_cons_zero, List.set_cons_succ]
        refine wpAnyH_take (i := 3) (v := ?_) rfl (by kernel_rfl) (by kernel_rfl) (by kernel_rfl) (fun _ _ _ h => h) (Or.inl ⟨by rfl, ?_⟩) (by assumption) ?_
        rotate_left
        · intro w hSw; (try dsimp only at hSw); obtain ⟨⟨p0, p1⟩, ⟨g0, g1, g2, g3, g4, g5, g6, g7⟩, _, _, _⟩ := AT.out w hSw; go_simp; (try with_reducible rfl)
        simp only [List.getElem_toArray, List.getElem_cons_succ, List.getElem_cons_zero, Act.put, List.setIfInBounds_toArray, List.set_cons_zero, List.set_cons_succ]
        refine wpAnyH_take (i := 4) (v := ?_) rfl (by kernel_rfl) (by kernel_rfl) (by kernel_rfl) (fun _ _ _ h => h) (Or.inl ⟨by rfl, ?_⟩) (by assumption) ?_
        rotate_left
        · intro w hSw; (try dsimp only at hSw); obtain ⟨⟨p0, p1⟩, ⟨g0, g1, g2, g3, g4, g5, g6, g7⟩, _, _, _⟩ := AT.out w hSw; go_simp; (try with_reducible rfl)
        simp only [List.getElem_toArray, List.getElem_cons_succ, List.getElem_cons_zero, Act.put, List.setIfInBounds_toArray, List.set_cons_zero, List.set_cons_succ]
        refine wpAnyH_take (i := 5) (v := ?_) rfl (by kernel_rfl) (by kernel_rfl) (by kernel_rfl) (fun _ _ _ h => h) (Or.inl ⟨by rfl, ?_⟩) (by assumption) ?_
        rotate_left
        · intro w hSw; (try dsimp only at hSw); obtain ⟨⟨p0, p1⟩, ⟨g0, g1, g2, g3, g4, g5, g6, g7⟩, _, _, _⟩ := AT.out w hSw; go_simp; (try with_reducible rfl)
        simp only [List.getElem_toArray, List.getElem_cons_succ, List.getElem_cons_zero, Act.put, List.setIfInBounds_toArray, List.set_cons_zero, List.set_cons_succ]
        refine wpAnyH_take (i := 6) (v := ?_) rfl (by kernel_rfl) (by kernel_rfl) (by kernel_rfl) (fun _ _ _ h => h) (Or.inl ⟨by rfl, ?_⟩) (by assumption) ?_
        rotate_left
        · intro w hSw; (try dsimp only at hSw); obtain ⟨⟨p0, p1⟩, ⟨g0, g1, g2, g3, g4, g5, g6, g7⟩, _, _, _⟩ := AT.out w hSw; go_simp; (try with_reducible rfl)
        simp only [List.getElem_toArray, List.getElem_cons_succ, List.getElem_cons_zero, Act.put, List.setIfInBounds_toArray, List.set_cons_zero, List.set_cons_succ]
        refine wpAnyH_take (i := 7) (v := ?_) rfl (by kernel_rfl) (by kernel_rfl) (by kernel_rfl) (fun _ _ _ h => h) (Or.inl ⟨by rfl, ?_⟩) (by assumption) ?_
        rotate_left
        · intro w hSw; (try dsimp only at hSw); obtain ⟨⟨p0, p1⟩, ⟨g0, g1, g2, g3, g4, g5, g6, g7⟩, _, _, _⟩ := AT.out w hSw; go_simp; (try with_reducible rfl)
        simp only [List.getElem_toArray, List.getElem_cons_succ, List.getElem_cons_zero, Act.put, List.setIfInBounds_toArray, List.set_cons_zero, List.set_cons_succ]
        refine wpAnyH_take (i := 8) (v := ?_) rfl (by kernel_rfl) (by kernel_rfl) (by kernel_rfl) (fun _ _ _ h => h) (Or.inl ⟨by rfl, ?_⟩) (by assumption) ?_
        rotate_left
        · intro w hSw; (try dsimp only at hSw); obtain ⟨⟨p0, p1⟩, ⟨g0, g1, g2, g3, g4, g5, g6, g7⟩, _, _, _⟩ := AT.out w hSw; go_simp; (try with_reducible rfl)
        simp only [List.getElem_toArray, List.getElem_cons_succ, List.getElem_cons_zero, Act.put, List.setIfInBounds_toArray, List.set_cons_zero, List.set_cons_succ]
        refine wpAnyH_take (i := 9) (v := ?_) rfl (by kernel_rfl) (by kernel_rfl) (by kernel_rfl) (fun _ _ _ h => h) (Or.inl ⟨by rfl, ?_⟩) (by assumption) ?_
        rotate_left
        · intro w hSw; (try dsimp only at hSw); obtain ⟨⟨p0, p1⟩, ⟨g0, g1, g2, g3, g4, g5, g6, g7⟩, _, _, _⟩ := AT.out w hSw; go_simp; (try with_reducible rfl)
        simp only [List.getElem_toArray, List.getElem_cons_succ, List.getElem_cons_zero, Act.put, List.setIfInBounds_toArray, List.set_cons_zero, List.set_cons_succ]
        refine wpAnyH_ready (rs := [10]) (by kernel_rfl) (by simp) ?_
        refine AllReadyH.cons rfl (fun K hK => ?_) AllReadyH.nil
        go_simp
        (go_at_call 44; (refine (NX.out _ (below_drew (Below.refl _ _))).mono ?_); rintro z w4 ⟨rfl, b4⟩; have B4 := Lib.hid b4; clear b4)
        refine hK.out _ _ ?_ (fun hHeld1 => ?_)
        · exact B4.out
        clear hK K hHeld0
        try simp only [List.getElem_toArray, List.getElem_cons_succ, List.getElem_cons_zero, Act.put, List.setIfInBounds_toArray, List.set_cons_zero, List.set_cons_succ]
        refine wpAnyH_take (i := 11) (v := ?_) rfl (by kernel_rfl) (by kernel_rfl) (by kernel_rfl) (fun _ _ _ h => h) (Or.inl ⟨by rfl, ?_⟩) (by assumption) ?_
        rotate_left
        · intro w hSw; (try dsimp only at hSw); obtain ⟨⟨p0, p1⟩, ⟨g0, g1, g2, g3, g4, g5, g6, g7⟩, _, _, _⟩ := AT.out w hSw; go_simp; (try with_reducible rfl)
        simp only [List.getElem_toArray, List.getElem_cons_succ, List.getElem_cons_zero, Act.put, List.setIfInBounds_toArray, List.set_cons_zero, List.set_cons_succ]
        refine wpAnyH_take (i := 12) (v := ?_) rfl (by kernel_rfl) (by kernel_rfl) (by kernel_rfl) (fun _ _ _ h => h) (Or.inl ⟨by rfl, ?_⟩) (by assumption) ?_
        rotate_left
        · intro w hSw; (try dsimp only at hSw); obtain ⟨⟨p0, p1⟩, ⟨g0, g1, g2, g3, g4, g5, g6, g7⟩, _, _, _⟩ := AT.out w hSw; go_simp; (try with_reducible rfl)
        simp only [List.getElem_toArray, List.getElem_cons_succ, List.getElem_cons_zero, Act.put, List.setIfInBounds_toArray, List.set_cons_zero, List.set_cons_succ]
        refine wpAnyH_take (i := 13) (v := ?_) rfl (by kernel_rfl) (by kernel_rfl) (by kernel_rfl) (fun _ _ _ h => h) (Or.inl ⟨by rfl, ?_⟩) (by assumption) ?_
        rotate_left
        · intro w hSw; (try dsimp only at hSw); obtain ⟨⟨p0, p1⟩, ⟨g0, g1, g2, g3, g4, g5, g6, g7⟩, _, _, _⟩ := AT.out w hSw; go_simp; (try with_reducible rfl)
        simp only [List.getElem_toArray, List.getElem_cons_succ, List.getElem_cons_zero, Act.put, List.setIfInBounds_toArray, List.set_cons_zero, List.set_cons_succ]
        refine wpAnyH_take (i := 14) (v := undef) rfl (by kernel_rfl) (by kernel_rfl) (by kernel_rfl) (fun _ _ _ h => h) (Or.inr ⟨by rfl, rfl⟩) (by assumption) ?_
        simp only [List.getElem_toArray, List.getElem_cons_succ, List.getElem_cons_zero, Act.put, List.setIfInBounds_toArray, List.set_cons_zero, List.set_cons_succ]
        refine wpAnyH_take (i := 15) (v := undef) rfl (by kernel_rfl) (by kernel_rfl) (by kernel_rfl) (fun _ _ _ h => h) (Or.inr ⟨by rfl, rfl⟩) (by assumption) ?_
        simp only [List.getElem_toArray, List.getElem_cons_succ, List.getElem_cons_zero, Act.put, List.setIfInBounds_toArray, List.set_cons_zero, List.set_cons_succ]
        refine wpAnyH_take (i := 16) (v := undef) rfl (by kernel_rfl) (by kernel_rfl) (by kernel_rfl) (fun _ _ _ h => h) (Or.inr ⟨by rfl, rfl⟩) (by assumption) ?_
        simp only [List.getElem_toArray, List.getElem_cons_succ, List.getElem_cons_zero, Act.put, List.setIfInBounds_toArray, List.set_cons_zero, List.set_cons_succ]
        refine wpAnyH_take (i := 17) (v := ?_) rfl (by kernel_rfl) (by kernel_rfl) (by kernel_rfl) (fun _ _ _ h => h) (Or.inl ⟨by rfl, ?_⟩) (by assumption) ?_
        rotate_left
        · intro w hSw; (try dsimp only at hSw); obtain ⟨⟨p0, p1⟩, ⟨g0, g1, g2, g3, g4, g5, g6, g7⟩, _, _, _⟩ := AT.out w hSw; go_simp; (try with_reducible rfl)
        try simp only [List.getElem_toArray, List.getElem_cons_succ, List.getElem_cons_zero, Act.put, List.setIfInBounds_toArray, List.set_cons_zero, List.set_cons_succ]
        refine wpAnyH_done (by kernel_rfl) ?_ _
        obtain ⟨⟨q0, q1⟩, _, ⟨_, _, l0, l1⟩, lf, _⟩ := AT.out _ B4.out
        go_wp2_with fail
        refine bodyPost_ret (v := .tuple #[.agg #[.slice a L.length c, .slice a' S.length c'], .int .i64 1]) ?_ rfl ⟨_, by rw [RE.out], ?_, ?_⟩
        · simp [results, Tryz.f34, go_sem, l0, l1]
        · rw [RR.out]
          exact ⟨a, c, a', c', rfl, (OP.out _ (((BB.out _ B4.out).1.setCell (by first | omega | (simp; omega) | simp) _).setCell (by first | omega | (simp; omega) | simp) _)).1, (OP.out _ (((BB.out _ B4.out).1.setCell (by first | omega | (simp; omega) | simp) _).setCell (by first | omega | (simp; omega) | simp) _)).2⟩
        · exact (((BB.out _ B4.out).1.setCell (by first | omega | (simp; omega) | simp) _).setCell (by first | omega | (simp; omega) | simp) _)
end Go.Proofs.YtkihleecjgoipaaGreatDoor
