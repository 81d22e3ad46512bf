/- people.does. Written by wip/tools/mkppg.py. -/
import Derived.Test.YtkihleecjgoipaaDoorPpF
namespace Go.Proofs.YtkihleecjgoipaaDoor
open Go.RowKit Go.Maps Go.Proofs.YtkihleecjgoipaaDoor.Rw

set_option maxHeartbeats 4000000 in
set_option maxRecDepth 100000 in
theorem does_any {B B0 c g n : Nat} {ms : List Per.R} {w : World} (o : Per.owns w B (.slice (some ⟨g, 0, none⟩) n c) ms) (i : Nat) (hi : i < ms.length) (x : Per.R) (hx : ms[i]?.getD Per.zero = x) (hv : 0 ≤ x.vers ∧ x.vers ≤ 1099511627776) (hmi : 0 ≤ x.miss ∧ x.miss ≤ 1000) {v : Value} {p : Ppl} (hown : pown w B0 v p) (lim : few p) (e : Evn) (hs : e.a.size ≤ 4000000000) (hm : ML w) :
    Calls Tryd.prog 30 #[v, .pointer (some ⟨g, i * 13, none⟩), e.agg] w fun r w' => r = .returned (.int .i64 (doesE p x e)) ∧ Per.owns w' B (.slice (some ⟨g, 0, none⟩) n c) (ms.set i (doesF p x e)) ∧ w.grownBy w' (some g) := by
  have hgl : g < w.heap.size := by
    obtain ⟨g', hg', _, hlt, _⟩ := o.all i hi
    cases hg'
    exact hlt
  have VV : ∃ s1 s2, v = .agg #[s1, s2] := by
    obtain ⟨a, c, a', c', e, _⟩ := hown
    exact ⟨_, _, e⟩
  obtain ⟨s1, s2, rfl⟩ := VV
  have b1 : Below w.heap.size w (w.alloc (pobj s1 s2)) := (Below.refl _ _).alloc (Nat.le_refl _) _
  have b2 := b1.alloc (by simp) e.obj
  have z1 : (w.alloc (pobj s1 s2)).heap.size = w.heap.size + 1 := by simp
  obtain ⟨x0, x1⟩ := pbox_later (w := w) (w2 := (w.alloc (pobj s1 s2)).alloc e.obj) s1 s2 (B := w.heap.size + 1) (Nat.lt_succ_self _) ((Below.refl _ _).alloc (by omega) _)
  have ev := EvAt.new (w.alloc (pobj s1 s2)) e
  rw [z1] at ev
  obtain ⟨v0, v1, v2, v3, v4, v5, v6, v7⟩ := ev
  have PW : Hid (∀ w2, Below w.heap.size w w2 → Calls Tryd.prog 53 #[.pointer (some ⟨g, i * 13, none⟩), .string e.b, .string e.c] w2 fun r w' => r = .returned (.int .i64 (pasE e.b e.c)) ∧ Per.owns w' B (.slice (some ⟨g, 0, none⟩) n c) (ms.set i (pasF x e.b e.c)) ∧ w2.grownBy w' (some g)) := Lib.hid (fun w2 b => password_any (o.below b) i hi x hx hv _ _)
  have MI : Hid (∀ w2, Below w.heap.size w w2 → Calls Tryd.prog 54 #[.pointer (some ⟨g, i * 13, none⟩), .int .i64 e.at_] w2 fun r w' => r = .returned (.tuple #[]) ∧ Per.owns w' B (.slice (some ⟨g, 0, none⟩) n c) (ms.set i (missF x e.at_)) ∧ w2.grownBy w' (some g)) := Lib.hid (fun w2 b => missed_any (o.below b) i hi x hx hmi _)
  have MO : Hid (∀ w2, Below w.heap.size w w2 → Calls Tryd.prog 55 #[.agg #[s1, s2], .pointer (some ⟨g, i * 13, none⟩), .string e.a] w2 fun r w' => r = .returned (.int .i64 (movE p x e.a)) ∧ Per.owns w' B (.slice (some ⟨g, 0, none⟩) n c) (ms.set i (movF p x e.a)) ∧ w2.grownBy w' (some g)) := Lib.hid (fun w2 b => moved_any (o.below b) i hi x hx (hown.below b) lim _ hs (hm.below b))
  have CO : Hid (∀ w2, Below w.heap.size w w2 → Calls Tryd.prog 56 #[.pointer (some ⟨g, i * 13, none⟩), .string e.a] w2 fun r w' => r = .returned (.int .i64 (contE x e.a)) ∧ Per.owns w' B (.slice (some ⟨g, 0, none⟩) n c) (ms.set i (contF x e.a)) ∧ w2.grownBy w' (some g)) := Lib.hid (fun w2 b => contact_any (o.below b) i hi x hx _ hs (hm.below b))
  have VE : Hid (∀ w2, Below w.heap.size w w2 → Per.owns (w2.setCell ⟨g, i * 13 + 2, none⟩ (.bool true)) B (.slice (some ⟨g, 0, none⟩) n c) (ms.set i { x with ver := true })) := Lib.hid (fun w2 b => (o.below b).put1 i 2 hi (by omega) _ _ (by rw [hx]; rfl))
  have PA : Hid (∀ w2, Below w.heap.size w w2 → Per.owns (w2.setCell ⟨g, i * 13 + 6, none⟩ (.int .i64 0)) B (.slice (some ⟨g, 0, none⟩) n c) (ms.set i { x with miss := 0 })) := Lib.hid (fun w2 b => (o.below b).put1 i 6 hi (by omega) _ _ (by rw [hx]; rfl))
  have SAME : Hid (∀ w2, Below w.heap.size w w2 → Per.owns w2 B (.slice (some ⟨g, 0, none⟩) n c) (ms.set i x)) := Lib.hid (fun w2 b => by
    rw [← hx, List.getElem?_eq_getElem hi]
    simpa using o.below b)
  obtain ⟨g', hg', _, _, m0, m1, m2, m3, m4, m5, m6, m7, m8, m9, m10, m11, m12⟩ := (o.below b2).all i hi
  cases hg'
  have kf := (o.below b2).free
  have E : Hid (doesE p x e = if e.kind = 3 then pasE e.b e.c else if e.kind = 6 then movE p x e.a else if e.kind = 7 then contE x e.a else 0) := Lib.hid rfl
  have F : Hid (doesF p x e = if e.kind = 2 then { x with ver := true } else if e.kind = 3 then pasF x e.b e.c else if e.kind = 4 then missF x e.at_ else if e.kind = 5 then { x with miss := 0 } else if e.kind = 6 then movF p x e.a else if e.kind = 7 then contF x e.a else x) := Lib.hid rfl
  have HB := Lib.hid b2
  generalize doesE p x e = r at *
  generalize doesF p x e = y at *
  clear hx hown o hm b1 b2 z1
  obtain ⟨kd, ac, pu, t, nu, ea, eb, ec⟩ := e
  unfold pobj Evn.obj at *
  unfold Evn.agg
  simp only at *
  by_cases k2 : kd = 2
  · subst k2
    have RE : Hid (r = 0) := Lib.hid (by rw [E.out, if_neg (by decide), if_neg (by decide), if_neg (by decide)])
    have RF : Hid (y = { x with ver := true }) := Lib.hid (by rw [F.out, if_pos rfl])
    clear E F
    go_enter Tryd.func30, Tryd.ntmps30
    go_wp2_with fail
    go_ret
    exact ⟨ret_int (by rw [RE.out]), by rw [RF.out]; exact (VE.out w (Below.refl _ _)).below (((Below.refl _ _).alloc (Nat.le_refl _) _).alloc (by simp) _), World.grownBy.trans (grown_set _ _ _ _) (grown_of (((Below.refl _ _).alloc (Nat.le_refl _) _).alloc (by simp) _))⟩
  · skip
    by_cases k3 : kd = 3
    · subst k3
      have RE : Hid (r = pasE eb ec) := Lib.hid (by rw [E.out, if_pos rfl])
      have RF : Hid (y = pasF x eb ec) := Lib.hid (by rw [F.out, if_neg (by decide), if_pos rfl])
      clear E F k2
      go_enter Tryd.func30, Tryd.ntmps30
      go_wp2_with (go_at_call 53; (with_reducible refine (PW.out _ HB.out).mono ?_); rintro z w4 ⟨rfl, o4, g4⟩; have O4 := Lib.hid o4; have G4 := Lib.hid (World.grownBy.trans (grown_of HB.out) g4); clear o4 g4)
      go_ret
      exact ⟨ret_int (by rw [RE.out]), by rw [RF.out]; exact O4.out, G4.out⟩
    · skip
      by_cases k4 : kd = 4
      · subst k4
        have RE : Hid (r = 0) := Lib.hid (by rw [E.out, if_neg (by decide), if_neg (by decide), if_neg (by decide)])
        have RF : Hid (y = missF x t) := Lib.hid (by rw [F.out, if_neg (by decide), if_neg (by decide), if_pos rfl])
        clear E F k2 k3
        go_enter Tryd.func30, Tryd.ntmps30
        go_wp2_with (go_at_call 54; (with_reducible refine (MI.out _ HB.out).mono ?_); rintro z w4 ⟨rfl, o4, g4⟩; have O4 := Lib.hid o4; have G4 := Lib.hid (World.grownBy.trans (grown_of HB.out) g4); clear o4 g4)
        go_ret
        exact ⟨ret_int (by rw [RE.out]), by rw [RF.out]; exact O4.out, G4.out⟩
      · skip
        by_cases k5 : kd = 5
        · subst k5
          have RE : Hid (r = 0) := Lib.hid (by rw [E.out, if_neg (by decide), if_neg (by decide), if_neg (by decide)])
          have RF : Hid (y = { x with miss := 0 }) := Lib.hid (by rw [F.out, if_neg (by decide), if_neg (by decide), if_neg (by decide), if_pos rfl])
          clear E F k2 k3 k4
          go_enter Tryd.func30, Tryd.ntmps30
          go_wp2_with fail
          go_ret
          exact ⟨ret_int (by rw [RE.out]), by rw [RF.out]; exact (PA.out w (Below.refl _ _)).below (((Below.refl _ _).alloc (Nat.le_refl _) _).alloc (by simp) _), World.grownBy.trans (grown_set _ _ _ _) (grown_of (((Below.refl _ _).alloc (Nat.le_refl _) _).alloc (by simp) _))⟩
        · skip
          by_cases k6 : kd = 6
          · subst k6
            have RE : Hid (r = movE p x ea) := Lib.hid (by rw [E.out, if_neg (by decide), if_pos rfl])
            have RF : Hid (y = movF p x ea) := Lib.hid (by rw [F.out, if_neg (by decide), if_neg (by decide), if_neg (by decide), if_neg (by decide), if_pos rfl])
            clear E F k2 k3 k4 k5
            go_enter Tryd.func30, Tryd.ntmps30
            go_wp2_with (go_at_call 55; (with_reducible refine (MO.out _ HB.out).mono ?_); rintro z w4 ⟨rfl, o4, g4⟩; have O4 := Lib.hid o4; have G4 := Lib.hid (World.grownBy.trans (grown_of HB.out) g4); clear o4 g4)
            go_ret
            exact ⟨ret_int (by rw [RE.out]), by rw [RF.out]; exact O4.out, G4.out⟩
          · skip
            by_cases k7 : kd = 7
            · subst k7
              have RE : Hid (r = contE x ea) := Lib.hid (by rw [E.out, if_neg (by decide), if_neg (by decide), if_pos rfl])
              have RF : Hid (y = contF x ea) := Lib.hid (by rw [F.out, if_neg (by decide), if_neg (by decide), if_neg (by decide), if_neg (by decide), if_neg (by decide), if_pos rfl])
              clear E F k2 k3 k4 k5 k6
              go_enter Tryd.func30, Tryd.ntmps30
              go_wp2_with (go_at_call 56; (with_reducible refine (CO.out _ HB.out).mono ?_); rintro z w4 ⟨rfl, o4, g4⟩; have O4 := Lib.hid o4; have G4 := Lib.hid (World.grownBy.trans (grown_of HB.out) g4); clear o4 g4)
              go_ret
              exact ⟨ret_int (by rw [RE.out]), by rw [RF.out]; exact O4.out, G4.out⟩
            · skip
              have RE : Hid (r = 0) := Lib.hid (by rw [E.out, if_neg k3, if_neg k6, if_neg k7])
              have RF : Hid (y = x) := Lib.hid (by rw [F.out, if_neg k2, if_neg k3, if_neg k4, if_neg k5, if_neg k6, if_neg k7])
              have q2 : (kd == 2) = false := beq_eq_false_iff_ne.2 k2
              have q3 : (kd == 3) = false := beq_eq_false_iff_ne.2 k3
              have q4 : (kd == 4) = false := beq_eq_false_iff_ne.2 k4
              have q5 : (kd == 5) = false := beq_eq_false_iff_ne.2 k5
              have q6 : (kd == 6) = false := beq_eq_false_iff_ne.2 k6
              have q7 : (kd == 7) = false := beq_eq_false_iff_ne.2 k7
              clear E F
              go_enter Tryd.func30, Tryd.ntmps30
              go_wp2_with fail
              go_ret
              exact ⟨ret_int (by rw [RE.out]), by rw [RF.out]; exact SAME.out _ HB.out, grown_of HB.out⟩
set_option maxHeartbeats 4000000 in
set_option maxRecDepth 100000 in
/-- Apply's second function value: it hands people and the event on. -/
theorem how_any {B B0 c g n : Nat} {ms : List Per.R} {w : World} (o : Per.owns w B (.slice (some ⟨g, 0, none⟩) n c) ms) (i : Nat) (hi : i < ms.length) (x : Per.R) (hx : ms[i]?.getD Per.zero = x) (hv : 0 ≤ x.vers ∧ x.vers ≤ 1099511627776) (hmi : 0 ≤ x.miss ∧ x.miss ≤ 1000) {s1 s2 : Value} {p : Ppl} (hown : pown w B0 (.agg #[s1, s2]) p) (lim : few p) (e : Evn) (hs : e.a.size ≤ 4000000000) (hm : ML w) (gp ge : Nat)
    (hp : w.cell? ⟨gp, 0, none⟩ = some s1 ∧ w.cell? ⟨gp, 1, none⟩ = some s2) (he : EvAt w ge e) :
    Calls Tryd.prog 29 #[.pointer (some ⟨g, i * 13, none⟩), .pointer (some ⟨gp, 0, none⟩), .pointer (some ⟨ge, 0, none⟩)] w fun r w' => r = .returned (.int .i64 (doesE p x e)) ∧ Per.owns w' B (.slice (some ⟨g, 0, none⟩) n c) (ms.set i (doesF p x e)) ∧ w.grownBy w' (some g) := by
  have DO := Lib.hid (does_any o i hi x hx hv hmi hown lim e hs hm)
  obtain ⟨x0, x1⟩ := hp
  obtain ⟨v0, v1, v2, v3, v4, v5, v6, v7⟩ := he
  generalize doesE p x e = r at *
  generalize doesF p x e = y at *
  unfold Evn.agg at DO
  clear o hown hx hm
  go_enter Tryd.func29, Tryd.ntmps29
  go_wp2_with (go_at_call 30; (with_reducible refine (DO.out).mono ?_); rintro z w4 ⟨rfl, o4, g4⟩; have O4 := Lib.hid o4; have G4 := Lib.hid g4; clear o4 g4)
  go_ret
  exact ⟨rfl, O4.out, G4.out⟩
end Go.Proofs.YtkihleecjgoipaaDoor
