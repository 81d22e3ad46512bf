/- people.person. Written by wip/tools/mkstb.py. -/
import Derived.Test.YtkihleecjgoipaaGreatDoorStaA
namespace Go.Proofs.YtkihleecjgoipaaGreatDoor
open Go.RowKit Go.Maps Go.Proofs.YtkihleecjgoipaaGreatDoor.Rw

set_option maxHeartbeats 8000000 in
set_option maxRecDepth 100000 in
theorem person_any (x : Per.R) (w : World) (hm : ML w) (hs : x.mail.size ≤ 4000000000 ∧ ∀ c ∈ x.cs, c.size ≤ 4000000000) :
    Calls Tryz.prog 17 #[x.agg] w fun e w' => e = .returned (.bool (perB x)) ∧ Below w.heap.size w w' := by
  have hb : Below w.heap.size w (w.alloc x.obj) := (Below.refl _ _).alloc (Nat.le_refl _) _
  have z1 : (w.alloc x.obj).heap.size = w.heap.size + 1 := by simp
  have BX : Hid (∀ w2, Below (w.heap.size + 1) (w.alloc x.obj) w2 → Per.At w2 w.heap.size x) := Lib.hid (fun w2 b => (Per.box_later (w := w) (w2 := w2) x (by rw [z1]; exact b)).1)
  have BB : Hid (∀ w2, Below (w.heap.size + 1) (w.alloc x.obj) w2 → Below w.heap.size w w2) := Lib.hid (fun w2 b => hb.trans (b.mono (by omega)))
  have SZ : Hid (∀ w2, Below (w.heap.size + 1) (w.alloc x.obj) w2 → w.heap.size + 1 ≤ w2.heap.size) := Lib.hid (fun w2 b => by have := b.size; omega)
  have W1 := Lib.hid (fun w2 => within_any 1 99 x.id w2)
  have W4 := Lib.hid (fun w2 => within_any 0 4 x.miss w2)
  have W3 := Lib.hid (fun w2 => within64_any 1 1099511627776 x.vers w2)
  have W5 := Lib.hid (fun w2 => within64_any 0 1099511627776 x.lock w2)
  have KY := Lib.hid (fun w2 => key_any x.salt x.chk w2)
  have ON : Hid (∀ w2, Below (w.heap.size + 1) (w.alloc x.obj) w2 → Calls Tryz.prog 45 #[.string x.mail] w2 fun e w' => e = .returned (.bool (onesB x.mail)) ∧ Below (w.heap.size + 1) (w.alloc x.obj) w') := Lib.hid (fun w2 b => (ones_any x.mail hs.1 w2 (hm.below (BB.out _ b))).mono fun r w' ⟨q1, q2⟩ => ⟨q1, b.trans (q2.mono (SZ.out _ b))⟩)
  have CO : Hid (∀ w2, Below (w.heap.size + 1) (w.alloc x.obj) w2 → Calls Tryz.prog 47 #[x.agg] w2 fun e w' => e = .returned (.bool (contB x)) ∧ Below (w.heap.size + 1) (w.alloc x.obj) w') := Lib.hid (fun w2 b => (contacts_any x w2 (hm.below (BB.out _ b)) hs).mono fun r w' ⟨q1, q2⟩ => ⟨q1, b.trans (q2.mono (SZ.out _ b))⟩)
  have PB : Hid (perB x = ((decide (1 ≤ x.id) && decide (x.id ≤ 99)) && (onesB x.mail && (keyB x.salt x.chk && ((decide (1 ≤ x.vers) && decide (x.vers ≤ 1099511627776)) && ((decide (0 ≤ x.miss) && decide (x.miss ≤ 4)) && ((decide (0 ≤ x.lock) && decide (x.lock ≤ 1099511627776)) && contB x))))))) := Lib.hid (by
    unfold perB
    simp only [Bool.and_assoc])
  generalize perB x = r at *
  generalize (decide (1 ≤ x.id) && decide (x.id ≤ 99)) = q1 at *
  generalize (decide (0 ≤ x.miss) && decide (x.miss ≤ 4)) = q5 at *
  generalize (decide (1 ≤ x.vers) && decide (x.vers ≤ 1099511627776)) = q4 at *
  generalize (decide (0 ≤ x.lock) && decide (x.lock ≤ 1099511627776)) = q6 at *
  generalize onesB x.mail = q2 at *
  generalize keyB x.salt x.chk = q3 at *
  generalize contB x = q7 at *
  clear hm hs hb z1
  obtain ⟨id, mail, ver, salt, chk, vers, miss, lock, c0, c1, c2, c3, c4⟩ := x
  unfold Per.R.obj at *
  unfold Per.R.agg at *
  simp only at *
  obtain ⟨m0, m1, m2, m3, m4, m5, m6, m7, m8, m9, m10, m11, m12⟩ := BX.out _ (Below.refl _ _)
  cases q1
  · skip
    have hre : Hid (r = false) := Lib.hid (by rw [PB.out]; rfl)
    clear PB
    go_enter Tryz.func17, Tryz.ntmps17
    go_wp2_with (first
      | (go_at_call 18; (with_reducible refine (W1.out _).mono ?_); rintro z w2 ⟨rfl, rfl⟩))
    go_ret
    exact ⟨ret_bool hre.out.symm, BB.out _ (Below.refl _ _)⟩
  · skip
    cases q2
    · skip
      have hre : Hid (r = false) := Lib.hid (by rw [PB.out]; rfl)
      clear PB
      go_enter Tryz.func17, Tryz.ntmps17
      go_wp2_with (first
        | (go_at_call 18; (with_reducible refine (W1.out _).mono ?_); rintro z w2 ⟨rfl, rfl⟩)
        | (go_at_call 45; (with_reducible refine (ON.out _ (Below.refl _ _)).mono ?_); rintro z w3 ⟨rfl, b3⟩; have B3 := Lib.hid b3; obtain ⟨g0, g1, g2, g3, g4, g5, g6, g7, g8, g9, g10, g11, g12⟩ := BX.out _ b3; clear b3))
      go_ret
      exact ⟨ret_bool hre.out.symm, BB.out _ B3.out⟩
    · skip
      cases q3
      · skip
        have hre : Hid (r = false) := Lib.hid (by rw [PB.out]; rfl)
        clear PB
        go_enter Tryz.func17, Tryz.ntmps17
        go_wp2_with (first
          | (go_at_call 18; (with_reducible refine (W1.out _).mono ?_); rintro z w2 ⟨rfl, rfl⟩)
          | (go_at_call 45; (with_reducible refine (ON.out _ (Below.refl _ _)).mono ?_); rintro z w3 ⟨rfl, b3⟩; have B3 := Lib.hid b3; obtain ⟨g0, g1, g2, g3, g4, g5, g6, g7, g8, g9, g10, g11, g12⟩ := BX.out _ b3; clear b3)
          | (go_at_call 46; (with_reducible refine (KY.out _).mono ?_); rintro z w4 ⟨rfl, rfl⟩))
        go_ret
        exact ⟨ret_bool hre.out.symm, BB.out _ B3.out⟩
      · skip
        cases q4
        · skip
          have hre : Hid (r = false) := Lib.hid (by rw [PB.out]; rfl)
          clear PB
          go_enter Tryz.func17, Tryz.ntmps17
          go_wp2_with (first
            | (go_at_call 18; (with_reducible refine (W1.out _).mono ?_); rintro z w2 ⟨rfl, rfl⟩)
            | (go_at_call 45; (with_reducible refine (ON.out _ (Below.refl _ _)).mono ?_); rintro z w3 ⟨rfl, b3⟩; have B3 := Lib.hid b3; obtain ⟨g0, g1, g2, g3, g4, g5, g6, g7, g8, g9, g10, g11, g12⟩ := BX.out _ b3; clear b3)
            | (go_at_call 46; (with_reducible refine (KY.out _).mono ?_); rintro z w4 ⟨rfl, rfl⟩)
            | (go_at_call 19; (with_reducible refine (W3.out _).mono ?_); rintro z w5 ⟨rfl, rfl⟩))
          go_ret
          exact ⟨ret_bool hre.out.symm, BB.out _ B3.out⟩
        · skip
          cases q5
          · skip
            have hre : Hid (r = false) := Lib.hid (by rw [PB.out]; rfl)
            clear PB
            go_enter Tryz.func17, Tryz.ntmps17
            go_wp2_with (first
              | (go_at_call 18; (with_reducible refine (W1.out _).mono ?_); rintro z w2 ⟨rfl, rfl⟩)
              | (go_at_call 45; (with_reducible refine (ON.out _ (Below.refl _ _)).mono ?_); rintro z w3 ⟨rfl, b3⟩; have B3 := Lib.hid b3; obtain ⟨g0, g1, g2, g3, g4, g5, g6, g7, g8, g9, g10, g11, g12⟩ := BX.out _ b3; clear b3)
              | (go_at_call 46; (with_reducible refine (KY.out _).mono ?_); rintro z w4 ⟨rfl, rfl⟩)
              | (go_at_call 19; (with_reducible refine (W3.out _).mono ?_); rintro z w5 ⟨rfl, rfl⟩)
              | (go_at_call 18; (with_reducible refine (W4.out _).mono ?_); rintro z w6 ⟨rfl, rfl⟩))
            go_ret
            exact ⟨ret_bool hre.out.symm, BB.out _ B3.out⟩
          · skip
            cases q6
            · skip
              have hre : Hid (r = false) := Lib.hid (by rw [PB.out]; rfl)
              clear PB
              go_enter Tryz.func17, Tryz.ntmps17
              go_wp2_with (first
                | (go_at_call 18; (with_reducible refine (W1.out _).mono ?_); rintro z w2 ⟨rfl, rfl⟩)
                | (go_at_call 45; (with_reducible refine (ON.out _ (Below.refl _ _)).mono ?_); rintro z w3 ⟨rfl, b3⟩; have B3 := Lib.hid b3; obtain ⟨g0, g1, g2, g3, g4, g5, g6, g7, g8, g9, g10, g11, g12⟩ := BX.out _ b3; clear b3)
                | (go_at_call 46; (with_reducible refine (KY.out _).mono ?_); rintro z w4 ⟨rfl, rfl⟩)
                | (go_at_call 19; (with_reducible refine (W3.out _).mono ?_); rintro z w5 ⟨rfl, rfl⟩)
                | (go_at_call 18; (with_reducible refine (W4.out _).mono ?_); rintro z w6 ⟨rfl, rfl⟩)
                | (go_at_call 19; (with_reducible refine (W5.out _).mono ?_); rintro z w7 ⟨rfl, rfl⟩))
              go_ret
              exact ⟨ret_bool hre.out.symm, BB.out _ B3.out⟩
            · skip
              have hre : Hid (r = q7) := Lib.hid (by rw [PB.out]; rfl)
              clear PB
              go_enter Tryz.func17, Tryz.ntmps17
              go_wp2_with (first
                | (go_at_call 18; (with_reducible refine (W1.out _).mono ?_); rintro z w2 ⟨rfl, rfl⟩)
                | (go_at_call 45; (with_reducible refine (ON.out _ (Below.refl _ _)).mono ?_); rintro z w3 ⟨rfl, b3⟩; have B3 := Lib.hid b3; obtain ⟨g0, g1, g2, g3, g4, g5, g6, g7, g8, g9, g10, g11, g12⟩ := BX.out _ b3; clear b3)
                | (go_at_call 46; (with_reducible refine (KY.out _).mono ?_); rintro z w4 ⟨rfl, rfl⟩)
                | (go_at_call 19; (with_reducible refine (W3.out _).mono ?_); rintro z w5 ⟨rfl, rfl⟩)
                | (go_at_call 18; (with_reducible refine (W4.out _).mono ?_); rintro z w6 ⟨rfl, rfl⟩)
                | (go_at_call 19; (with_reducible refine (W5.out _).mono ?_); rintro z w7 ⟨rfl, rfl⟩)
                | (go_at_call 47; (with_reducible refine (CO.out _ B3.out).mono ?_); rintro z w8 ⟨rfl, b8⟩; have B8 := Lib.hid b8; clear b8))
              go_ret
              exact ⟨ret_bool hre.out.symm, BB.out _ B8.out⟩
end Go.Proofs.YtkihleecjgoipaaGreatDoor
