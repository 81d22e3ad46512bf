/- The reference's person, walked. Written by wip/tools/mkchkb.py. -/
import Derived.Test.YtkihleecjgoipaaGreatDoorChkA
namespace Go.Proofs.YtkihleecjgoipaaGreatDoor
open Go.RowKit Go.Maps Go.Proofs.YtkihleecjgoipaaGreatDoor.Rw

set_option maxHeartbeats 8000000 in
set_option maxRecDepth 100000 in
theorem person16_any (x : Per.R) (w : World) (hs : x.mail.size ≤ 4000000000 ∧ ∀ c ∈ x.cs, c.size ≤ 4000000000) :
    Calls Tryz.prog 20 #[x.agg] w fun e w' => e = .returned (.bool (perB x)) ∧ Below w.heap.size w w' := by
  have hb : Below w.heap.size w (w.alloc x.obj) := (Below.refl _ _).alloc (Nat.le_refl _) _
  have z1 : (w.alloc x.obj).heap.size = w.heap.size + 1 := by simp
  have BX : Hid (∀ w2, Below (w.heap.size + 1) (w.alloc x.obj) w2 → Per.At w2 w.heap.size x ∧ Below w.heap.size w w2) := Lib.hid (fun w2 b => ⟨(Per.box_later (w := w) (w2 := w2) x (by rw [z1]; exact b)).1, hb.trans (b.mono (by omega))⟩)
  have ON := Lib.hid (fun w2 => ones16_any x.mail hs.1 w2)
  have KY := Lib.hid (fun w2 => key16_any x.salt x.chk w2)
  have CO : Hid (Calls Tryz.prog 48 #[x.agg] (w.alloc x.obj) fun e w' => e = .returned (.bool (contB x)) ∧ Below (w.heap.size + 1) (w.alloc x.obj) w') := Lib.hid (by
    have h := contacts16_any x (w.alloc x.obj) hs.2
    rwa [z1] at h)
  have PB : Hid (perB x = (onesB x.mail && (keyB x.salt x.chk && (contB x && (decide (1 ≤ x.id) && (decide (x.id ≤ 99) && (decide (1 ≤ x.vers) && (decide (x.vers ≤ 1099511627776) && (decide (0 ≤ x.miss) && (decide (x.miss ≤ 4) && (decide (0 ≤ x.lock) && decide (x.lock ≤ 1099511627776)))))))))))) := Lib.hid (by
    unfold perB
    ac_rfl)
  generalize perB x = r at *
  generalize onesB x.mail = q1 at *
  generalize keyB x.salt x.chk = q2 at *
  generalize contB x = q3 at *
  clear hs hb z1
  obtain ⟨id, mail, ver, salt, chk, vers, miss, lock, c0, c1, c2, c3, c4⟩ := x
  unfold Per.R.obj at *
  unfold Per.R.agg at *
  simp only at *
  obtain ⟨⟨m0, m1, m2, m3, m4, m5, m6, m7, m8, m9, m10, m11, m12⟩, _⟩ := BX.out _ (Below.refl _ _)
  cases q1
  · skip
    have hre : Hid (r = false) := Lib.hid (by rw [PB.out]; simp)
    clear PB
    go_enter Tryz.func20, Tryz.ntmps20
    go_wp2_with (first
      | (go_at_call 36; (with_reducible refine (ON.out _).mono ?_); rintro z w2 ⟨rfl, rfl⟩)
      | (go_at_call 39; (with_reducible refine (KY.out _).mono ?_); rintro z w3 ⟨rfl, rfl⟩)
      | (go_at_call 48; (with_reducible refine (CO.out).mono ?_); rintro z w4 ⟨rfl, b4⟩; have B4 := Lib.hid b4; obtain ⟨⟨g0, g1, g2, g3, g4, g5, g6, g7, g8, g9, g10, g11, g12⟩, _⟩ := BX.out _ b4; clear b4))
    go_ret
    exact ⟨ret_bool hre.out.symm, (BX.out _ B4.out).2⟩
  · skip
    cases q2
    · skip
      have hre : Hid (r = false) := Lib.hid (by rw [PB.out]; simp)
      clear PB
      go_enter Tryz.func20, Tryz.ntmps20
      go_wp2_with (first
        | (go_at_call 36; (with_reducible refine (ON.out _).mono ?_); rintro z w2 ⟨rfl, rfl⟩)
        | (go_at_call 39; (with_reducible refine (KY.out _).mono ?_); rintro z w3 ⟨rfl, rfl⟩)
        | (go_at_call 48; (with_reducible refine (CO.out).mono ?_); rintro z w4 ⟨rfl, b4⟩; have B4 := Lib.hid b4; obtain ⟨⟨g0, g1, g2, g3, g4, g5, g6, g7, g8, g9, g10, g11, g12⟩, _⟩ := BX.out _ b4; clear b4))
      go_ret
      exact ⟨ret_bool hre.out.symm, (BX.out _ B4.out).2⟩
    · skip
      cases q3
      · skip
        have hre : Hid (r = false) := Lib.hid (by rw [PB.out]; simp)
        clear PB
        go_enter Tryz.func20, Tryz.ntmps20
        go_wp2_with (first
          | (go_at_call 36; (with_reducible refine (ON.out _).mono ?_); rintro z w2 ⟨rfl, rfl⟩)
          | (go_at_call 39; (with_reducible refine (KY.out _).mono ?_); rintro z w3 ⟨rfl, rfl⟩)
          | (go_at_call 48; (with_reducible refine (CO.out).mono ?_); rintro z w4 ⟨rfl, b4⟩; have B4 := Lib.hid b4; obtain ⟨⟨g0, g1, g2, g3, g4, g5, g6, g7, g8, g9, g10, g11, g12⟩, _⟩ := BX.out _ b4; clear b4))
        go_ret
        exact ⟨ret_bool hre.out.symm, (BX.out _ B4.out).2⟩
      · skip
        by_cases h1 : 1 ≤ id
        · skip
          by_cases h2 : id ≤ 99
          · skip
            by_cases h3 : 1 ≤ vers
            · skip
              by_cases h4 : vers ≤ 1099511627776
              · skip
                by_cases h5 : 0 ≤ miss
                · skip
                  by_cases h6 : miss ≤ 4
                  · skip
                    by_cases h7 : 0 ≤ lock
                    · skip
                      by_cases h8 : lock ≤ 1099511627776
                      · skip
                        have hre : Hid (r = true) := Lib.hid (by rw [PB.out, decide_eq_true h1, decide_eq_true h2, decide_eq_true h3, decide_eq_true h4, decide_eq_true h5, decide_eq_true h6, decide_eq_true h7, decide_eq_true h8]; simp)
                        clear PB
                        go_enter Tryz.func20, Tryz.ntmps20
                        go_wp2_with (first
                          | (go_at_call 36; (with_reducible refine (ON.out _).mono ?_); rintro z w2 ⟨rfl, rfl⟩)
                          | (go_at_call 39; (with_reducible refine (KY.out _).mono ?_); rintro z w3 ⟨rfl, rfl⟩)
                          | (go_at_call 48; (with_reducible refine (CO.out).mono ?_); rintro z w4 ⟨rfl, b4⟩; have B4 := Lib.hid b4; obtain ⟨⟨g0, g1, g2, g3, g4, g5, g6, g7, g8, g9, g10, g11, g12⟩, _⟩ := BX.out _ b4; clear b4))
                        go_ret
                        exact ⟨ret_bool hre.out.symm, (BX.out _ B4.out).2⟩
                      · skip
                        have hre : Hid (r = false) := Lib.hid (by rw [PB.out, decide_eq_true h1, decide_eq_true h2, decide_eq_true h3, decide_eq_true h4, decide_eq_true h5, decide_eq_true h6, decide_eq_true h7, decide_eq_false h8]; simp)
                        clear PB
                        go_enter Tryz.func20, Tryz.ntmps20
                        go_wp2_with (first
                          | (go_at_call 36; (with_reducible refine (ON.out _).mono ?_); rintro z w2 ⟨rfl, rfl⟩)
                          | (go_at_call 39; (with_reducible refine (KY.out _).mono ?_); rintro z w3 ⟨rfl, rfl⟩)
                          | (go_at_call 48; (with_reducible refine (CO.out).mono ?_); rintro z w4 ⟨rfl, b4⟩; have B4 := Lib.hid b4; obtain ⟨⟨g0, g1, g2, g3, g4, g5, g6, g7, g8, g9, g10, g11, g12⟩, _⟩ := BX.out _ b4; clear b4))
                        go_ret
                        exact ⟨ret_bool (by rw [hre.out]; first | exact decide_eq_false h8 | exact (decide_eq_false h8).symm | simp [h8] | (simp; omega)), (BX.out _ B4.out).2⟩
                    · skip
                      have hre : Hid (r = false) := Lib.hid (by rw [PB.out, decide_eq_true h1, decide_eq_true h2, decide_eq_true h3, decide_eq_true h4, decide_eq_true h5, decide_eq_true h6, decide_eq_false h7]; simp)
                      clear PB
                      go_enter Tryz.func20, Tryz.ntmps20
                      go_wp2_with (first
                        | (go_at_call 36; (with_reducible refine (ON.out _).mono ?_); rintro z w2 ⟨rfl, rfl⟩)
                        | (go_at_call 39; (with_reducible refine (KY.out _).mono ?_); rintro z w3 ⟨rfl, rfl⟩)
                        | (go_at_call 48; (with_reducible refine (CO.out).mono ?_); rintro z w4 ⟨rfl, b4⟩; have B4 := Lib.hid b4; obtain ⟨⟨g0, g1, g2, g3, g4, g5, g6, g7, g8, g9, g10, g11, g12⟩, _⟩ := BX.out _ b4; clear b4))
                      go_ret
                      exact ⟨ret_bool hre.out.symm, (BX.out _ B4.out).2⟩
                  · skip
                    have hre : Hid (r = false) := Lib.hid (by rw [PB.out, decide_eq_true h1, decide_eq_true h2, decide_eq_true h3, decide_eq_true h4, decide_eq_true h5, decide_eq_false h6]; simp)
                    clear PB
                    go_enter Tryz.func20, Tryz.ntmps20
                    go_wp2_with (first
                      | (go_at_call 36; (with_reducible refine (ON.out _).mono ?_); rintro z w2 ⟨rfl, rfl⟩)
                      | (go_at_call 39; (with_reducible refine (KY.out _).mono ?_); rintro z w3 ⟨rfl, rfl⟩)
                      | (go_at_call 48; (with_reducible refine (CO.out).mono ?_); rintro z w4 ⟨rfl, b4⟩; have B4 := Lib.hid b4; obtain ⟨⟨g0, g1, g2, g3, g4, g5, g6, g7, g8, g9, g10, g11, g12⟩, _⟩ := BX.out _ b4; clear b4))
                    go_ret
                    exact ⟨ret_bool hre.out.symm, (BX.out _ B4.out).2⟩
                · skip
                  have hre : Hid (r = false) := Lib.hid (by rw [PB.out, decide_eq_true h1, decide_eq_true h2, decide_eq_true h3, decide_eq_true h4, decide_eq_false h5]; simp)
                  clear PB
                  go_enter Tryz.func20, Tryz.ntmps20
                  go_wp2_with (first
                    | (go_at_call 36; (with_reducible refine (ON.out _).mono ?_); rintro z w2 ⟨rfl, rfl⟩)
                    | (go_at_call 39; (with_reducible refine (KY.out _).mono ?_); rintro z w3 ⟨rfl, rfl⟩)
                    | (go_at_call 48; (with_reducible refine (CO.out).mono ?_); rintro z w4 ⟨rfl, b4⟩; have B4 := Lib.hid b4; obtain ⟨⟨g0, g1, g2, g3, g4, g5, g6, g7, g8, g9, g10, g11, g12⟩, _⟩ := BX.out _ b4; clear b4))
                  go_ret
                  exact ⟨ret_bool hre.out.symm, (BX.out _ B4.out).2⟩
              · skip
                have hre : Hid (r = false) := Lib.hid (by rw [PB.out, decide_eq_true h1, decide_eq_true h2, decide_eq_true h3, decide_eq_false h4]; simp)
                clear PB
                go_enter Tryz.func20, Tryz.ntmps20
                go_wp2_with (first
                  | (go_at_call 36; (with_reducible refine (ON.out _).mono ?_); rintro z w2 ⟨rfl, rfl⟩)
                  | (go_at_call 39; (with_reducible refine (KY.out _).mono ?_); rintro z w3 ⟨rfl, rfl⟩)
                  | (go_at_call 48; (with_reducible refine (CO.out).mono ?_); rintro z w4 ⟨rfl, b4⟩; have B4 := Lib.hid b4; obtain ⟨⟨g0, g1, g2, g3, g4, g5, g6, g7, g8, g9, g10, g11, g12⟩, _⟩ := BX.out _ b4; clear b4))
                go_ret
                exact ⟨ret_bool hre.out.symm, (BX.out _ B4.out).2⟩
            · skip
              have hre : Hid (r = false) := Lib.hid (by rw [PB.out, decide_eq_true h1, decide_eq_true h2, decide_eq_false h3]; simp)
              clear PB
              go_enter Tryz.func20, Tryz.ntmps20
              go_wp2_with (first
                | (go_at_call 36; (with_reducible refine (ON.out _).mono ?_); rintro z w2 ⟨rfl, rfl⟩)
                | (go_at_call 39; (with_reducible refine (KY.out _).mono ?_); rintro z w3 ⟨rfl, rfl⟩)
                | (go_at_call 48; (with_reducible refine (CO.out).mono ?_); rintro z w4 ⟨rfl, b4⟩; have B4 := Lib.hid b4; obtain ⟨⟨g0, g1, g2, g3, g4, g5, g6, g7, g8, g9, g10, g11, g12⟩, _⟩ := BX.out _ b4; clear b4))
              go_ret
              exact ⟨ret_bool hre.out.symm, (BX.out _ B4.out).2⟩
          · skip
            have hre : Hid (r = false) := Lib.hid (by rw [PB.out, decide_eq_true h1, decide_eq_false h2]; simp)
            clear PB
            go_enter Tryz.func20, Tryz.ntmps20
            go_wp2_with (first
              | (go_at_call 36; (with_reducible refine (ON.out _).mono ?_); rintro z w2 ⟨rfl, rfl⟩)
              | (go_at_call 39; (with_reducible refine (KY.out _).mono ?_); rintro z w3 ⟨rfl, rfl⟩)
              | (go_at_call 48; (with_reducible refine (CO.out).mono ?_); rintro z w4 ⟨rfl, b4⟩; have B4 := Lib.hid b4; obtain ⟨⟨g0, g1, g2, g3, g4, g5, g6, g7, g8, g9, g10, g11, g12⟩, _⟩ := BX.out _ b4; clear b4))
            go_ret
            exact ⟨ret_bool hre.out.symm, (BX.out _ B4.out).2⟩
        · skip
          have hre : Hid (r = false) := Lib.hid (by rw [PB.out, decide_eq_false h1]; simp)
          clear PB
          go_enter Tryz.func20, Tryz.ntmps20
          go_wp2_with (first
            | (go_at_call 36; (with_reducible refine (ON.out _).mono ?_); rintro z w2 ⟨rfl, rfl⟩)
            | (go_at_call 39; (with_reducible refine (KY.out _).mono ?_); rintro z w3 ⟨rfl, rfl⟩)
            | (go_at_call 48; (with_reducible refine (CO.out).mono ?_); rintro z w4 ⟨rfl, b4⟩; have B4 := Lib.hid b4; obtain ⟨⟨g0, g1, g2, g3, g4, g5, g6, g7, g8, g9, g10, g11, g12⟩, _⟩ := BX.out _ b4; clear b4))
          go_ret
          exact ⟨ret_bool hre.out.symm, (BX.out _ B4.out).2⟩
end Go.Proofs.YtkihleecjgoipaaGreatDoor
