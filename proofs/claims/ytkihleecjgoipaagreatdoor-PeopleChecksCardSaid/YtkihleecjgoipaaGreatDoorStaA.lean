/- people.contacts, people.person. Written by wip/tools/mksta.py. -/
import Derived.Test.YtkihleecjgoipaaGreatDoorStaP
import Derived.Test.YtkihleecjgoipaaGreatDoorMg13
import Derived.Deep.RegionLaw
namespace Go.Proofs.YtkihleecjgoipaaGreatDoor
open Go.RowKit Go.Maps Go.Proofs.YtkihleecjgoipaaGreatDoor.Rw

theorem within64_any (a b n : Int) (w : World) : Calls Tryz.prog 19 #[.int .i64 a, .int .i64 b, .int .i64 n] w fun e w' => e = .returned (.bool (decide (a ≤ n) && decide (n ≤ b))) ∧ w' = w := by
  by_cases h1 : a ≤ n <;> by_cases h2 : n ≤ b
  all_goals
    go_enter Tryz.func19, Tryz.ntmps19
    go_wp2_with fail
    go_ret
    exact ⟨ret_bool (by simp [h1, h2]), rfl⟩
theorem noCs_any (w : World) : Calls Tryz.prog 64 #[] w fun e w' => e = .returned (.agg #[.string ⟨#[]⟩, .string ⟨#[]⟩, .string ⟨#[]⟩, .string ⟨#[]⟩, .string ⟨#[]⟩]) ∧ Below w.heap.size w w' := by
  have h1 := heap_new w (.cells #[.string ⟨#[]⟩, .string ⟨#[]⟩, .string ⟨#[]⟩, .string ⟨#[]⟩, .string ⟨#[]⟩] 32)
  have c0 : (w.alloc (.cells #[.string ⟨#[]⟩, .string ⟨#[]⟩, .string ⟨#[]⟩, .string ⟨#[]⟩, .string ⟨#[]⟩] 32)).cell? ⟨w.heap.size, 0, none⟩ = some (.string ⟨#[]⟩) := by rw [Lib.cell_of_heap h1]; rfl
  have c1 : (w.alloc (.cells #[.string ⟨#[]⟩, .string ⟨#[]⟩, .string ⟨#[]⟩, .string ⟨#[]⟩, .string ⟨#[]⟩] 32)).cell? ⟨w.heap.size, 1, none⟩ = some (.string ⟨#[]⟩) := by rw [Lib.cell_of_heap h1]; rfl
  have c2 : (w.alloc (.cells #[.string ⟨#[]⟩, .string ⟨#[]⟩, .string ⟨#[]⟩, .string ⟨#[]⟩, .string ⟨#[]⟩] 32)).cell? ⟨w.heap.size, 2, none⟩ = some (.string ⟨#[]⟩) := by rw [Lib.cell_of_heap h1]; rfl
  have c3 : (w.alloc (.cells #[.string ⟨#[]⟩, .string ⟨#[]⟩, .string ⟨#[]⟩, .string ⟨#[]⟩, .string ⟨#[]⟩] 32)).cell? ⟨w.heap.size, 3, none⟩ = some (.string ⟨#[]⟩) := by rw [Lib.cell_of_heap h1]; rfl
  have c4 : (w.alloc (.cells #[.string ⟨#[]⟩, .string ⟨#[]⟩, .string ⟨#[]⟩, .string ⟨#[]⟩, .string ⟨#[]⟩] 32)).cell? ⟨w.heap.size, 4, none⟩ = some (.string ⟨#[]⟩) := by rw [Lib.cell_of_heap h1]; rfl
  have fz := fun j => frozen_of_row _ _ j _ _ h1
  have HB := Lib.hid ((Below.refl w.heap.size w).alloc (Nat.le_refl _) (.cells #[.string ⟨#[]⟩, .string ⟨#[]⟩, .string ⟨#[]⟩, .string ⟨#[]⟩, .string ⟨#[]⟩] 32))
  clear h1
  go_enter Tryz.func64, Tryz.ntmps64
  go_wp2_with fail
  refine bodyPost_ret (v := .agg #[.string ⟨#[]⟩, .string ⟨#[]⟩, .string ⟨#[]⟩, .string ⟨#[]⟩, .string ⟨#[]⟩]) ?_ rfl ⟨rfl, HB.out⟩
  simp [results, Tryz.f64, go_sem, c0, c1, c2, c3, c4]
theorem eqCs_run (x y : Per.R) (w : World) : (binOp .eql 32 (.agg #[.string x.c0, .string x.c1, .string x.c2, .string x.c3, .string x.c4]) (.agg #[.string y.c0, .string y.c1, .string y.c2, .string y.c3, .string y.c4])).run Tryz.prog w = .ok (.bool (Per.eqV x y)) w := by
  rw [run_eql_struct, show (10000 : Nat) = 9998 + 2 from rfl, Per.run_eqV x y 9998 w]
  rfl
theorem idxC0 (c0 c1 c2 c3 c4 : ByteArray) (w : World) : (Instr.index 32 (.agg #[.string c0, .string c1, .string c2, .string c3, .string c4]) (.int .i64 0)).run Tryz.prog w = .ok (.string c0) w := by kernel_rfl
theorem idxC1 (c0 c1 c2 c3 c4 : ByteArray) (w : World) : (Instr.index 32 (.agg #[.string c0, .string c1, .string c2, .string c3, .string c4]) (.int .i64 1)).run Tryz.prog w = .ok (.string c1) w := by kernel_rfl
theorem idxC2 (c0 c1 c2 c3 c4 : ByteArray) (w : World) : (Instr.index 32 (.agg #[.string c0, .string c1, .string c2, .string c3, .string c4]) (.int .i64 2)).run Tryz.prog w = .ok (.string c2) w := by kernel_rfl
theorem idxC3 (c0 c1 c2 c3 c4 : ByteArray) (w : World) : (Instr.index 32 (.agg #[.string c0, .string c1, .string c2, .string c3, .string c4]) (.int .i64 3)).run Tryz.prog w = .ok (.string c3) w := by kernel_rfl
theorem idxC4 (c0 c1 c2 c3 c4 : ByteArray) (w : World) : (Instr.index 32 (.agg #[.string c0, .string c1, .string c2, .string c3, .string c4]) (.int .i64 4)).run Tryz.prog w = .ok (.string c4) w := by kernel_rfl
theorem idxC (c0 c1 c2 c3 c4 : ByteArray) (k : Nat) (hk : k < 5) (w : World) : (Instr.index 32 (.agg #[.string c0, .string c1, .string c2, .string c3, .string c4]) (.int .i64 k)).run Tryz.prog w = .ok (.string ([c0, c1, c2, c3, c4].getD k ⟨#[]⟩)) w := by
  have hc : k = 0 ∨ k = 1 ∨ k = 2 ∨ k = 3 ∨ k = 4 := by omega
  rcases hc with rfl | rfl | rfl | rfl | rfl
  · exact idxC0 ..
  · exact idxC1 ..
  · exact idxC2 ..
  · exact idxC3 ..
  · exact idxC4 ..
theorem cgo_step {l : List ByteArray} {k : Nat} {c : ByteArray} (hk : k < l.length) (hc : l.getD k ⟨#[]⟩ = c) : l.drop k = c :: l.drop (k + 1) := by
  rw [List.drop_eq_getElem_cons hk]
  congr 1
  rw [← hc, List.getD_eq_getElem?_getD, List.getElem?_eq_getElem hk]
  rfl
theorem contB_same {x : Per.R} (h : Per.eqV x Per.zero = true) : contB x = true := by
  refine contB_none ?_
  simp only [Per.eqV, Bool.and_true, Bool.and_eq_true, beq_iff_eq, Per.tl_eq] at h
  obtain ⟨h0, h1, h2, h3, h4⟩ := h
  unfold Per.R.cs
  rw [h0, h1, h2, h3, h4]
  rfl
set_option maxHeartbeats 8000000 in
set_option maxRecDepth 100000 in
theorem contacts_any (x : Per.R) (w : World) (hm : ML w) (hs : x.mail.size ≤ 4000000000 ∧ ∀ c ∈ x.cs, c.size ≤ 4000000000) :
    Calls Tryz.prog 47 #[x.agg] w fun e w' => e = .returned (.bool (contB x)) ∧ Below w.heap.size w w' := by
  have hb : Below w.heap.size w (w.alloc x.obj) := (Below.refl _ _).alloc (Nat.le_refl _) _
  have z1 : (w.alloc x.obj).heap.size = w.heap.size + 1 := by simp
  have BX : Hid (∀ w2, Below (w.heap.size + 1) (w.alloc x.obj) w2 → Per.At w2 w.heap.size x) := Lib.hid (fun w2 b => (Per.box_later (w := w) (w2 := w2) x (by rw [z1]; exact b)).1)
  have BB : Hid (∀ w2, Below (w.heap.size + 1) (w.alloc x.obj) w2 → Below w.heap.size w w2) := Lib.hid (fun w2 b => hb.trans (b.mono (by omega)))
  have SZ : Hid (∀ w2, Below (w.heap.size + 1) (w.alloc x.obj) w2 → w.heap.size + 1 ≤ w2.heap.size) := Lib.hid (fun w2 b => by have := b.size; omega)
  have NC : Hid (∀ w2, Calls Tryz.prog 64 #[] w2 fun e w' => e = .returned (.agg #[.string ⟨#[]⟩, .string ⟨#[]⟩, .string ⟨#[]⟩, .string ⟨#[]⟩, .string ⟨#[]⟩]) ∧ Below w2.heap.size w2 w') := Lib.hid noCs_any
  have ON : Hid (∀ c : ByteArray, c.size ≤ 4000000000 → ∀ w2, Below w.heap.size w w2 → Calls Tryz.prog 45 #[.string c] w2 fun e w' => e = .returned (.bool (onesB c)) ∧ Below w2.heap.size w2 w') := Lib.hid (fun c hc w2 b => ones_any c hc w2 (hm.below b))
  have CG : Hid (contB x = cgo x.cs false [x.mail]) := Lib.hid rfl
  have CE := Lib.hid (@contB_same x)
  have EQ := eqCs_run x Per.zero
  have SM : Hid (x.mail.size ≤ maxLen) := Lib.hid (by unfold maxLen; omega)
  have SC : Hid (∀ k, k < 5 → (x.cs.getD k ⟨#[]⟩).size ≤ 4000000000) := Lib.hid (fun k hk => by
    rw [List.getD_eq_getElem?_getD, List.getElem?_eq_getElem (show k < x.cs.length from hk)]
    exact hs.2 _ (List.getElem_mem _))
  generalize Per.eqV x Per.zero = q at *
  generalize contB x = r at *
  clear hm hs hb z1
  obtain ⟨id, mail, ver, salt, chk, vers, miss, lock, c0, c1, c2, c3, c4⟩ := x
  unfold Per.R.cs at *
  unfold Per.R.obj Per.zero at *
  unfold Per.R.agg
  simp only at *
  have AT0 := BX.out _ (Below.refl _ _)
  obtain ⟨m0, m1, m2, m3, m4, m5, m6, m7, m8, m9, m10, m11, m12⟩ := AT0
  have MM : ∀ w : World, (Instr.makeMap 52 none).run Tryz.prog w = .ok (.map (some w.heap.size)) (w.alloc (.map #[] 0)) := fun w => by kernel_rfl
  cases q
  · clear CE
    go_enter Tryz.func47, Tryz.ntmps47
    go_wp2_with fail
    refine wp_region_held_drew (S := fun w' => Below (w.heap.size + 1) (w.alloc (.cells #[.int .i64 id, .string mail, .bool ver, .string salt, .string chk, .int .i64 vers, .int .i64 miss, .int .i64 lock, .string c0, .string c1, .string c2, .string c3, .string c4] 34)) w') (by kernel_rfl) ?_ (fun hHeld0 => ?_)
    · exact below_drew (Below.refl _ _)
    refine wpAnyH_take (i := 0) (v := ?_) rfl (by kernel_rfl) (by kernel_rfl) (by kernel_rfl) (fun _ _ _ h => h) (Or.inl ⟨by rfl, ?_⟩) (by assumption) ?_
    rotate_left
    · intro w hSw; (try dsimp only at hSw); obtain ⟨m0, m1, m2, m3, m4, m5, m6, m7, m8, m9, m10, m11, m12⟩ := BX.out w hSw; go_simp; (try with_reducible rfl)
    simp only [List.getElem_toArray, List.getElem_cons_zero, Act.put, List.setIfInBounds_toArray, List.set_cons_zero, List.set_cons_succ]
    refine wpAnyH_take (i := 1) (v := ?_) rfl (by kernel_rfl) (by kernel_rfl) (by kernel_rfl) (fun _ _ _ h => h) (Or.inl ⟨by rfl, ?_⟩) (by assumption) ?_
    rotate_left
    · intro w hSw; (try dsimp only at hSw); obtain ⟨m0, m1, m2, m3, m4, m5, m6, m7, m8, m9, m10, m11, m12⟩ := BX.out w hSw; go_simp; (try with_reducible rfl)
    simp only [List.getElem_toArray, List.getElem_cons_succ, List.getElem_cons_zero, Act.put, List.setIfInBounds_toArray, List.set_cons_zero, List.set_cons_succ]
    refine wpAnyH_ready (rs := [2]) (by kernel_rfl) (by simp) ?_
    refine AllReadyH.cons rfl (fun K hK => ?_) AllReadyH.nil
    go_simp
    (go_at_call 64; (refine (NC.out _).mono ?_); rintro z w2 ⟨rfl, b2⟩; have B2 : Hid (Below (w.heap.size + 1) (w.alloc (.cells #[.int .i64 id, .string mail, .bool ver, .string salt, .string chk, .int .i64 vers, .int .i64 miss, .int .i64 lock, .string c0, .string c1, .string c2, .string c3, .string c4] 34)) w2) := Lib.hid ((below_drew (Below.refl _ _)).trans (b2.mono (by simp [World.drew]))); clear b2)
    refine hK.out _ _ ?_ (fun hHeld1 => ?_)
    · exact B2.out
    clear hK K hHeld0
    try simp only [List.getElem_toArray, List.getElem_cons_succ, List.getElem_cons_zero, Act.put, List.setIfInBounds_toArray, List.set_cons_zero, List.set_cons_succ]
    refine wpAnyH_take (i := 3) (v := ?_) rfl (by kernel_rfl) (by kernel_rfl) (by kernel_rfl) (fun _ _ _ h => h) (Or.inl ⟨by rfl, ?_⟩) (by assumption) ?_
    rotate_left
    · intro w hSw; (try dsimp only at hSw); obtain ⟨m0, m1, m2, m3, m4, m5, m6, m7, m8, m9, m10, m11, m12⟩ := BX.out w hSw; go_simp; (try with_reducible rfl)
    try simp only [List.getElem_toArray, List.getElem_cons_succ, List.getElem_cons_zero, Act.put, List.setIfInBounds_toArray, List.set_cons_zero, List.set_cons_succ]
    refine wpAnyH_done (by kernel_rfl) ?_ _
    obtain ⟨g0, g1, g2, g3, g4, g5, g6, g7, g8, g9, g10, g11, g12⟩ := BX.out _ B2.out
    obtain ⟨w3, ru3, M3, gr3⟩ := (met.new w2).put (by omega) mail SM.out
    have A3 := Lib.hid (B2.out.alloc (SZ.out _ B2.out) (.map #[] 0))
    have B3 : Hid (Below (w.heap.size + 1) (w.alloc (.cells #[.int .i64 id, .string mail, .bool ver, .string salt, .string chk, .int .i64 vers, .int .i64 miss, .int .i64 lock, .string c0, .string c1, .string c2, .string c3, .string c4] 34)) w3) := Lib.hid (A3.out.grown gr3 (SZ.out _ A3.out) (fun j hj => by cases hj; exact SZ.out _ B2.out))
    obtain ⟨k0, k1, k2, k3, k4, k5, k6, k7, k8, k9, k10, k11, k12⟩ := BX.out _ A3.out
    obtain ⟨l0, l1, l2, l3, l4, l5, l6, l7, l8, l9, l10, l11, l12⟩ := BX.out _ B3.out
    have M3 := Lib.hid M3
    clear gr3
    go_wp2_with fail
    go_loopw [4, 17] (fun en i wr => ∃ (k : Nat) (eb : Bool) (seen : List ByteArray), k ≤ 5 ∧ i = .int .i64 k ∧ en = .bool eb ∧ met wr w2.heap.size (k + 1) seen ∧ r = cgo ([c0, c1, c2, c3, c4].drop k) eb seen ∧ Below (w.heap.size + 1) (w.alloc (.cells #[.int .i64 id, .string mail, .bool ver, .string salt, .string chk, .int .i64 vers, .int .i64 miss, .int .i64 lock, .string c0, .string c1, .string c2, .string c3, .string c4] 34)) wr) (fun _ i _ => 5 - (intOf i).toNat)
    case atStart => exact ⟨0, false, [mail], by omega, rfl, rfl, M3.out, CG.out, B3.out⟩
    case round =>
      obtain ⟨k, eb, seen, hk, rfl, rfl, hmet, hr, hbr⟩ := hrel
      have ME := Lib.hid hmet
      have HR := Lib.hid hr
      have WB := Lib.hid hbr
      clear hmet hr hbr
      by_cases hk5 : k < 5
      · have hk5' : (k : Int) < 5 := by omega
        have hk0 : (0 : Int) ≤ k := by omega
        have hidx := fun w => idxC c0 c1 c2 c3 c4 k hk5 w
        have sc := SC.out k hk5
        have STP := Lib.hid (fun c hc => cgo_step (l := [c0, c1, c2, c3, c4]) (k := k) (c := c) hk5 hc)
        obtain ⟨c, hc⟩ : ∃ c, [c0, c1, c2, c3, c4].getD k ⟨#[]⟩ = c := ⟨_, rfl⟩
        have hd := STP.out c hc
        rw [hd] at HR
        rw [hc] at hidx sc
        have SCC := Lib.hid sc
        have scm : Hid (c.size ≤ maxLen) := Lib.hid (by unfold maxLen; omega)
        clear STP hc hd sc
        cases hv : c.toList.isEmpty
        · have hne : c ≠ ⟨#[]⟩ := fun e => by
            rw [emp_dec, e] at hv
            simp at hv
          have HR2 : Hid (r = if (eb || inB c seen || !onesB c) = true then false else cgo ([c0, c1, c2, c3, c4].drop (k + 1)) eb (c :: seen)) := Lib.hid (by
            rw [HR.out, cgo, if_neg hne])
          clear HR hne
          have LK := ME.out.look c scm.out
          generalize inB c seen = bi at *
          cases eb
          · cases bi
            · have ON2 := Lib.hid (ON.out c SCC.out wr (BB.out _ WB.out))
              generalize onesB c = bo at *
              cases bo
              · have hre : Hid (r = false) := Lib.hid (by rw [HR2.out]; rfl)
                clear HR2
                go_wp2_with (go_at_call 45; (refine (ON2.out).mono ?_); rintro z w4 ⟨rfl, b4⟩; have B4 := Lib.hid (WB.out.trans (b4.mono (SZ.out _ WB.out))); clear b4)
                go_ret
                exact ⟨ret_bool hre.out.symm, BB.out _ B4.out⟩
              · have hre : Hid (r = cgo ([c0, c1, c2, c3, c4].drop (k + 1)) false (c :: seen)) := Lib.hid (by rw [HR2.out]; rfl)
                clear HR2
                go_wp2_with (go_at_call 45; (refine (ON2.out).mono ?_); rintro z w4 ⟨rfl, b4⟩; have B4 := Lib.hid (WB.out.trans (b4.mono (SZ.out _ WB.out))); obtain ⟨w5, ru, M5, g5⟩ := (ME.out.below b4).put (by omega) c scm.out; have M5 := Lib.hid M5; have G5 := Lib.hid g5; clear b4 g5)
                go_roundw
                case rel => exact ⟨k + 1, false, c :: seen, by omega, by go_num, rfl, M5.out, hre.out, B4.out.grown G5.out (SZ.out _ B4.out) (fun j hj => by cases hj; exact SZ.out _ B2.out)⟩
                case measure => simp [intOf]; omega
            · have hre : Hid (r = false) := Lib.hid (by rw [HR2.out]; rfl)
              clear HR2
              go_wp2_with fail
              go_ret
              exact ⟨ret_bool hre.out.symm, BB.out _ WB.out⟩
          · have hre : Hid (r = false) := Lib.hid (by rw [HR2.out]; rfl)
            clear HR2
            go_wp2_with fail
            go_ret
            exact ⟨ret_bool hre.out.symm, BB.out _ WB.out⟩
        · have he : c = ⟨#[]⟩ := by
            rw [emp_dec] at hv
            exact of_decide_eq_true hv
          have HR2 : Hid (r = cgo ([c0, c1, c2, c3, c4].drop (k + 1)) true (c :: seen)) := Lib.hid (by
            rw [HR.out, cgo, if_pos he])
          clear HR he
          obtain ⟨w5, ru, M5, g5⟩ := ME.out.put (by omega) c scm.out
          have M5 := Lib.hid M5
          have G5 := Lib.hid g5
          clear g5
          go_wp2_with fail
          go_roundw
          case rel => exact ⟨k + 1, true, c :: seen, by omega, by go_num, rfl, M5.out, HR2.out, WB.out.grown G5.out (SZ.out _ WB.out) (fun j hj => by cases hj; exact SZ.out _ B2.out)⟩
          case measure => simp [intOf]; omega
      · have hk5' : ¬ (k : Int) < 5 := by omega
        have hre : Hid (r = true) := Lib.hid (by
          obtain rfl : k = 5 := by omega
          exact HR.out)
        clear HR
        go_wp2_with fail
        go_ret
        exact ⟨ret_bool hre.out.symm, BB.out _ WB.out⟩
  · have hre : Hid (r = true) := Lib.hid (CE.out rfl)
    clear CE CG
    go_enter Tryz.func47, Tryz.ntmps47
    go_wp2_with fail
    refine wp_region_held_drew (S := fun w' => Below (w.heap.size + 1) (w.alloc (.cells #[.int .i64 id, .string mail, .bool ver, .string salt, .string chk, .int .i64 vers, .int .i64 miss, .int .i64 lock, .string c0, .string c1, .string c2, .string c3, .string c4] 34)) w') (by kernel_rfl) ?_ (fun hHeld0 => ?_)
    · exact below_drew (Below.refl _ _)
    refine wpAnyH_take (i := 0) (v := ?_) rfl (by kernel_rfl) (by kernel_rfl) (by kernel_rfl) (fun _ _ _ h => h) (Or.inl ⟨by rfl, ?_⟩) (by assumption) ?_
    rotate_left
    · intro w hSw; (try dsimp only at hSw); obtain ⟨m0, m1, m2, m3, m4, m5, m6, m7, m8, m9, m10, m11, m12⟩ := BX.out w hSw; go_simp; (try with_reducible rfl)
    simp only [List.getElem_toArray, List.getElem_cons_zero, Act.put, List.setIfInBounds_toArray, List.set_cons_zero, List.set_cons_succ]
    refine wpAnyH_take (i := 1) (v := ?_) rfl (by kernel_rfl) (by kernel_rfl) (by kernel_rfl) (fun _ _ _ h => h) (Or.inl ⟨by rfl, ?_⟩) (by assumption) ?_
    rotate_left
    · intro w hSw; (try dsimp only at hSw); obtain ⟨m0, m1, m2, m3, m4, m5, m6, m7, m8, m9, m10, m11, m12⟩ := BX.out w hSw; go_simp; (try with_reducible rfl)
    simp only [List.getElem_toArray, List.getElem_cons_succ, List.getElem_cons_zero, Act.put, List.setIfInBounds_toArray, List.set_cons_zero, List.set_cons_succ]
    refine wpAnyH_ready (rs := [2]) (by kernel_rfl) (by simp) ?_
    refine AllReadyH.cons rfl (fun K hK => ?_) AllReadyH.nil
    go_simp
    (go_at_call 64; (refine (NC.out _).mono ?_); rintro z w2 ⟨rfl, b2⟩; have B2 : Hid (Below (w.heap.size + 1) (w.alloc (.cells #[.int .i64 id, .string mail, .bool ver, .string salt, .string chk, .int .i64 vers, .int .i64 miss, .int .i64 lock, .string c0, .string c1, .string c2, .string c3, .string c4] 34)) w2) := Lib.hid ((below_drew (Below.refl _ _)).trans (b2.mono (by simp [World.drew]))); clear b2)
    refine hK.out _ _ ?_ (fun hHeld1 => ?_)
    · exact B2.out
    clear hK K hHeld0
    try simp only [List.getElem_toArray, List.getElem_cons_succ, List.getElem_cons_zero, Act.put, List.setIfInBounds_toArray, List.set_cons_zero, List.set_cons_succ]
    refine wpAnyH_take (i := 3) (v := ?_) rfl (by kernel_rfl) (by kernel_rfl) (by kernel_rfl) (fun _ _ _ h => h) (Or.inl ⟨by rfl, ?_⟩) (by assumption) ?_
    rotate_left
    · intro w hSw; (try dsimp only at hSw); obtain ⟨m0, m1, m2, m3, m4, m5, m6, m7, m8, m9, m10, m11, m12⟩ := BX.out w hSw; go_simp; (try with_reducible rfl)
    try simp only [List.getElem_toArray, List.getElem_cons_succ, List.getElem_cons_zero, Act.put, List.setIfInBounds_toArray, List.set_cons_zero, List.set_cons_succ]
    refine wpAnyH_done (by kernel_rfl) ?_ _
    obtain ⟨g0, g1, g2, g3, g4, g5, g6, g7, g8, g9, g10, g11, g12⟩ := BX.out _ B2.out
    go_wp2_with fail
    go_ret
    exact ⟨ret_bool hre.out.symm, BB.out _ B2.out⟩
end Go.Proofs.YtkihleecjgoipaaGreatDoor
