/- The reference's people: ones, key, Clock, at, By, has, walked. Written by wip/tools/mkr16a.py. -/
import Derived.Test.YtkihleecjgoipaaGreatDoorMg9
import Derived.Test.YtkihleecjgoipaaGreatDoorMg3
import Derived.Test.YtkihleecjgoipaaGreatDoorStaP
import Derived.Test.YtkihleecjgoipaaGreatDoorPpH
import Derived.Test.YtkihleecjgoipaaGreatDoorMg5
section
namespace Go.Proofs.YtkihleecjgoipaaGreatDoor
open Go.RowKit Go.Maps Go.Proofs.YtkihleecjgoipaaGreatDoor.Rw

set_option maxRecDepth 100000 in
theorem ones16_any (s : ByteArray) (hs : s.size ≤ 4000000000) (w : World) : Calls Tryz.prog 36 #[.string s] w fun e w' => e = .returned (.bool (onesB s)) ∧ w' = w := by
  have K := Lib.hid (Knd.kind9_any s hs w)
  have O : Hid (onesB s = decide (kindOf s = 1)) := Lib.hid rfl
  generalize onesB s = b at *
  generalize kindOf s = k at *
  go_enter Tryz.func36, Tryz.ntmps36
  go_wp2_with (go_at_call 62; (with_reducible refine (K.out).mono ?_); rintro e w2 ⟨rfl, rfl⟩)
  go_ret
  exact ⟨ret_bool (by rw [O.out, Bool.eq_iff_iff, beq_iff_eq, decide_eq_true_eq]; omega), rfl⟩
set_option maxRecDepth 100000 in
theorem key16_any (s c : ByteArray) (w : World) : Calls Tryz.prog 39 #[.string s, .string c] w fun e w' => e = .returned (.bool (keyB s c)) ∧ w' = w := by
  have O : Hid (keyB s c = (decide (1 ≤ s.size) && decide (s.size ≤ 16) && decide (c.size = 32))) := Lib.hid rfl
  generalize keyB s c = b at *
  by_cases h1 : 1 ≤ s.size
  · have h1' : (1 : Int) ≤ s.size := by omega
    by_cases h2 : s.size ≤ 16
    · have h2' : (s.size : Int) ≤ 16 := by omega
      go_enter Tryz.func39, Tryz.ntmps39
      go_wp2_with fail
      go_ret
      exact ⟨ret_bool (by rw [O.out, decide_eq_true h1, decide_eq_true h2, Bool.and_self, Bool.true_and, Bool.eq_iff_iff, beq_iff_eq, decide_eq_true_eq]; omega), rfl⟩
    · have h2' : ¬ (s.size : Int) ≤ 16 := by omega
      go_enter Tryz.func39, Tryz.ntmps39
      go_wp2_with fail
      go_ret
      exact ⟨ret_bool (by rw [O.out, decide_eq_false h2, Bool.and_false, Bool.false_and]), rfl⟩
  · have h1' : ¬ (1 : Int) ≤ s.size := by omega
    go_enter Tryz.func39, Tryz.ntmps39
    go_wp2_with fail
    go_ret
    exact ⟨ret_bool (by rw [O.out, decide_eq_false h1, Bool.false_and, Bool.false_and]), rfl⟩
set_option maxRecDepth 100000 in
theorem clock16_any (t : Int) (h : 0 ≤ t ∧ t ≤ 1023) (w : World) : Calls Tryz.prog 40 #[.int .i64 t, .int .i64 100] w fun e w' => e = .returned (.int .i64 (clk t 100)) ∧ w' = w := by
  have HC := Lib.hid (clk_small h)
  generalize clk t 100 = c at *
  obtain ⟨h1, h2⟩ := h
  have c1 : ¬ t < 0 := by omega
  have c2 : ¬ (1099511627676 : Int) < t := by omega
  go_enter Tryz.func40, Tryz.ntmps40
  go_wp2_with fail
  go_ret
  exact ⟨ret_int HC.out.symm, rfl⟩
set_option maxHeartbeats 4000000 in
set_option maxRecDepth 100000 in
theorem at16_any {B : Nat} {v : Value} {p : Ppl} {w : World} (hown : pown w B v p) (lim : few p) (id : Int) :
    Calls Tryz.prog 35 #[v, .int .i64 id] w fun e w' => e = .returned (.int .i64 (idx p.ps (fun x => decide (x.id = id)))) ∧ Below w.heap.size w w' := by
  obtain ⟨a, c, a', c', rfl, o1, o2⟩ := hown
  obtain ⟨lim1, lim2⟩ := lim
  obtain ⟨L, S⟩ := p
  simp only at *
  have b1 : Below w.heap.size w (w.alloc (pobj (.slice a L.length c) (.slice a' S.length c'))) := (Below.refl _ _).alloc (Nat.le_refl _) _
  obtain ⟨x0, x1⟩ := pbox w (.slice a L.length c) (.slice a' S.length c')
  have OW := Lib.hid (o1.below b1)
  have HB := Lib.hid b1
  obtain ⟨n, hn⟩ : ∃ n, L.length = n := ⟨_, rfl⟩
  have HN := Lib.hid hn
  obtain ⟨r, hr⟩ : ∃ r, idx L (fun x => decide (x.id = id)) = r := ⟨_, rfl⟩
  have HR := Lib.hid hr
  rw [hr]
  simp only [hn] at x0 x1 OW HB lim1 ⊢
  clear o1 o2 b1 hn hr
  unfold pobj at *
  obtain ⟨w1, hw1⟩ : ∃ w1, w.alloc (.cells #[.slice a n c, .slice a' S.length c'] 25) = w1 := ⟨_, rfl⟩
  go_enter Tryz.func35, Tryz.ntmps35
  go_wp2_with fail
  simp only [hw1] at *
  go_loopw [5] (fun i wr => wr = w1 ∧ ∃ k : Nat, k ≤ n ∧ i = .int .i64 k ∧ ∀ j, j < k → (fun x : Per.R => decide (x.id = id)) (L[j]?.getD Per.zero) = false) (fun i _ => n - (intOf i).toNat)
  case atStart => exact ⟨rfl, 0, Nat.zero_le _, rfl, fun j hj => (Nat.not_lt_zero j hj).elim⟩
  case round =>
    obtain ⟨hw, k, hk, rfl, hno⟩ := hrel
    subst hw
    have HO := Lib.hid hno
    clear hno
    by_cases hkn : k < n
    · have hkn' : (k : Int) < n := by omega
      have hk0 : (0 : Int) ≤ k := by omega
      obtain ⟨g, rfl, _, _, m0, _⟩ := OW.out.all k (by rw [HN.out]; exact hkn)
      obtain ⟨x, hx⟩ : ∃ x, L[k]?.getD Per.zero = x := ⟨_, rfl⟩
      rw [hx] at m0
      have HX := Lib.hid hx
      clear hx
      by_cases hid : x.id = id
      · have hid' : (x.id == id) = true := by simpa using hid
        have hp : Hid (r = (k : Int)) := Lib.hid (by
          rw [← HR.out, idx, pos_hit (d := Per.zero) (by rw [HN.out]; exact hkn) HO.out (by rw [HX.out]; simpa using hid), if_pos (by rw [HN.out]; exact hkn)])
        clear hid
        go_wp2_with fail
        go_ret
        exact ⟨ret_int hp.out.symm, HB.out⟩
      · have hid' : (x.id == id) = false := by simpa using hid
        have HD := Lib.hid hid
        clear hid
        go_wp2_with fail
        go_roundw
        case rel => exact ⟨by trivial, k + 1, by omega, by go_num, fun j hj => by
          rcases Nat.lt_or_ge j k with e | e
          · exact HO.out j e
          · obtain rfl : j = k := by omega
            rw [HX.out]
            simpa using HD.out⟩
        case measure => simp [intOf]; omega
    · have hkn' : ¬ ((k : Int) < n) := by omega
      have hp : Hid (r = -1) := Lib.hid (by
        obtain rfl : k = n := by omega
        rw [← HR.out, idx, pos_none (d := Per.zero) (fun j hj => HO.out j (by rw [← HN.out]; exact hj)), if_neg (by omega)])
      go_wp2_with fail
      go_ret
      exact ⟨ret_int hp.out.symm, HB.out⟩
end Go.Proofs.YtkihleecjgoipaaGreatDoor
end
/- The reference's people: By, has, sessions, with, walked. -/
section
namespace Go.Proofs.YtkihleecjgoipaaGreatDoor
open Go.RowKit Go.Maps Go.Proofs.YtkihleecjgoipaaGreatDoor.Rw

/-- A whole row, appended to an empty new one. -/
theorem Per.onto {w : World} {B B0 q : Nat} {v : Value} {ls : List Per.R} (h : Per.owns w B0 v ls) (hq : w.heap[q]? = some (.cells #[] 34)) (hB : B ≤ q) (lim : ls.length ≤ 1000000) (ty : TypeId) :
    ∃ a' c' w', (Builtin.append_ #[22, 22] ty #[.slice (some ⟨q, 0, none⟩) 0 0, v]).run Tryz.prog w = .ok (.slice a' ls.length c') w' ∧ Per.owns w' B (.slice a' ls.length c') ls ∧ w.grownBy w' (some q) := by
  have hlt : q < w.heap.size := heap_lt hq
  have hmade : w.ownsRow B 34 13 (.slice (some ⟨q, 0, none⟩) 0 0) 0 [] := ⟨rfl, .inr ⟨q, 0, #[], rfl, hB, hq, Nat.le_refl _, Nat.zero_le _, rfl, rfl⟩⟩
  obtain ⟨i0, hi, hz0, hz1, hz2⟩ := info_parts Per.info
  rcases h.2 with ⟨e1, e2⟩ | ⟨g, cap, cur, e1, _⟩
  · subst e1
    have hls : ls = [] := List.eq_nil_of_length_eq_zero e2
    subst hls
    refine ⟨some ⟨q, 0, none⟩, 0, w, ?_, hmade, ⟨rfl, rfl, rfl, Nat.le_refl _, fun _ _ _ => rfl⟩⟩
    have hu := Tryz.underlying22
    simp [Builtin.append_, run_underlying hu, sizeOf, typeInfo, hi, Builtin.lenOf, Builtin.firstCells, storeCells]
  · subst e1
    obtain ⟨v', w', ra, ro, rg, _, rat⟩ := run_append_own_at (P := Tryz.prog) w B 22 ty 34 i0 _ 13 168 Tryz.underlying22 hi hz0 hz1 hz2 rfl (by decide) (.slice (some ⟨q, 0, none⟩) 0 0) 0 [] hmade ⟨g, 0, none⟩ ls.length cap (Per.flat ls) (Per.flat_len ls) (World.ownsRow.cells h (g := g) rfl) (Per.flat_one ls) (by unfold maxLen; omega) (by omega) (by omega)
    have ho : Per.owns w' B v' ls := by
      unfold Per.owns
      simpa using ro
    obtain ⟨a', c', rfl, _⟩ := ho.form
    exact ⟨a', c', w', ra, ho, rg⟩
set_option maxHeartbeats 4000000 in
set_option maxRecDepth 100000 in
theorem by16_any {B : Nat} {v : Value} {p : Ppl} {w : World} (hown : pown w B v p) (lim : few p) (m : ByteArray) :
    Calls Tryz.prog 37 #[v, .string m] w fun e w' => e = .returned (.tuple #[(pick p.ps (fun x => decide (x.mail = m))).agg, .bool (byB p m)]) ∧ Below w.heap.size w w' := by
  obtain ⟨a, c, a', c', rfl, o1, o2⟩ := hown
  obtain ⟨lim1, lim2⟩ := lim
  obtain ⟨L, S⟩ := p
  have YB : Hid (byB ⟨L, S⟩ m = decide (L.findIdx (fun x => decide (x.mail = m)) < L.length)) := Lib.hid (any_pos L _)
  have PK : Hid (pick L (fun x => decide (x.mail = m)) = L[L.findIdx (fun x => decide (x.mail = m))]?.getD Per.zero) := Lib.hid rfl
  simp only at *
  generalize byB ⟨L, S⟩ m = q at *
  generalize pick L (fun x => decide (x.mail = m)) = y at *
  have b1 : Below w.heap.size w (w.alloc (pobj (.slice a L.length c) (.slice a' S.length c'))) := (Below.refl _ _).alloc (Nat.le_refl _) _
  have z1 : (w.alloc (pobj (.slice a L.length c) (.slice a' S.length c'))).heap.size = w.heap.size + 1 := by simp
  have b2 := b1.alloc (by simp) Per.zero.obj
  obtain ⟨x0, x1⟩ := pbox_later (w := w) (w2 := (w.alloc (pobj (.slice a L.length c) (.slice a' S.length c'))).alloc Per.zero.obj) (.slice a L.length c) (.slice a' S.length c') (B := w.heap.size + 1) (Nat.lt_succ_self _) ((Below.refl _ _).alloc (by omega) _)
  obtain ⟨y0, y1, y2, y3, y4, y5, y6, y7, y8, y9, y10, y11, y12⟩ := Per.box (w.alloc (pobj (.slice a L.length c) (.slice a' S.length c'))) Per.zero
  have yf := Per.box_free (w.alloc (pobj (.slice a L.length c) (.slice a' S.length c'))) Per.zero
  rw [z1] at y0 y1 y2 y3 y4 y5 y6 y7 y8 y9 y10 y11 y12
  simp only [z1] at yf
  have OW := Lib.hid (o1.below b2)
  have HB := Lib.hid b2
  obtain ⟨n, hn⟩ : ∃ n, L.length = n := ⟨_, rfl⟩
  have HN := Lib.hid hn
  simp only [hn] at x0 x1 y0 y1 y2 y3 y4 y5 y6 y7 y8 y9 y10 y11 y12 yf OW HB lim1 YB ⊢
  clear o1 o2 b1 b2 hn z1
  unfold pobj at *
  unfold Per.zero Per.R.obj at x0 x1 y0 y1 y2 y3 y4 y5 y6 y7 y8 y9 y10 y11 y12 yf OW HB
  simp only at x0 x1 y0 y1 y2 y3 y4 y5 y6 y7 y8 y9 y10 y11 y12 yf OW HB
  go_enter Tryz.func37, Tryz.ntmps37
  go_wp2_with fail
  obtain ⟨w1, hw1⟩ : ∃ w1, (w.alloc (.cells #[.slice a n c, .slice a' S.length c'] 25)).alloc (.cells #[.int .i64 0, .string ⟨#[]⟩, .bool false, .string ⟨#[]⟩, .string ⟨#[]⟩, .int .i64 0, .int .i64 0, .int .i64 0, .string ⟨#[]⟩, .string ⟨#[]⟩, .string ⟨#[]⟩, .string ⟨#[]⟩, .string ⟨#[]⟩] 34) = w1 := ⟨_, rfl⟩
  simp only [hw1] at *
  go_loopw [6] (fun i wr => wr = w1 ∧ ∃ k : Nat, k ≤ n ∧ i = .int .i64 k ∧ ∀ j, j < k → (fun x : Per.R => decide (x.mail = m)) (L[j]?.getD Per.zero) = false) (fun i _ => n - (intOf i).toNat)
  case atStart => exact ⟨rfl, 0, Nat.zero_le _, rfl, fun j hj => (Nat.not_lt_zero j hj).elim⟩
  case round =>
    obtain ⟨hw, k, hk, rfl, hno⟩ := hrel
    subst hw
    have HO := Lib.hid hno
    clear hno hw1
    by_cases hkn : k < n
    · have hkn' : (k : Int) < n := by omega
      have hk0 : (0 : Int) ≤ k := by omega
      obtain ⟨g, rfl, _, _, m0, m1, m2, m3, m4, m5, m6, m7, m8, m9, m10, m11, m12⟩ := OW.out.all k (by rw [HN.out]; exact hkn)
      obtain ⟨x, hx⟩ : ∃ x, L[k]?.getD Per.zero = x := ⟨_, rfl⟩
      rw [hx] at m0 m1 m2 m3 m4 m5 m6 m7 m8 m9 m10 m11 m12
      have HX := Lib.hid hx
      clear hx
      by_cases hid : x.mail = m
      · have hid' : (x.mail.toList == m.toList) = true := by simpa using tl_inj.2 hid
        have hpos : L.findIdx (fun x => decide (x.mail = m)) = k := pos_hit (d := Per.zero) (by rw [HN.out]; exact hkn) HO.out (by rw [HX.out]; simpa using hid)
        have hq : Hid (q = true) := Lib.hid (by rw [YB.out, hpos]; exact decide_eq_true hkn)
        have hy : Hid (y = x) := Lib.hid (by rw [PK.out, hpos, HX.out])
        clear hid hpos YB PK
        go_wp2_with fail
        refine bodyPost_ret (v := .tuple #[x.agg, .bool true]) ?_ rfl ⟨by rw [hy.out, hq.out], ?_⟩
        · simp [results, Tryz.f37, go_sem, Per.R.agg, y0, y1, y2, y3, y4, y5, y6, y7, y8, y9, y10, y11, y12]
        · exact Per.below_put (o := 0) HB.out (by simp) _ _ _ _ _ _ _ _ _ _ _ _ _
      · have hid' : (x.mail.toList == m.toList) = false := by simpa using fun c => hid (tl_inj.1 c)
        have HD := Lib.hid hid
        clear hid
        go_wp2_with fail
        go_roundw
        case rel => exact ⟨by trivial, k + 1, by omega, by go_num, fun j hj => by
          rcases Nat.lt_or_ge j k with e | e
          · exact HO.out j e
          · obtain rfl : j = k := by omega
            rw [HX.out]
            simpa using HD.out⟩
        case measure => simp [intOf]; omega
    · have hkn' : ¬ ((k : Int) < n) := by omega
      have hpos : L.findIdx (fun x => decide (x.mail = m)) = n := by
        rw [← HN.out]
        exact pos_none (d := Per.zero) (fun j hj => HO.out j (by rw [HN.out] at hj; omega))
      have hq : Hid (q = false) := Lib.hid (by rw [YB.out, hpos]; exact decide_eq_false (Nat.lt_irrefl _))
      have hy : Hid (y = Per.zero) := Lib.hid (by rw [PK.out, hpos, List.getElem?_eq_none (by rw [HN.out]; exact Nat.le_refl _)]; rfl)
      clear hpos YB PK
      go_wp2_with fail
      refine bodyPost_ret (v := .tuple #[Per.zero.agg, .bool false]) ?_ rfl ⟨by rw [hy.out, hq.out], ?_⟩
      · simp [results, Tryz.f37, go_sem, Per.R.agg, Per.zero, y0, y1, y2, y3, y4, y5, y6, y7, y8, y9, y10, y11, y12]
      · exact Per.below_put (o := 0) HB.out (by simp) _ _ _ _ _ _ _ _ _ _ _ _ _
set_option maxHeartbeats 4000000 in
set_option maxRecDepth 100000 in
theorem has16_any (x : Per.R) (m : ByteArray) (w : World) : Calls Tryz.prog 38 #[x.agg, .string m] w fun e w' => e = .returned (.bool (hasB x m)) ∧ Below w.heap.size w w' := by
  have hb : Below w.heap.size w (w.alloc x.obj) := (Below.refl _ _).alloc (Nat.le_refl _) _
  obtain ⟨c0, c1, c2, c3, c4, c5, c6, c7, c8, c9, c10, c11, c12⟩ := Per.box w x
  have HB := Lib.hid hb
  have CS := Lib.hid (CsAt.of (x := x) (g := w.heap.size) (o := 8) c8 c9 c10 c11 c12)
  have HH : Hid (hasB x m = (!m.toList.isEmpty && x.cs.any (fun c => decide (c = m)))) := Lib.hid (by rw [emp_dec]; rfl)
  have HL : Hid (x.cs.length = 5) := Lib.hid rfl
  generalize hasB x m = r at *
  clear hb c8 c9 c10 c11 c12
  unfold Per.R.obj at *
  unfold Per.R.agg
  go_enter Tryz.func38, Tryz.ntmps38
  go_wp2_with fail
  obtain ⟨w1, hw1⟩ : ∃ w1, w.alloc (.cells #[.int .i64 x.id, .string x.mail, .bool x.ver, .string x.salt, .string x.chk, .int .i64 x.vers, .int .i64 x.miss, .int .i64 x.lock, .string x.c0, .string x.c1, .string x.c2, .string x.c3, .string x.c4] 34) = w1 := ⟨_, rfl⟩
  simp only [hw1] at *
  go_loopw [5] (fun i wr => wr = w1 ∧ ∃ k : Nat, k ≤ 5 ∧ i = .int .i64 k ∧ ∀ j, j < k → (x.cs.getD j ByteArray.empty) = m → m = ⟨#[]⟩) (fun i _ => 5 - (intOf i).toNat)
  case atStart => exact ⟨rfl, 0, Nat.zero_le _, rfl, fun j hj => (Nat.not_lt_zero j hj).elim⟩
  case round =>
    obtain ⟨hw, k, hk, rfl, hno⟩ := hrel
    subst hw
    have HO := Lib.hid hno
    clear hno hw1
    by_cases hkn : k < 5
    · have hkn' : (k : Int) < 5 := by omega
      have hk0 : (0 : Int) ≤ k := by omega
      have hcell := CS.out k (by rw [HL.out]; exact hkn)
      have hmem : Hid (x.cs.getD k ByteArray.empty ∈ x.cs) := Lib.hid (by
        rw [List.getD_eq_getElem?_getD, List.getElem?_eq_getElem (by rw [HL.out]; exact hkn)]
        exact List.getElem_mem _)
      obtain ⟨d, hd⟩ : ∃ d, x.cs.getD k ByteArray.empty = d := ⟨_, rfl⟩
      rw [hd] at hcell hmem
      have HD := Lib.hid hd
      clear hd
      by_cases he : d = m
      · have he' : (d.toList == m.toList) = true := by simpa using tl_inj.2 he
        have HE := Lib.hid he
        clear he
        cases hv : m.toList.isEmpty
        · have hre : Hid (r = true) := Lib.hid (by
            rw [HH.out, hv, Bool.not_false, Bool.true_and, List.any_eq_true]
            exact ⟨d, hmem.out, decide_eq_true HE.out⟩)
          go_wp2_with fail
          go_ret
          exact ⟨ret_bool hre.out.symm, HB.out⟩
        · have hm0 : Hid (m = ⟨#[]⟩) := Lib.hid (by
            rw [emp_dec] at hv
            exact of_decide_eq_true hv)
          go_wp2_with fail
          go_roundw
          case rel => exact ⟨by trivial, k + 1, by omega, by go_num, fun j hj _ => hm0.out⟩
          case measure => simp [intOf]; omega
      · have he' : (d.toList == m.toList) = false := by simpa using fun c => he (tl_inj.1 c)
        have HE := Lib.hid he
        clear he
        go_wp2_with fail
        go_roundw
        case rel => exact ⟨by trivial, k + 1, by omega, by go_num, fun j hj hjm => by
          rcases Nat.lt_or_ge j k with e | e
          · exact HO.out j e hjm
          · obtain rfl : j = k := by omega
            rw [HD.out] at hjm
            exact absurd hjm HE.out⟩
        case measure => simp [intOf]; omega
    · have hkn' : ¬ ((k : Int) < 5) := by omega
      have hre : Hid (r = false) := Lib.hid (by
        rw [HH.out]
        cases hv : m.toList.isEmpty
        · rw [Bool.not_false, Bool.true_and, List.any_eq_false]
          intro d hd
          obtain ⟨j, hj, rfl⟩ := List.mem_iff_getElem.1 hd
          have h5 : j < 5 := by rw [← HL.out]; exact hj
          intro hc
          have hc' := of_decide_eq_true hc
          have := HO.out j (by omega) (by rw [List.getD_eq_getElem?_getD, List.getElem?_eq_getElem hj]; exact hc')
          rw [emp_dec, this] at hv
          simp at hv
        · rfl)
      go_wp2_with fail
      go_ret
      exact ⟨ret_bool hre.out.symm, HB.out⟩
end Go.Proofs.YtkihleecjgoipaaGreatDoor
end
