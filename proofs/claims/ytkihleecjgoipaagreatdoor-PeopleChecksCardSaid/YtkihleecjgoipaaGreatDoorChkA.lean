/- The reference's people: Find, contacts, walked. -/
import Derived.Test.YtkihleecjgoipaaGreatDoorMg12
import Derived.Test.YtkihleecjgoipaaGreatDoorMg11
namespace Go.Proofs.YtkihleecjgoipaaGreatDoor
open Go.RowKit Go.Maps Go.Proofs.YtkihleecjgoipaaGreatDoor.Rw

set_option maxHeartbeats 4000000 in
set_option maxRecDepth 100000 in
theorem find16_any {B : Nat} {v : Value} {p : Ppl} {w : World} (hown : pown w B v p) (lim : few p) (id : Int) :
    Calls Tryz.prog 21 #[v, .int .i64 id] w fun e w' => e = .returned (.tuple #[(pick p.ps (fun x => decide (x.id = id))).agg, .bool (p.ps.any (fun x => decide (x.id = id)))]) ∧ Below w.heap.size w w' := by
  have hown0 := hown
  obtain ⟨a, c, a', c', rfl, o1, o2⟩ := hown
  have YB : Hid (p.ps.any (fun x => decide (x.id = id)) = decide (p.ps.findIdx (fun x => decide (x.id = id)) < p.ps.length)) := Lib.hid (any_pos p.ps _)
  have PK : Hid (pick p.ps (fun x => decide (x.id = id)) = p.ps[p.ps.findIdx (fun x => decide (x.id = id))]?.getD Per.zero) := Lib.hid rfl
  have b1 : Below w.heap.size w (w.alloc (pobj (.slice a p.ps.length c) (.slice a' p.ss.length c'))) := (Below.refl _ _).alloc (Nat.le_refl _) _
  have z1 : (w.alloc (pobj (.slice a p.ps.length c) (.slice a' p.ss.length c'))).heap.size = w.heap.size + 1 := by simp
  have b2 := b1.alloc (by simp) Per.zero.obj
  have z2 : ((w.alloc (pobj (.slice a p.ps.length c) (.slice a' p.ss.length c'))).alloc Per.zero.obj).heap.size = w.heap.size + 2 := by simp
  have AA := Lib.hid (at16_any (hown0.below b2) lim id)
  have IX : Hid (idx p.ps (fun x => decide (x.id = id)) = if p.ps.findIdx (fun x => decide (x.id = id)) < p.ps.length then (p.ps.findIdx (fun x => decide (x.id = id)) : Int) else -1) := Lib.hid rfl
  have CX : Hid (∀ w2, Below (w.heap.size + 2) ((w.alloc (pobj (.slice a p.ps.length c) (.slice a' p.ss.length c'))).alloc Per.zero.obj) w2 → (w2.cell? ⟨w.heap.size, 0, none⟩ = some (.slice a p.ps.length c) ∧ w2.cell? ⟨w.heap.size, 1, none⟩ = some (.slice a' p.ss.length c')) ∧ Per.At w2 (w.heap.size + 1) Per.zero ∧ (∀ j, w2.frozen? ⟨w.heap.size + 1, j, none⟩ = false) ∧ Per.owns w2 B (.slice a p.ps.length c) p.ps ∧ Below w.heap.size w w2) := Lib.hid (fun w2 b => by
    have h := Per.box_later (w := w.alloc (pobj (.slice a p.ps.length c) (.slice a' p.ss.length c'))) (w2 := w2) Per.zero (by rw [z2]; exact b)
    rw [z1] at h
    refine ⟨pbox_later _ _ (B := w.heap.size + 1) (Nat.lt_succ_self _) (((Below.refl _ _).alloc (by omega) Per.zero.obj).trans (b.mono (by omega))), h.1, h.2, o1.below (b2.trans (b.mono (by omega))), b2.trans (b.mono (by omega))⟩)
  obtain ⟨⟨x0, x1⟩, _, _, _, _⟩ := CX.out _ (Below.refl _ _)
  have Z2 := Lib.hid z2
  generalize p.ps.any (fun x => decide (x.id = id)) = q at *
  generalize pick p.ps (fun x => decide (x.id = id)) = y at *
  generalize idx p.ps (fun x => decide (x.id = id)) = ix at *
  generalize p.ps.findIdx (fun x => decide (x.id = id)) = fi at *
  clear hown0 o1 o2 b1 b2 z1 z2
  unfold pobj at *
  unfold Per.zero Per.R.obj at AA CX x0 x1 Z2
  simp only at AA CX x0 x1 Z2
  by_cases hi : fi < p.ps.length
  · have hix : ix = (fi : Int) := by rw [IX.out, if_pos hi]
    have hq : Hid (q = true) := Lib.hid (by rw [YB.out]; exact decide_eq_true hi)
    have hi' : (fi : Int) < p.ps.length := by omega
    have hi0 : ¬ (fi : Int) < 0 := by omega
    have hi1 : (0 : Int) ≤ fi := by omega
    subst hix
    clear YB IX
    obtain ⟨g, hg, _⟩ := (CX.out _ (Below.refl _ _)).2.2.2.1.all fi hi
    subst hg
    go_enter Tryz.func21, Tryz.ntmps21
    go_wp2_with (go_at_call 35; (refine (AA.out).mono ?_); rintro z w4 ⟨rfl, b4⟩; rw [Z2.out] at b4; have B4 := Lib.hid b4; obtain ⟨⟨k0, k1⟩, ⟨y0, y1, y2, y3, y4, y5, y6, y7, y8, y9, y10, y11, y12⟩, yf, o4, bw4⟩ := CX.out _ b4; have BW := Lib.hid bw4; obtain ⟨g', hg', _, _, m0, m1, m2, m3, m4, m5, m6, m7, m8, m9, m10, m11, m12⟩ := o4.all fi hi; obtain rfl : g = g' := (by injection hg' with hh; injection hh with hh); rw [← PK.out] at m0 m1 m2 m3 m4 m5 m6 m7 m8 m9 m10 m11 m12; clear b4 o4 bw4 hg')
    refine bodyPost_ret (v := .tuple #[y.agg, .bool true]) ?_ rfl ⟨by rw [hq.out], ?_⟩
    · simp [results, Tryz.f21, go_sem, Per.R.agg, y0, y1, y2, y3, y4, y5, y6, y7, y8, y9, y10, y11, y12]
    · exact Per.below_put (o := 0) BW.out (by simp) _ _ _ _ _ _ _ _ _ _ _ _ _
  · have hix : ix = -1 := by rw [IX.out, if_neg hi]
    have hq : Hid (q = false) := Lib.hid (by rw [YB.out]; exact decide_eq_false hi)
    have hy : Hid (y = Per.zero) := Lib.hid (by rw [PK.out, List.getElem?_eq_none (by omega)]; rfl)
    subst hix
    clear YB IX PK
    go_enter Tryz.func21, Tryz.ntmps21
    go_wp2_with (go_at_call 35; (refine (AA.out).mono ?_); rintro z w4 ⟨rfl, b4⟩; rw [Z2.out] at b4; obtain ⟨⟨k0, k1⟩, ⟨y0, y1, y2, y3, y4, y5, y6, y7, y8, y9, y10, y11, y12⟩, yf, _, bw4⟩ := CX.out _ b4; have BW := Lib.hid bw4; clear b4 bw4)
    refine bodyPost_ret (v := .tuple #[Per.zero.agg, .bool false]) ?_ rfl ⟨by rw [hy.out, hq.out], ?_⟩
    · simp [results, Tryz.f21, go_sem, Per.R.agg, Per.zero, y0, y1, y2, y3, y4, y5, y6, y7, y8, y9, y10, y11, y12]
    · exact Per.below_put (o := 0) BW.out (by simp) _ _ _ _ _ _ _ _ _ _ _ _ _
set_option maxHeartbeats 8000000 in
set_option maxRecDepth 100000 in
theorem contacts16_any (x : Per.R) (w : World) (hs : ∀ c ∈ x.cs, c.size ≤ 4000000000) : Calls Tryz.prog 48 #[x.agg] w fun e w' => e = .returned (.bool (contB x)) ∧ Below w.heap.size w w' := by
  have hb : Below w.heap.size w (w.alloc x.obj) := (Below.refl _ _).alloc (Nat.le_refl _) _
  obtain ⟨c0, c1, c2, c3, c4, c5, c6, c7, c8, c9, c10, c11, c12⟩ := Per.box w x
  have HB := Lib.hid hb
  have CS : Hid (∀ j, j < 5 → (w.alloc x.obj).cell? ⟨w.heap.size, 8 + j, none⟩ = some (.string (x.cs.getD j ⟨#[]⟩))) := Lib.hid (fun j hj => CsAt.of (x := x) (g := w.heap.size) (o := 8) c8 c9 c10 c11 c12 j hj)
  have ON : Hid (∀ j, j < 5 → ∀ w2, Calls Tryz.prog 36 #[.string (x.cs.getD j ⟨#[]⟩)] w2 fun r w' => r = .returned (.bool (onesB (x.cs.getD j ⟨#[]⟩))) ∧ w' = w2) := Lib.hid (fun j hj w2 => ones16_any _ (by rw [getD_cs (show j < x.cs.length from hj)]; exact hs _ (List.getElem_mem _)) w2)
  have CI := Lib.hid (contB_iff16 x)
  have CD : Hid (∀ i, C16 x i ↔ (x.cs.getD i ⟨#[]⟩ ≠ ⟨#[]⟩ → onesB (x.cs.getD i ⟨#[]⟩) = true ∧ x.cs.getD i ⟨#[]⟩ ≠ x.mail ∧ (0 < i → x.cs.getD (i - 1) ⟨#[]⟩ ≠ ⟨#[]⟩) ∧ ∀ k, k < i → x.cs.getD k ⟨#[]⟩ ≠ x.cs.getD i ⟨#[]⟩)) := Lib.hid (fun i => Iff.rfl)
  generalize contB x = r at *
  generalize C16 x = C at *
  have FO : Hid (∀ i, i < 5 → ¬ C i → r = false) := Lib.hid (fun i hi hn => by
    cases r
    · rfl
    · exact absurd (CI.out.1 rfl i hi) hn)
  clear hb hs c8 c9 c10 c11 c12
  obtain ⟨cs, hcs⟩ : ∃ cs, x.cs = cs := ⟨_, rfl⟩
  rw [hcs] at CS ON CD
  clear hcs
  unfold Per.R.obj at *
  unfold Per.R.agg
  go_enter Tryz.func48, Tryz.ntmps48
  go_wp2_with fail
  obtain ⟨w1, hw1⟩ : ∃ w1, w.alloc (.cells #[.int .i64 x.id, .string x.mail, .bool x.ver, .string x.salt, .string x.chk, .int .i64 x.vers, .int .i64 x.miss, .int .i64 x.lock, .string x.c0, .string x.c1, .string x.c2, .string x.c3, .string x.c4] 34) = w1 := ⟨_, rfl⟩
  simp only [hw1] at *
  go_loopw [3] (fun i wr => wr = w1 ∧ ∃ k : Nat, k ≤ 5 ∧ i = .int .i64 k ∧ ∀ j, j < k → C j) (fun i _ => 5 - (intOf i).toNat)
  case atStart => exact ⟨rfl, 0, Nat.zero_le _, rfl, fun j hj => (Nat.not_lt_zero j hj).elim⟩
  case round =>
    obtain ⟨hw, i, hi, rfl, hno⟩ := hrel
    subst hw
    have HO := Lib.hid hno
    clear hno hw1
    by_cases hi5 : i < 5
    · have hi5' : (i : Int) < 5 := by omega
      have hi0 : (0 : Int) ≤ i := by omega
      have hcell := CS.out i hi5
      have ON2 := Lib.hid (ON.out i hi5)
      have CD2 := Lib.hid (CD.out i)
      obtain ⟨d, hd⟩ : ∃ d, cs.getD i ⟨#[]⟩ = d := ⟨_, rfl⟩
      rw [hd] at hcell ON2 CD2
      have HD := Lib.hid hd
      clear hd
      cases hv : d.toList.isEmpty
      · have hne : Hid (d ≠ ⟨#[]⟩) := Lib.hid (fun e => by rw [emp_dec, e] at hv; simp at hv)
        cases ho : onesB d
        · have hre : Hid (r = false) := Lib.hid (FO.out i hi5 (fun q => by have := (CD2.out.1 q hne.out).1; rw [ho] at this; cases this))
          rw [ho] at ON2
          go_wp2_with (go_at_call 36; (refine (ON2.out _).mono ?_); rintro z w2 ⟨rfl, rfl⟩)
          go_ret
          exact ⟨ret_bool hre.out.symm, HB.out⟩
        · rw [ho] at ON2
          by_cases hem : d = x.mail
          · have hem' : (d.toList == x.mail.toList) = true := by simpa using tl_inj.2 hem
            have hre : Hid (r = false) := Lib.hid (FO.out i hi5 (fun q => (CD2.out.1 q hne.out).2.1 hem))
            clear hem
            go_wp2_with (go_at_call 36; (refine (ON2.out _).mono ?_); rintro z w2 ⟨rfl, rfl⟩)
            go_ret
            exact ⟨ret_bool hre.out.symm, HB.out⟩
          · have hem' : (d.toList == x.mail.toList) = false := by simpa using fun c => hem (tl_inj.1 c)
            have HEM := Lib.hid hem
            clear hem
            by_cases h0 : i = 0
            · have h0' : ¬ (0 : Int) < i := by omega
              have hok : Hid (C i) := Lib.hid (CD2.out.2 (fun _ => ⟨ho, HEM.out, fun q => by omega, fun k hk => by omega⟩))
              have H0 := Lib.hid h0
              clear h0
              go_wp2_with (go_at_call 36; (refine (ON2.out _).mono ?_); rintro z w2 ⟨rfl, rfl⟩)
              go_loopw [6] (fun i6 wq => wq = w2 ∧ ∃ k : Nat, k ≤ i ∧ i6 = .int .i64 k) (fun i6 _ => i - (intOf i6).toNat)
              case atStart => exact ⟨rfl, 0, Nat.zero_le _, rfl⟩
              case round =>
                obtain ⟨hw, k, hk, rfl⟩ := hrel
                subst hw
                have hki : ¬ (k : Int) < i := by have := H0.out; omega
                go_wp2_with fail
                go_roundw
                case rel => exact ⟨by trivial, i + 1, by omega, by go_num, fun j hj => by
                  rcases Nat.lt_or_ge j i with e | e
                  · exact HO.out j e
                  · obtain rfl : j = i := by omega
                    exact hok.out⟩
                case measure => simp [intOf]; omega
            · have h0' : (0 : Int) < i := by omega
              have hpc := CS.out (i - 1) (by omega)
              have hw2 : IntKind.i64.wrap ((i : Int) - 1) = (i : Int) - 1 := by rw [IntKind.wrap_i64] <;> omega
              have hm1 : (1 : Int) ≤ i := by omega
              have hm2 : (i : Int) - 1 < 5 := by omega
              have hm3 : (0 : Int) ≤ (i : Int) - 1 := by omega
              have H0 := Lib.hid h0
              clear h0
              obtain ⟨f, hf⟩ : ∃ f, cs.getD (i - 1) ⟨#[]⟩ = f := ⟨_, rfl⟩
              rw [hf] at hpc CD2
              cases hvf : f.toList.isEmpty
              · have hfn : Hid (f ≠ ⟨#[]⟩) := Lib.hid (fun e => by rw [emp_dec, e] at hvf; simp at hvf)
                clear hf
                go_wp2_with (go_at_call 36; (refine (ON2.out _).mono ?_); rintro z w2 ⟨rfl, rfl⟩)
                go_loopw [6] (fun i6 wq => wq = w2 ∧ ∃ k : Nat, k ≤ i ∧ i6 = .int .i64 k ∧ ∀ j, j < k → cs.getD j ⟨#[]⟩ ≠ d) (fun i6 _ => i - (intOf i6).toNat)
                case atStart => exact ⟨rfl, 0, Nat.zero_le _, rfl, fun j hj => (Nat.not_lt_zero j hj).elim⟩
                case round =>
                  obtain ⟨hw, k, hk, rfl, hnk⟩ := hrel
                  subst hw
                  have HK := Lib.hid hnk
                  clear hnk
                  by_cases hki : k < i
                  · have hki' : (k : Int) < i := by omega
                    have hk0 : (0 : Int) ≤ k := by omega
                    have hk5 : (k : Int) < 5 := by omega
                    have hkc := CS.out k (by omega)
                    obtain ⟨e, he⟩ : ∃ e, cs.getD k ⟨#[]⟩ = e := ⟨_, rfl⟩
                    rw [he] at hkc
                    have HE := Lib.hid he
                    clear he
                    by_cases hed : e = d
                    · have hed' : (e.toList == d.toList) = true := by simpa using tl_inj.2 hed
                      have hre : Hid (r = false) := Lib.hid (FO.out i hi5 (fun q => (CD2.out.1 q hne.out).2.2.2 k hki (HE.out.trans hed)))
                      clear hed
                      go_wp2_with fail
                      go_ret
                      exact ⟨ret_bool hre.out.symm, HB.out⟩
                    · have hed' : (e.toList == d.toList) = false := by simpa using fun c => hed (tl_inj.1 c)
                      have HED := Lib.hid hed
                      clear hed
                      go_wp2_with fail
                      go_roundw
                      case rel => exact ⟨by trivial, k + 1, by omega, by go_num, fun j hj => by
                        rcases Nat.lt_or_ge j k with q | q
                        · exact HK.out j q
                        · obtain rfl : j = k := by omega
                          rw [HE.out]
                          exact HED.out⟩
                      case measure => simp [intOf]; omega
                  · have hki' : ¬ (k : Int) < i := by omega
                    have hok : Hid (C i) := Lib.hid (CD2.out.2 (fun _ => ⟨ho, HEM.out, fun _ => hfn.out, fun j hj => HK.out j (by omega)⟩))
                    go_wp2_with fail
                    go_roundw
                    case rel => exact ⟨by trivial, i + 1, by omega, by go_num, fun j hj => by
                      rcases Nat.lt_or_ge j i with e | e
                      · exact HO.out j e
                      · obtain rfl : j = i := by omega
                        exact hok.out⟩
                    case measure => simp [intOf]; omega
              · have hre : Hid (r = false) := Lib.hid (FO.out i hi5 (fun q => (CD2.out.1 q hne.out).2.2.1 (by omega) (by rw [emp_dec] at hvf; exact of_decide_eq_true hvf)))
                clear hf
                go_wp2_with (go_at_call 36; (refine (ON2.out _).mono ?_); rintro z w2 ⟨rfl, rfl⟩)
                go_ret
                exact ⟨ret_bool hre.out.symm, HB.out⟩
      · have hok : Hid (C i) := Lib.hid (CD2.out.2 (fun q => absurd (by rw [emp_dec] at hv; exact of_decide_eq_true hv) q))
        go_wp2_with fail
        go_roundw
        case rel => exact ⟨by trivial, i + 1, by omega, by go_num, fun j hj => by
          rcases Nat.lt_or_ge j i with e | e
          · exact HO.out j e
          · obtain rfl : j = i := by omega
            exact hok.out⟩
        case measure => simp [intOf]; omega
    · have hi5' : ¬ (i : Int) < 5 := by omega
      have hre : Hid (r = true) := Lib.hid (CI.out.2 (fun j hj => HO.out j (by omega)))
      go_wp2_with fail
      go_ret
      exact ⟨ret_bool hre.out.symm, HB.out⟩
end Go.Proofs.YtkihleecjgoipaaGreatDoor
