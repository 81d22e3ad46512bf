/- cases.Apply. -/
import Derived.Test.YtcidllckmidkoaaDoorCopn
namespace Go.Proofs.YtcidllckmidkoaaDoor
open Go.RowKit Go.Maps

theorem cdel_own {B n cap g p : Nat} {L : List Cas} {w : World} (h : mowns w B (.slice (some ⟨g, 0, none⟩) n cap) L) (hn : L.length = n) (hp : p < n) :
    Calls Tryd.prog 33 #[.slice (some ⟨g, 0, none⟩) n cap, .int .i64 p, .int .i64 ((p : Int) + 1)] w fun e w' => ∃ a' c', e = .returned (.slice a' (L.take p ++ L.drop (p + 1)).length c') ∧ mowns w' B (.slice a' (L.take p ++ L.drop (p + 1)).length c') (L.take p ++ L.drop (p + 1)) ∧ w.grownBy w' (some g) := by
  subst hn
  unfold mowns at h
  have hl : (L.take p ++ L.drop (p + 1)).length = p + (L.length - (p + 1)) := by
    rw [List.length_append, List.length_take, List.length_drop]; omega
  refine (mdelete_any B L.length p (p + 1) cap g (mflat L) w h (by omega) (by omega) (mflat_one L)).mono ?_
  rintro e w' ⟨rfl, h1, h2⟩
  refine ⟨some ⟨g, 0, none⟩, cap, by rw [hl], ?_, h2⟩
  unfold mowns
  rw [hl, mflat_append, ← mflat_take, ← mflat_drop]
  exact h1
set_option maxHeartbeats 8000000 in
set_option maxRecDepth 100000 in
theorem apply_any {Bs c : Nat} {a : Option Addr} {L : List Cas} {w : World} (hown : mowns w Bs (.slice a L.length c) L) (lim : L.length ≤ 1000000) (hBs : Bs ≤ w.heap.size) (hr : Rise L) (e : Evn) (hs : e.a.size ≤ 4000000000) (hm : ML w) :
    Calls Tryd.prog 20 #[.slice a L.length c, e.agg] w fun x w' => ∃ a' c', x = .returned (.tuple #[.slice a' (appR L e).length c', .int .i64 (appE L e)]) ∧ mowns w' Bs (.slice a' (appR L e).length c') (appR L e) ∧ Below w.heap.size w w' := by
  have hb : Below w.heap.size w (w.alloc e.obj) := (Below.refl _ _).alloc (Nat.le_refl _) _
  have EV := Lib.hid (fun w2 b => ev_later (w := w) (w2 := w2) e b)
  have AT : Hid (Calls Tryd.prog 30 #[.slice a L.length c, .int .i64 e.acc] (w.alloc e.obj) fun x w' => x = .returned (.tuple #[.int .i64 (plc L e.acc : Nat), .bool (hasA L e.acc)]) ∧ Below (w.alloc e.obj).heap.size (w.alloc e.obj) w') := Lib.hid (at_any (hown.below hb) lim hr e.acc)
  have OP : Hid (∀ w2, Below w.heap.size w w2 → Calls Tryd.prog 31 #[.slice a L.length c, e.agg] w2 fun x w' => ∃ a' c', x = .returned (.tuple #[.slice a' (opnR L e).length c', .int .i64 (opnE L e)]) ∧ mowns w' Bs (.slice a' (opnR L e).length c') (opnR L e) ∧ Below w.heap.size w w') := Lib.hid (fun w2 b =>
    (open_any (hown.below b) lim (Nat.le_trans hBs b.size) hr e).mono fun x w' ⟨a', c', h1, h2, h3⟩ => ⟨a', c', h1, h2, b.trans (h3.mono b.size)⟩)
  have VO : Hid (hasA L e.acc = true → ∀ w2, Below w.heap.size w w2 → Calls Tryd.prog 32 #[.slice a L.length c, .int .i64 (plc L e.acc : Nat), .string e.a] w2 fun x w' => ∃ a' c', x = .returned (.tuple #[.slice a' L.length c', .int .i64 (vouE (L[plc L e.acc]?.getD noCas) e.a)]) ∧ mowns w' Bs (.slice a' L.length c') (vouR L (plc L e.acc) e.a) ∧ Below w.heap.size w w') := Lib.hid (fun hh w2 b =>
    (vouch_any (hown.below b) lim (Nat.le_trans hBs b.size) (plc L e.acc) (plc_lt hh).1 e.a hs (hm.below b)).mono fun x w' ⟨a', c', h1, h2, h3⟩ => ⟨a', c', h1, h2, b.trans (h3.mono b.size)⟩)
  have CL : Hid (∀ w2, Below w.heap.size w w2 → Calls Tryd.prog 34 #[.slice a L.length c] w2 fun x w' => ∃ a' c', x = .returned (.slice a' L.length c') ∧ mowns w' w.heap.size (.slice a' L.length c') L ∧ Below w.heap.size w w') := Lib.hid (fun w2 b =>
    (mclone_any (hown.below b) lim).mono fun x w' ⟨a', c', h1, h2, h3⟩ => ⟨a', c', h1, h2.mono b.size, b.trans (h3.mono b.size)⟩)
  have DE : Hid (hasA L e.acc = true → ∀ w2 g2 c2, mowns w2 w.heap.size (.slice (some ⟨g2, 0, none⟩) L.length c2) L → Calls Tryd.prog 33 #[.slice (some ⟨g2, 0, none⟩) L.length c2, .int .i64 (plc L e.acc : Nat), .int .i64 ((plc L e.acc : Nat) + 1)] w2 fun x w' => ∃ a' c', x = .returned (.slice a' (L.take (plc L e.acc) ++ L.drop (plc L e.acc + 1)).length c') ∧ mowns w' w.heap.size (.slice a' (L.take (plc L e.acc) ++ L.drop (plc L e.acc + 1)).length c') (L.take (plc L e.acc) ++ L.drop (plc L e.acc + 1)) ∧ w2.grownBy w' (some g2)) := Lib.hid (fun hh w2 g2 c2 o => cdel_own o rfl (plc_lt hh).1)
  have PL : Hid (hasA L e.acc = true → plc L e.acc < L.length) := Lib.hid (fun hh => (plc_lt hh).1)
  have OW := Lib.hid hown
  have HB := Lib.hid hb
  have AE : Hid (appE L e = if e.kind = 17 then opnE L e else if known e = false then 1 else if hasA L e.acc = false then 12 else if e.kind = 18 then vouE (L[plc L e.acc]?.getD noCas) e.a else 0) := Lib.hid rfl
  have AR : Hid (appR L e = if e.kind = 17 then opnR L e else if known e = false then L else if hasA L e.acc = false then L else if e.kind = 18 then vouR L (plc L e.acc) e.a else L.take (plc L e.acc) ++ L.drop (plc L e.acc + 1)) := Lib.hid rfl
  have KN : Hid (known e = (decide (e.kind = 18) || decide (e.kind = 19) || decide (e.kind = 20))) := Lib.hid rfl
  have VL : Hid ((vouR L (plc L e.acc) e.a).length = L.length) := Lib.hid (by unfold vouR; split <;> simp)
  generalize L.take (plc L e.acc) ++ L.drop (plc L e.acc + 1) = dr at *
  generalize vouR L (plc L e.acc) e.a = vr at *
  generalize vouE (L[plc L e.acc]?.getD noCas) e.a = ve at *
  generalize plc L e.acc = pp at *
  generalize hasA L e.acc = hh at *
  generalize opnR L e = lr at *
  generalize opnE L e = le at *
  generalize appR L e = ar at *
  generalize appE L e = ae at *
  generalize known e = kn at *
  have EV0 := EV.out _ (Below.refl _ _)
  obtain ⟨y0, y1, y2, y3, y4, y5, y6, y7⟩ := EV0
  unfold Evn.obj at *
  unfold Evn.agg at OP ⊢
  clear hown hb hs hm y0 y1 y2 y3 y4 y5 y6 y7
  obtain ⟨kd, ac, pu, t, nu, ea, eb, ec⟩ := e
  simp only at *
  have EV0 := EV.out _ (Below.refl _ _)
  obtain ⟨y0, y1, y2, y3, y4, y5, y6, y7⟩ := EV0
  by_cases x17 : kd = 17
  · have RE : Hid (ae = le) := Lib.hid (by rw [AE.out, if_pos x17])
    have RR : Hid (ar = lr) := Lib.hid (by rw [AR.out, if_pos x17])
    subst x17
    clear AE AR KN VL
    go_enter Tryd.func20, Tryd.ntmps20
    go_wp2_with (first
      | (go_at_call 30; (with_reducible refine (AT.out).mono ?_); rintro x w2 ⟨rfl, b2⟩; have B2 := Lib.hid (HB.out.trans (b2.mono HB.out.size)); obtain ⟨k0, k1, k2, k3, k4, k5, k6, k7⟩ := EV.out _ b2; clear b2)
      | (go_at_call 31; (refine (OP.out _ B2.out).mono ?_); rintro x w3 ⟨a3, c3, rfl, o3, b3⟩; have O3 := Lib.hid o3; clear o3))
    go_ret2
    exact ⟨a3, c3, by rw [RE.out, RR.out]; rfl, by rw [RR.out]; exact O3.out, b3⟩
  · cases kn
    · obtain ⟨z18, z19, z20⟩ : kd ≠ 18 ∧ kd ≠ 19 ∧ kd ≠ 20 := by
        have h := KN.out
        simp at h
        exact ⟨h.1.1, h.1.2, h.2⟩
      have q17 : (kd == 17) = false := beq_eq_false_iff_ne.2 x17
      have q18 : (kd == 18) = false := beq_eq_false_iff_ne.2 z18
      have q19 : (kd == 19) = false := beq_eq_false_iff_ne.2 z19
      have q20 : (kd == 20) = false := beq_eq_false_iff_ne.2 z20
      have RE : Hid (ae = 1) := Lib.hid (by rw [AE.out, if_neg x17, if_pos rfl])
      have RR : Hid (ar = L) := Lib.hid (by rw [AR.out, if_neg x17, if_pos rfl])
      clear AE AR
      go_enter Tryd.func20, Tryd.ntmps20
      go_wp2_with (first
        | (go_at_call 30; (with_reducible refine (AT.out).mono ?_); rintro x w2 ⟨rfl, b2⟩; have B2 := Lib.hid (HB.out.trans (b2.mono HB.out.size)); obtain ⟨k0, k1, k2, k3, k4, k5, k6, k7⟩ := EV.out _ b2; clear b2))
      go_ret2
      exact ⟨a, c, by rw [RE.out, RR.out]; rfl, by rw [RR.out]; exact OW.out.below B2.out, B2.out⟩
    · have hk : kd = 18 ∨ kd = 19 ∨ kd = 20 := by
        have h := KN.out
        simp at h
        omega
      cases hh
      · rcases hk with rfl | rfl | rfl
        · skip
          have RE : Hid (ae = 12) := Lib.hid (by rw [AE.out, if_neg x17, if_neg (by decide), if_pos rfl])
          have RR : Hid (ar = L) := Lib.hid (by rw [AR.out, if_neg x17, if_neg (by decide), if_pos rfl])
          clear AE AR
          go_enter Tryd.func20, Tryd.ntmps20
          go_wp2_with (first
            | (go_at_call 30; (with_reducible refine (AT.out).mono ?_); rintro x w2 ⟨rfl, b2⟩; have B2 := Lib.hid (HB.out.trans (b2.mono HB.out.size)); obtain ⟨k0, k1, k2, k3, k4, k5, k6, k7⟩ := EV.out _ b2; clear b2))
          go_ret2
          exact ⟨a, c, by rw [RE.out, RR.out]; rfl, by rw [RR.out]; exact OW.out.below B2.out, B2.out⟩
        · skip
          have RE : Hid (ae = 12) := Lib.hid (by rw [AE.out, if_neg x17, if_neg (by decide), if_pos rfl])
          have RR : Hid (ar = L) := Lib.hid (by rw [AR.out, if_neg x17, if_neg (by decide), if_pos rfl])
          clear AE AR
          go_enter Tryd.func20, Tryd.ntmps20
          go_wp2_with (first
            | (go_at_call 30; (with_reducible refine (AT.out).mono ?_); rintro x w2 ⟨rfl, b2⟩; have B2 := Lib.hid (HB.out.trans (b2.mono HB.out.size)); obtain ⟨k0, k1, k2, k3, k4, k5, k6, k7⟩ := EV.out _ b2; clear b2))
          go_ret2
          exact ⟨a, c, by rw [RE.out, RR.out]; rfl, by rw [RR.out]; exact OW.out.below B2.out, B2.out⟩
        · skip
          have RE : Hid (ae = 12) := Lib.hid (by rw [AE.out, if_neg x17, if_neg (by decide), if_pos rfl])
          have RR : Hid (ar = L) := Lib.hid (by rw [AR.out, if_neg x17, if_neg (by decide), if_pos rfl])
          clear AE AR
          go_enter Tryd.func20, Tryd.ntmps20
          go_wp2_with (first
            | (go_at_call 30; (with_reducible refine (AT.out).mono ?_); rintro x w2 ⟨rfl, b2⟩; have B2 := Lib.hid (HB.out.trans (b2.mono HB.out.size)); obtain ⟨k0, k1, k2, k3, k4, k5, k6, k7⟩ := EV.out _ b2; clear b2))
          go_ret2
          exact ⟨a, c, by rw [RE.out, RR.out]; rfl, by rw [RR.out]; exact OW.out.below B2.out, B2.out⟩
      · have hp := PL.out rfl
        have VO1 := Lib.hid (VO.out rfl)
        have DE1 := Lib.hid (DE.out rfl)
        rcases hk with rfl | rfl | rfl
        · have RE : Hid (ae = ve) := Lib.hid (by rw [AE.out, if_neg x17, if_neg (by decide), if_neg (by decide), if_pos rfl])
          have RR : Hid (ar = vr) := Lib.hid (by rw [AR.out, if_neg x17, if_neg (by decide), if_neg (by decide), if_pos rfl])
          clear AE AR
          go_enter Tryd.func20, Tryd.ntmps20
          go_wp2_with (first
            | (go_at_call 30; (with_reducible refine (AT.out).mono ?_); rintro x w2 ⟨rfl, b2⟩; have B2 := Lib.hid (HB.out.trans (b2.mono HB.out.size)); obtain ⟨k0, k1, k2, k3, k4, k5, k6, k7⟩ := EV.out _ b2; clear b2)
            | (go_at_call 32; (refine (VO1.out _ B2.out).mono ?_); rintro x w3 ⟨a3, c3, rfl, o3, b3⟩; have O3 := Lib.hid o3; clear o3))
          go_ret2
          exact ⟨a3, c3, by rw [RE.out, RR.out, VL.out]; rfl, by rw [RR.out, VL.out]; exact O3.out, b3⟩
        · have RE : Hid (ae = 0) := Lib.hid (by rw [AE.out, if_neg x17, if_neg (by decide), if_neg (by decide), if_neg (by decide)])
          have RR : Hid (ar = dr) := Lib.hid (by rw [AR.out, if_neg x17, if_neg (by decide), if_neg (by decide), if_neg (by decide)])
          have hpl : (pp : Int) < L.length := by omega
          have hwp : IntKind.i64.wrap ((pp : Int) + 1) = (pp : Int) + 1 := by rw [IntKind.wrap_i64] <;> omega
          clear AE AR
          go_enter Tryd.func20, Tryd.ntmps20
          go_wp2_with (first
            | (go_at_call 30; (with_reducible refine (AT.out).mono ?_); rintro x w2 ⟨rfl, b2⟩; have B2 := Lib.hid (HB.out.trans (b2.mono HB.out.size)); obtain ⟨k0, k1, k2, k3, k4, k5, k6, k7⟩ := EV.out _ b2; clear b2)
            | (go_at_call 34; (refine (CL.out _ B2.out).mono ?_); rintro x w3 ⟨a3, c3, rfl, o3, b3⟩; obtain ⟨g3, rfl, _, _, _⟩ := o3.nine pp hp; have O3 := Lib.hid o3; have B3 := Lib.hid b3; clear o3 b3)
            | (go_at_call 33; (refine (DE1.out _ _ _ O3.out).mono ?_); rintro x w4 ⟨a4, c4, rfl, o4, gr4⟩; have O4 := Lib.hid o4; have G4 := Lib.hid gr4; clear o4 gr4))
          go_ret2
          exact ⟨a4, c4, by rw [RE.out, RR.out]; rfl, by rw [RR.out]; exact O4.out.mono hBs, B3.out.grown G4.out B3.out.size (fun k hk => by cases hk; exact (World.ownsRow.lt O3.out _ rfl).1)⟩
        · have RE : Hid (ae = 0) := Lib.hid (by rw [AE.out, if_neg x17, if_neg (by decide), if_neg (by decide), if_neg (by decide)])
          have RR : Hid (ar = dr) := Lib.hid (by rw [AR.out, if_neg x17, if_neg (by decide), if_neg (by decide), if_neg (by decide)])
          have hpl : (pp : Int) < L.length := by omega
          have hwp : IntKind.i64.wrap ((pp : Int) + 1) = (pp : Int) + 1 := by rw [IntKind.wrap_i64] <;> omega
          clear AE AR
          go_enter Tryd.func20, Tryd.ntmps20
          go_wp2_with (first
            | (go_at_call 30; (with_reducible refine (AT.out).mono ?_); rintro x w2 ⟨rfl, b2⟩; have B2 := Lib.hid (HB.out.trans (b2.mono HB.out.size)); obtain ⟨k0, k1, k2, k3, k4, k5, k6, k7⟩ := EV.out _ b2; clear b2)
            | (go_at_call 34; (refine (CL.out _ B2.out).mono ?_); rintro x w3 ⟨a3, c3, rfl, o3, b3⟩; obtain ⟨g3, rfl, _, _, _⟩ := o3.nine pp hp; have O3 := Lib.hid o3; have B3 := Lib.hid b3; clear o3 b3)
            | (go_at_call 33; (refine (DE1.out _ _ _ O3.out).mono ?_); rintro x w4 ⟨a4, c4, rfl, o4, gr4⟩; have O4 := Lib.hid o4; have G4 := Lib.hid gr4; clear o4 gr4))
          go_ret2
          exact ⟨a4, c4, by rw [RE.out, RR.out]; rfl, by rw [RR.out]; exact O4.out.mono hBs, B3.out.grown G4.out B3.out.size (fun k hk => by cases hk; exact (World.ownsRow.lt O3.out _ rfl).1)⟩
end Go.Proofs.YtcidllckmidkoaaDoor
