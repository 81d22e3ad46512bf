/- CasesStay: the walk. -/
import Derived.Test.YtcidllckmidkoaaDoorCstP
import Derived.Test.YtcidllckmidkoaaDoorCsame
namespace Go.Proofs.YtcidllckmidkoaaDoor
open Go.RowKit Go.Maps

theorem mowns_nil (w : World) (B : Nat) : mowns w B (.slice none 0 0) [] := World.ownsRow_nil _ _ _ _
set_option maxHeartbeats 8000000 in
set_option maxRecDepth 100000 in
theorem stay_walk (a0 : Option Addr) (len cap : Nat) (W : World) (hm : ML W)
    (hsl : ∀ i, i < len → ∃ b off o, a0 = some ⟨b, off, none⟩ ∧ b < W.heap.size ∧ NumAt W b (off + i * 5) o) :
    Calls Tryd.prog 5 #[.slice a0 len cap] W fun e W' => e = .returned (.bool true) ∧ Below W.heap.size W W' := by
  have AW : Hid (Calls Tryd.prog 7 #[] W fun e w' => e = .returned (.bool true) ∧ Below W.heap.size W w') := Lib.hid ((awake_any W).mono fun e w' h => ⟨h.1, by rw [h.2]; exact Below.refl _ _⟩)
  have HM := Lib.hid hm
  clear hm
  go_enter Tryd.func5, Tryd.ntmps5
  go_wp2_with ((go_at_call 7; (with_reducible refine (AW.out).mono ?_); rintro e w1 ⟨rfl, q1⟩; have WR := Lib.hid q1; clear q1))
  clear AW
  go_loopw [4, 5, 6] (fun l nw i wr => ∃ (n : Nat) (now : Int) (L : List Cas) (a : Option Addr) (c : Nat), n ≤ len ∧ n ≤ 60 ∧ i = .int .i64 n ∧ nw = .int .i64 now ∧ 0 ≤ now ∧ now ≤ 255 * n ∧ l = .slice a L.length c ∧ LV L ∧ mowns wr W.heap.size (.slice a L.length c) L ∧ Below W.heap.size W wr) (fun _ _ i _ => 60 - (intOf i).toNat)
  case atStart => exact ⟨0, 0, [], none, 0, Nat.zero_le _, by omega, rfl, rfl, by omega, by omega, rfl, LV.nil, mowns_nil _ _, WR.out⟩
  case round =>
    obtain ⟨n, now, L, a, c, hnl, hn60, rfl, rfl, hn0, hn1, rfl, hL, ow, bel⟩ := hrel
    have hL8 := hL.inv.few
    have OW := Lib.hid ow
    have BE := Lib.hid bel
    have HL := Lib.hid hL
    clear ow hL WR
    by_cases hA : n < len
    · by_cases hB : n < 60
      · have hA' : (n : Int) < len := by omega
        have hB' : (n : Int) < 60 := by omega
        have hn0' : (0 : Int) ≤ n := by omega
        obtain ⟨b, off, nv, rfl, hb, hnum⟩ := hsl n hA
        have hat := hnum.below bel hb
        obtain ⟨kind, who, quo, ct, tk⟩ := nv
        obtain ⟨c0, c1, c2, c3, c4⟩ := hat
        simp only at c0 c1 c2 c3 c4
        obtain ⟨dt, hdt⟩ : ∃ dt, bits .and .i64 tk 255 = dt := ⟨_, rfl⟩
        have hd : dt = tk % 256 := by rw [← hdt]; exact i64_mask tk 8 (by omega)
        have hd0 : 0 ≤ dt := by omega
        have hd1 : dt ≤ 255 := by omega
        obtain ⟨now2, hnow2⟩ : ∃ now2, now + dt = now2 := ⟨_, rfl⟩
        have hwn : IntKind.i64.wrap (now + dt) = now2 := by rw [IntKind.wrap_i64] <;> omega
        have hm0 : 0 ≤ now2 := by omega
        have hm1 : now2 ≤ 255 * (n + 1) := by omega
        clear hd hnum hsl hb
        have EV0 := event_any ⟨kind, who, quo, ct, tk⟩ now2
        obtain ⟨hk, hac1, hac2, hat2, hes⟩ := evN_facts ⟨kind, who, quo, ct, tk⟩ now2
        generalize evN ⟨kind, who, quo, ct, tk⟩ now2 = ev at EV0 hk hac1 hac2 hat2 hes
        have hlv := HL.out.app (e := ev) (by rw [hat2]; omega) hes
        have X8 := hlv.inv.few
        have AP : Hid (∀ w2, Below wr.heap.size wr w2 → Calls Tryd.prog 20 #[.slice a L.length c, ev.agg] w2 fun x w' => ∃ a' c', x = .returned (.tuple #[.slice a' (appR L ev).length c', .int .i64 (appE L ev)]) ∧ mowns w' W.heap.size (.slice a' (appR L ev).length c') (appR L ev) ∧ Below w2.heap.size w2 w') := Lib.hid (fun w2 b => apply_any (OW.out.below b) (by omega) (Nat.le_trans BE.out.size b.size) HL.out.inv.rise ev hes (HM.out.below (BE.out.trans (b.mono BE.out.size))))
        have SA : Hid (∀ w2 a2 c2, Below wr.heap.size wr w2 → mowns w2 W.heap.size (.slice a2 (appR L ev).length c2) (appR L ev) → Calls Tryd.prog 24 #[.slice a2 (appR L ev).length c2, .slice a L.length c] w2 fun x w' => x = .returned (.bool (sameL (appR L ev) L)) ∧ Below w2.heap.size w2 w') := Lib.hid (fun w2 a2 c2 b o => same_any o (OW.out.below b) (by omega))
        have CH : Hid (∀ w2 a2 c2, Below wr.heap.size wr w2 → mowns w2 W.heap.size (.slice a2 (appR L ev).length c2) (appR L ev) → Calls Tryd.prog 16 #[.slice a2 (appR L ev).length c2] w2 fun x w' => x = .returned (.bool true) ∧ Below w2.heap.size w2 w') := Lib.hid (fun w2 a2 c2 b o => by
          have h := ccheck_any o (by omega) hlv.sm (HM.out.below (BE.out.trans (b.mono BE.out.size)))
          rwa [hlv.inv.chk] at h)
        have FI : Hid (∀ w2 a2 c2, mowns w2 W.heap.size (.slice a2 (appR L ev).length c2) (appR L ev) → Calls Tryd.prog 23 #[.slice a2 (appR L ev).length c2, .int .i64 ev.acc] w2 fun x w' => x = .returned (.tuple #[(findC (appR L ev) ev.acc).agg, .bool (hasA (appR L ev) ev.acc)]) ∧ Below w2.heap.size w2 w') := Lib.hid (fun w2 a2 c2 o => find_any o (by omega) hlv.inv.rise ev.acc)
        have CN := Lib.hid (fun w2 => count_any (findC (appR L ev) ev.acc) w2)
        have OV := Lib.hid (fun w2 => over_any (findC (appR L ev) ev.acc) now2 w2)
        have HS := Lib.hid (fun w2 => has_any (findC (appR L ev) ev.acc) ev.a w2)
        have SF := Lib.hid (stay_facts HL.out (e := ev) (by rw [hat2]; omega))
        have SS := Lib.hid (fun h => appR_same (L := L) (e := ev) h)
        have CNW := Lib.hid (cnt_new ev)
        have OVW : Hid (overB (newC ev) now2 = false) := Lib.hid (by have h := over_new (e := ev) (by rw [hat2]; omega); rwa [hat2] at h)
        have OPW : Hid ((newC ev).opened = now2) := Lib.hid (by rw [← hat2]; rfl)
        have HLV := Lib.hid hlv
        generalize hX : appR L ev = X at *
        obtain ⟨fc, hfc⟩ : ∃ fc, findC X ev.acc = fc := ⟨_, rfl⟩
        rw [hfc] at FI CN OV HS SF
        obtain ⟨is, his⟩ : ∃ is, hasA X ev.acc = is := ⟨_, rfl⟩
        rw [his] at FI SF
        have NX : Hid (appE L ev ≠ 0 → X = L) := Lib.hid (fun h => SS.out h)
        obtain ⟨fe, hfe⟩ : ∃ fe, appE L ev = fe := ⟨_, rfl⟩
        rw [hfe] at AP SF NX
        obtain ⟨sm, hsm⟩ : ∃ sm, sameL X L = sm := ⟨_, rfl⟩
        rw [hsm] at SA
        have SR : Hid (fe ≠ 0 → sm = true) := Lib.hid (fun h => by rw [← hsm, NX.out h]; exact sameL_refl L)
        obtain ⟨nc, hnc⟩ : ∃ nc, newC ev = nc := ⟨_, rfl⟩
        rw [hnc] at SF CNW OVW OPW
        have BXF := Lib.hid (fun w3 w2 b => box_later (w := w3) (w2 := w2) fc b)
        have EVL := Lib.hid (fun w3 w2 b => ev_later (w := w3) (w2 := w2) ev b)
        clear hX hfc his hfe hsm hnc hlv SS hat2 hac1 hac2 hes
        obtain ⟨kd, ac, pu, t, nu, ea, eb, ec⟩ := ev
        unfold Evn.agg at EV0 AP
        unfold Evn.obj at EVL
        unfold NumV.agg at EV0
        simp only at *
        have EV := Lib.hid EV0
        clear EV0
        unfold Cas.agg at FI CN OV HS
        unfold Cas.obj at BXF
        by_cases hf : fe = 0
        · obtain ⟨s17, s18, s19⟩ := SF.out hf
          subst hf
          rcases hk with rfl | rfl | rfl | rfl
          · obtain ⟨q1, q2⟩ := s17 rfl
            subst q1
            subst q2
            rw [CNW.out] at CN
            rw [OVW.out] at OV
            obtain ⟨f0, f1, f2, f3, h0, h1, h2, h3, h4⟩ := fc
            have hop : now2 = f1 := OPW.out.symm
            subst hop
            simp only at *
            clear s17 s18 s19
            go_wp2_with (first
              | (go_at_call 21; (with_reducible refine (EV.out _).mono ?_); rintro e w2 ⟨rfl, b2⟩; have F2 := Lib.hid (b2.trans (((Below.refl _ _).alloc (Nat.le_refl _) (.cells #[.int .i64 17, .int .i64 ac, .int .i64 pu, .int .i64 t, .int .i64 nu, .string ea, .string eb, .string ec] 44)).mono b2.size)); obtain ⟨k0, k1, k2, k3, k4, k5, k6, k7⟩ := EVL.out w2 _ (Below.refl _ _); clear b2)
              | (go_at_call 20; (refine (AP.out _ F2.out).mono ?_); rintro e w3 ⟨a3, c3, rfl, o3, b3⟩; have EB3 := Lib.hid b3; have O3 := Lib.hid o3; have F3 := Lib.hid (F2.out.trans (b3.mono F2.out.size)); clear o3 b3)
              | (go_at_call 24; (refine (SA.out _ _ _ F3.out O3.out).mono ?_); rintro e w4 ⟨rfl, b4⟩; have EB4 := Lib.hid (EB3.out.trans (b4.mono EB3.out.size)); have O4 := Lib.hid (O3.out.below b4); have F4 := Lib.hid (F3.out.trans (b4.mono F3.out.size)); clear b4)
              | (go_at_call 16; (refine (CH.out _ _ _ F4.out O4.out).mono ?_); rintro e w5 ⟨rfl, b5⟩; have EB5 := Lib.hid (EB4.out.trans (b5.mono EB4.out.size)); have O5 := Lib.hid (O4.out.below b5); have F5 := Lib.hid (F4.out.trans (b5.mono F4.out.size)); obtain ⟨k0, k1, k2, k3, k4, k5, k6, k7⟩ := EVL.out w2 _ EB5.out; clear b5)
              | (go_at_call 23; (refine (FI.out _ _ _ O5.out).mono ?_); rintro e w6 ⟨rfl, b6⟩; have O6 := Lib.hid ((O5.out.below b6).below ((Below.refl _ _).alloc (Nat.le_refl _) (.cells #[.int .i64 f0, .int .i64 now2, .int .i64 f2, .int .i64 f3, .string h0, .string h1, .string h2, .string h3, .string h4] 28))); have EB6 := Lib.hid ((EB5.out.trans (b6.mono EB5.out.size)).alloc (Nat.le_trans EB5.out.size b6.size) (.cells #[.int .i64 f0, .int .i64 now2, .int .i64 f2, .int .i64 f3, .string h0, .string h1, .string h2, .string h3, .string h4] 28)); have F6 := Lib.hid ((F5.out.trans (b6.mono F5.out.size)).alloc (Nat.le_trans F5.out.size b6.size) (.cells #[.int .i64 f0, .int .i64 now2, .int .i64 f2, .int .i64 f3, .string h0, .string h1, .string h2, .string h3, .string h4] 28)); obtain ⟨k0, k1, k2, k3, k4, k5, k6, k7⟩ := EVL.out w2 _ EB6.out; obtain ⟨⟨y0, y1, y2, y3, y4, y5, y6, y7, y8⟩, yf⟩ := BXF.out w6 _ (Below.refl _ _); clear b6)
              | (go_at_call 10; (refine (CN.out _).mono ?_); rintro e w7 ⟨rfl, b7⟩; have O7 := Lib.hid (O6.out.below b7); have F7 := Lib.hid (F6.out.trans (b7.mono F6.out.size)); obtain ⟨k0, k1, k2, k3, k4, k5, k6, k7⟩ := EVL.out w2 _ (EB6.out.trans (b7.mono EB6.out.size)); obtain ⟨⟨y0, y1, y2, y3, y4, y5, y6, y7, y8⟩, yf⟩ := BXF.out w6 _ b7; have EB7 := Lib.hid (EB6.out.trans (b7.mono EB6.out.size)); clear b7)
              | (go_at_call 14; (refine (OV.out _).mono ?_); rintro e w8 ⟨rfl, b8⟩; have O8 := Lib.hid (O7.out.below b8); have F8 := Lib.hid (F7.out.trans (b8.mono F7.out.size)); obtain ⟨k0, k1, k2, k3, k4, k5, k6, k7⟩ := EVL.out w2 _ (EB7.out.trans (b8.mono EB7.out.size)); clear b8))
            go_roundw
            case rel => exact ⟨n + 1, now2, X, a3, c3, by omega, by omega, by go_num, rfl, hm0, by omega, rfl, HLV.out, O8.out, BE.out.trans (F8.out.mono BE.out.size)⟩
            case measure => first | (simp only [intOf]; omega) | (simp [intOf]; omega)
          · obtain ⟨q1, q2⟩ := s18 rfl
            subst q1
            rw [q2] at HS
            clear s17 s18 s19 q2
            go_wp2_with (first
              | (go_at_call 21; (with_reducible refine (EV.out _).mono ?_); rintro e w2 ⟨rfl, b2⟩; have F2 := Lib.hid (b2.trans (((Below.refl _ _).alloc (Nat.le_refl _) (.cells #[.int .i64 18, .int .i64 ac, .int .i64 pu, .int .i64 t, .int .i64 nu, .string ea, .string eb, .string ec] 44)).mono b2.size)); obtain ⟨k0, k1, k2, k3, k4, k5, k6, k7⟩ := EVL.out w2 _ (Below.refl _ _); clear b2)
              | (go_at_call 20; (refine (AP.out _ F2.out).mono ?_); rintro e w3 ⟨a3, c3, rfl, o3, b3⟩; have EB3 := Lib.hid b3; have O3 := Lib.hid o3; have F3 := Lib.hid (F2.out.trans (b3.mono F2.out.size)); clear o3 b3)
              | (go_at_call 24; (refine (SA.out _ _ _ F3.out O3.out).mono ?_); rintro e w4 ⟨rfl, b4⟩; have EB4 := Lib.hid (EB3.out.trans (b4.mono EB3.out.size)); have O4 := Lib.hid (O3.out.below b4); have F4 := Lib.hid (F3.out.trans (b4.mono F3.out.size)); clear b4)
              | (go_at_call 16; (refine (CH.out _ _ _ F4.out O4.out).mono ?_); rintro e w5 ⟨rfl, b5⟩; have EB5 := Lib.hid (EB4.out.trans (b5.mono EB4.out.size)); have O5 := Lib.hid (O4.out.below b5); have F5 := Lib.hid (F4.out.trans (b5.mono F4.out.size)); obtain ⟨k0, k1, k2, k3, k4, k5, k6, k7⟩ := EVL.out w2 _ EB5.out; clear b5)
              | (go_at_call 23; (refine (FI.out _ _ _ O5.out).mono ?_); rintro e w6 ⟨rfl, b6⟩; have O6 := Lib.hid ((O5.out.below b6).below ((Below.refl _ _).alloc (Nat.le_refl _) (.cells #[.int .i64 fc.acc, .int .i64 fc.opened, .int .i64 fc.ripe, .int .i64 fc.quorum, .string fc.v0, .string fc.v1, .string fc.v2, .string fc.v3, .string fc.v4] 28))); have EB6 := Lib.hid ((EB5.out.trans (b6.mono EB5.out.size)).alloc (Nat.le_trans EB5.out.size b6.size) (.cells #[.int .i64 fc.acc, .int .i64 fc.opened, .int .i64 fc.ripe, .int .i64 fc.quorum, .string fc.v0, .string fc.v1, .string fc.v2, .string fc.v3, .string fc.v4] 28)); have F6 := Lib.hid ((F5.out.trans (b6.mono F5.out.size)).alloc (Nat.le_trans F5.out.size b6.size) (.cells #[.int .i64 fc.acc, .int .i64 fc.opened, .int .i64 fc.ripe, .int .i64 fc.quorum, .string fc.v0, .string fc.v1, .string fc.v2, .string fc.v3, .string fc.v4] 28)); obtain ⟨k0, k1, k2, k3, k4, k5, k6, k7⟩ := EVL.out w2 _ EB6.out; obtain ⟨⟨y0, y1, y2, y3, y4, y5, y6, y7, y8⟩, yf⟩ := BXF.out w6 _ (Below.refl _ _); clear b6)
              | (go_at_call 12; (refine (HS.out _).mono ?_); rintro e w7 ⟨rfl, b7⟩; have O7 := Lib.hid (O6.out.below b7); have F7 := Lib.hid (F6.out.trans (b7.mono F6.out.size)); obtain ⟨k0, k1, k2, k3, k4, k5, k6, k7⟩ := EVL.out w2 _ (EB6.out.trans (b7.mono EB6.out.size)); clear b7))
            go_roundw
            case rel => exact ⟨n + 1, now2, X, a3, c3, by omega, by omega, by go_num, rfl, hm0, by omega, rfl, HLV.out, O7.out, BE.out.trans (F7.out.mono BE.out.size)⟩
            case measure => first | (simp only [intOf]; omega) | (simp [intOf]; omega)
          · have q1 := s19 (.inl rfl)
            subst q1
            clear s17 s18 s19
            go_wp2_with (first
              | (go_at_call 21; (with_reducible refine (EV.out _).mono ?_); rintro e w2 ⟨rfl, b2⟩; have F2 := Lib.hid (b2.trans (((Below.refl _ _).alloc (Nat.le_refl _) (.cells #[.int .i64 19, .int .i64 ac, .int .i64 pu, .int .i64 t, .int .i64 nu, .string ea, .string eb, .string ec] 44)).mono b2.size)); obtain ⟨k0, k1, k2, k3, k4, k5, k6, k7⟩ := EVL.out w2 _ (Below.refl _ _); clear b2)
              | (go_at_call 20; (refine (AP.out _ F2.out).mono ?_); rintro e w3 ⟨a3, c3, rfl, o3, b3⟩; have EB3 := Lib.hid b3; have O3 := Lib.hid o3; have F3 := Lib.hid (F2.out.trans (b3.mono F2.out.size)); clear o3 b3)
              | (go_at_call 24; (refine (SA.out _ _ _ F3.out O3.out).mono ?_); rintro e w4 ⟨rfl, b4⟩; have EB4 := Lib.hid (EB3.out.trans (b4.mono EB3.out.size)); have O4 := Lib.hid (O3.out.below b4); have F4 := Lib.hid (F3.out.trans (b4.mono F3.out.size)); clear b4)
              | (go_at_call 16; (refine (CH.out _ _ _ F4.out O4.out).mono ?_); rintro e w5 ⟨rfl, b5⟩; have EB5 := Lib.hid (EB4.out.trans (b5.mono EB4.out.size)); have O5 := Lib.hid (O4.out.below b5); have F5 := Lib.hid (F4.out.trans (b5.mono F4.out.size)); obtain ⟨k0, k1, k2, k3, k4, k5, k6, k7⟩ := EVL.out w2 _ EB5.out; clear b5)
              | (go_at_call 23; (refine (FI.out _ _ _ O5.out).mono ?_); rintro e w6 ⟨rfl, b6⟩; have O6 := Lib.hid ((O5.out.below b6).below ((Below.refl _ _).alloc (Nat.le_refl _) (.cells #[.int .i64 fc.acc, .int .i64 fc.opened, .int .i64 fc.ripe, .int .i64 fc.quorum, .string fc.v0, .string fc.v1, .string fc.v2, .string fc.v3, .string fc.v4] 28))); have EB6 := Lib.hid ((EB5.out.trans (b6.mono EB5.out.size)).alloc (Nat.le_trans EB5.out.size b6.size) (.cells #[.int .i64 fc.acc, .int .i64 fc.opened, .int .i64 fc.ripe, .int .i64 fc.quorum, .string fc.v0, .string fc.v1, .string fc.v2, .string fc.v3, .string fc.v4] 28)); have F6 := Lib.hid ((F5.out.trans (b6.mono F5.out.size)).alloc (Nat.le_trans F5.out.size b6.size) (.cells #[.int .i64 fc.acc, .int .i64 fc.opened, .int .i64 fc.ripe, .int .i64 fc.quorum, .string fc.v0, .string fc.v1, .string fc.v2, .string fc.v3, .string fc.v4] 28)); obtain ⟨k0, k1, k2, k3, k4, k5, k6, k7⟩ := EVL.out w2 _ EB6.out; obtain ⟨⟨y0, y1, y2, y3, y4, y5, y6, y7, y8⟩, yf⟩ := BXF.out w6 _ (Below.refl _ _); clear b6))
            go_roundw
            case rel => exact ⟨n + 1, now2, X, a3, c3, by omega, by omega, by go_num, rfl, hm0, by omega, rfl, HLV.out, O6.out, BE.out.trans (F6.out.mono BE.out.size)⟩
            case measure => first | (simp only [intOf]; omega) | (simp [intOf]; omega)
          · have q1 := s19 (.inr rfl)
            subst q1
            clear s17 s18 s19
            go_wp2_with (first
              | (go_at_call 21; (with_reducible refine (EV.out _).mono ?_); rintro e w2 ⟨rfl, b2⟩; have F2 := Lib.hid (b2.trans (((Below.refl _ _).alloc (Nat.le_refl _) (.cells #[.int .i64 20, .int .i64 ac, .int .i64 pu, .int .i64 t, .int .i64 nu, .string ea, .string eb, .string ec] 44)).mono b2.size)); obtain ⟨k0, k1, k2, k3, k4, k5, k6, k7⟩ := EVL.out w2 _ (Below.refl _ _); clear b2)
              | (go_at_call 20; (refine (AP.out _ F2.out).mono ?_); rintro e w3 ⟨a3, c3, rfl, o3, b3⟩; have EB3 := Lib.hid b3; have O3 := Lib.hid o3; have F3 := Lib.hid (F2.out.trans (b3.mono F2.out.size)); clear o3 b3)
              | (go_at_call 24; (refine (SA.out _ _ _ F3.out O3.out).mono ?_); rintro e w4 ⟨rfl, b4⟩; have EB4 := Lib.hid (EB3.out.trans (b4.mono EB3.out.size)); have O4 := Lib.hid (O3.out.below b4); have F4 := Lib.hid (F3.out.trans (b4.mono F3.out.size)); clear b4)
              | (go_at_call 16; (refine (CH.out _ _ _ F4.out O4.out).mono ?_); rintro e w5 ⟨rfl, b5⟩; have EB5 := Lib.hid (EB4.out.trans (b5.mono EB4.out.size)); have O5 := Lib.hid (O4.out.below b5); have F5 := Lib.hid (F4.out.trans (b5.mono F4.out.size)); obtain ⟨k0, k1, k2, k3, k4, k5, k6, k7⟩ := EVL.out w2 _ EB5.out; clear b5)
              | (go_at_call 23; (refine (FI.out _ _ _ O5.out).mono ?_); rintro e w6 ⟨rfl, b6⟩; have O6 := Lib.hid ((O5.out.below b6).below ((Below.refl _ _).alloc (Nat.le_refl _) (.cells #[.int .i64 fc.acc, .int .i64 fc.opened, .int .i64 fc.ripe, .int .i64 fc.quorum, .string fc.v0, .string fc.v1, .string fc.v2, .string fc.v3, .string fc.v4] 28))); have EB6 := Lib.hid ((EB5.out.trans (b6.mono EB5.out.size)).alloc (Nat.le_trans EB5.out.size b6.size) (.cells #[.int .i64 fc.acc, .int .i64 fc.opened, .int .i64 fc.ripe, .int .i64 fc.quorum, .string fc.v0, .string fc.v1, .string fc.v2, .string fc.v3, .string fc.v4] 28)); have F6 := Lib.hid ((F5.out.trans (b6.mono F5.out.size)).alloc (Nat.le_trans F5.out.size b6.size) (.cells #[.int .i64 fc.acc, .int .i64 fc.opened, .int .i64 fc.ripe, .int .i64 fc.quorum, .string fc.v0, .string fc.v1, .string fc.v2, .string fc.v3, .string fc.v4] 28)); obtain ⟨k0, k1, k2, k3, k4, k5, k6, k7⟩ := EVL.out w2 _ EB6.out; obtain ⟨⟨y0, y1, y2, y3, y4, y5, y6, y7, y8⟩, yf⟩ := BXF.out w6 _ (Below.refl _ _); clear b6))
            go_roundw
            case rel => exact ⟨n + 1, now2, X, a3, c3, by omega, by omega, by go_num, rfl, hm0, by omega, rfl, HLV.out, O6.out, BE.out.trans (F6.out.mono BE.out.size)⟩
            case measure => first | (simp only [intOf]; omega) | (simp [intOf]; omega)
        · have hsm := SR.out hf
          subst hsm
          have hf1 : (fe == 0) = false := beq_eq_false_iff_ne.2 hf
          go_wp2_with (first
            | (go_at_call 21; (with_reducible refine (EV.out _).mono ?_); rintro e w2 ⟨rfl, b2⟩; have F2 := Lib.hid (b2.trans (((Below.refl _ _).alloc (Nat.le_refl _) (.cells #[.int .i64 kd, .int .i64 ac, .int .i64 pu, .int .i64 t, .int .i64 nu, .string ea, .string eb, .string ec] 44)).mono b2.size)); obtain ⟨k0, k1, k2, k3, k4, k5, k6, k7⟩ := EVL.out w2 _ (Below.refl _ _); clear b2)
            | (go_at_call 20; (refine (AP.out _ F2.out).mono ?_); rintro e w3 ⟨a3, c3, rfl, o3, b3⟩; have EB3 := Lib.hid b3; have O3 := Lib.hid o3; have F3 := Lib.hid (F2.out.trans (b3.mono F2.out.size)); clear o3 b3)
            | (go_at_call 24; (refine (SA.out _ _ _ F3.out O3.out).mono ?_); rintro e w4 ⟨rfl, b4⟩; have EB4 := Lib.hid (EB3.out.trans (b4.mono EB3.out.size)); have O4 := Lib.hid (O3.out.below b4); have F4 := Lib.hid (F3.out.trans (b4.mono F3.out.size)); clear b4)
            | (go_at_call 16; (refine (CH.out _ _ _ F4.out O4.out).mono ?_); rintro e w5 ⟨rfl, b5⟩; have EB5 := Lib.hid (EB4.out.trans (b5.mono EB4.out.size)); have O5 := Lib.hid (O4.out.below b5); have F5 := Lib.hid (F4.out.trans (b5.mono F4.out.size)); obtain ⟨k0, k1, k2, k3, k4, k5, k6, k7⟩ := EVL.out w2 _ EB5.out; clear b5)
            | (go_at_call 23; (refine (FI.out _ _ _ O5.out).mono ?_); rintro e w6 ⟨rfl, b6⟩; have O6 := Lib.hid ((O5.out.below b6).below ((Below.refl _ _).alloc (Nat.le_refl _) (.cells #[.int .i64 fc.acc, .int .i64 fc.opened, .int .i64 fc.ripe, .int .i64 fc.quorum, .string fc.v0, .string fc.v1, .string fc.v2, .string fc.v3, .string fc.v4] 28))); have EB6 := Lib.hid ((EB5.out.trans (b6.mono EB5.out.size)).alloc (Nat.le_trans EB5.out.size b6.size) (.cells #[.int .i64 fc.acc, .int .i64 fc.opened, .int .i64 fc.ripe, .int .i64 fc.quorum, .string fc.v0, .string fc.v1, .string fc.v2, .string fc.v3, .string fc.v4] 28)); have F6 := Lib.hid ((F5.out.trans (b6.mono F5.out.size)).alloc (Nat.le_trans F5.out.size b6.size) (.cells #[.int .i64 fc.acc, .int .i64 fc.opened, .int .i64 fc.ripe, .int .i64 fc.quorum, .string fc.v0, .string fc.v1, .string fc.v2, .string fc.v3, .string fc.v4] 28)); obtain ⟨k0, k1, k2, k3, k4, k5, k6, k7⟩ := EVL.out w2 _ EB6.out; obtain ⟨⟨y0, y1, y2, y3, y4, y5, y6, y7, y8⟩, yf⟩ := BXF.out w6 _ (Below.refl _ _); clear b6))
          go_roundw
          case rel => exact ⟨n + 1, now2, X, a3, c3, by omega, by omega, by go_num, rfl, hm0, by omega, rfl, HLV.out, O6.out, BE.out.trans (F6.out.mono BE.out.size)⟩
          case measure => first | (simp only [intOf]; omega) | (simp [intOf]; omega)
      · have hB' : ¬ (n : Int) < 60 := by omega
        have hA' : (n : Int) < len := by omega
        clear hsl
        go_wp2_with fail
        go_ret
        exact ⟨rfl, BE.out⟩
    · have hA' : ¬ (n : Int) < len := by omega
      clear hsl
      go_wp2_with fail
      go_ret
      exact ⟨rfl, BE.out⟩
end Go.Proofs.YtcidllckmidkoaaDoor
