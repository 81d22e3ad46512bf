/- CasesLater: the walk. -/
import Derived.Test.YtcidllckmidkoaaDoorClaP

import Derived.Deep.DeepCutAuto
import Derived.Deep.CutBlock
namespace Go.Proofs.YtcidllckmidkoaaDoor
open Go.RowKit Go.Maps

def QB (W wx : World) (q0 q1 kind who quo ct tk : Int) : Prop := Below ((W.alloc (.cells #[.int .i64 q0, .int .i64 q1] 37)).alloc (.cells #[.int .i64 kind, .int .i64 who, .int .i64 quo, .int .i64 ct, .int .i64 tk] 39)).heap.size ((W.alloc (.cells #[.int .i64 q0, .int .i64 q1] 37)).alloc (.cells #[.int .i64 kind, .int .i64 who, .int .i64 quo, .int .i64 ct, .int .i64 tk] 39)) wx
theorem QB.cells {W wx : World} {q0 q1 kind who quo ct tk : Int} (h : QB W wx q0 q1 kind who quo ct tk) : (wx.cell? ⟨W.heap.size, 0, none⟩ = some (.int .i64 q0) ∧ wx.cell? ⟨W.heap.size, 1, none⟩ = some (.int .i64 q1)) ∧ (wx.cell? ⟨W.heap.size + 1, 0, none⟩ = some (.int .i64 kind) ∧ wx.cell? ⟨W.heap.size + 1, 1, none⟩ = some (.int .i64 who) ∧ wx.cell? ⟨W.heap.size + 1, 2, none⟩ = some (.int .i64 quo) ∧ wx.cell? ⟨W.heap.size + 1, 3, none⟩ = some (.int .i64 ct) ∧ wx.cell? ⟨W.heap.size + 1, 4, none⟩ = some (.int .i64 tk)) := by
  have l0 : W.heap.size < ((W.alloc (.cells #[.int .i64 q0, .int .i64 q1] 37)).alloc (.cells #[.int .i64 kind, .int .i64 who, .int .i64 quo, .int .i64 ct, .int .i64 tk] 39)).heap.size := by simp; omega
  have l1 : W.heap.size + 1 < ((W.alloc (.cells #[.int .i64 q0, .int .i64 q1] 37)).alloc (.cells #[.int .i64 kind, .int .i64 who, .int .i64 quo, .int .i64 ct, .int .i64 tk] 39)).heap.size := by simp
  have e0 : ((W.alloc (.cells #[.int .i64 q0, .int .i64 q1] 37)).alloc (.cells #[.int .i64 kind, .int .i64 who, .int .i64 quo, .int .i64 ct, .int .i64 tk] 39)).heap[W.heap.size]? = some (.cells #[.int .i64 q0, .int .i64 q1] 37) := by
    rw [Lib.alloc_old _ _ _ (by simp)]; exact heap_new W _
  have e1 : ((W.alloc (.cells #[.int .i64 q0, .int .i64 q1] 37)).alloc (.cells #[.int .i64 kind, .int .i64 who, .int .i64 quo, .int .i64 ct, .int .i64 tk] 39)).heap[W.heap.size + 1]? = some (.cells #[.int .i64 kind, .int .i64 who, .int .i64 quo, .int .i64 ct, .int .i64 tk] 39) := by
    have h := heap_new (W.alloc (.cells #[.int .i64 q0, .int .i64 q1] 37)) (.cells #[.int .i64 kind, .int .i64 who, .int .i64 quo, .int .i64 ct, .int .i64 tk] 39)
    rwa [World.size_alloc] at h
  have f0 := (h.block _ l0).trans e0
  have f1 := (h.block _ l1).trans e1
  refine ⟨⟨?_, ?_⟩, ?_, ?_, ?_, ?_, ?_⟩
  all_goals first | (rw [Lib.cell_of_heap f0]; rfl) | (rw [Lib.cell_of_heap f1]; rfl)
theorem QB.base {W wx : World} {q0 q1 kind who quo ct tk : Int} (h : QB W wx q0 q1 kind who quo ct tk) : Below W.heap.size W wx :=
  (below_alloc (below_alloc (Below.refl _ W) _) _).trans (h.mono (by simp; omega))
set_option maxHeartbeats 8000000 in
set_option maxRecDepth 100000 in
theorem later_walk (a0 : Option Addr) (len cap : Nat) (q0 q1 : Int) (one : NumV) (W : World) (hm : ML W)
    (hsl : ∀ i, i < len → ∃ b off o, a0 = some ⟨b, off, none⟩ ∧ b < W.heap.size ∧ NumAt W b (off + i * 5) o) :
    Calls Tryd.prog 4 #[.slice a0 len cap, .agg #[.int .i64 q0, .int .i64 q1], one.agg] W fun e W' => e = .returned (.bool true) ∧ Below W.heap.size W W' := by
  obtain ⟨kind, who, quo, ct, tk⟩ := one
  have AW : Hid (∀ w, Calls Tryd.prog 7 #[] w fun e w' => e = .returned (.bool true) ∧ w' = w) := Lib.hid (fun w => awake_any w)
  have HM := Lib.hid hm
  have BQ : Hid (QB W ((W.alloc (.cells #[.int .i64 q0, .int .i64 q1] 37)).alloc (.cells #[.int .i64 kind, .int .i64 who, .int .i64 quo, .int .i64 ct, .int .i64 tk] 39)) q0 q1 kind who quo ct tk) := Lib.hid (Below.refl _ _)
  have SL := Lib.hid hsl
  obtain ⟨dA, hdA⟩ : ∃ d, bits .and .i64 q0 4095 = d := ⟨_, rfl⟩
  obtain ⟨dB, hdB⟩ : ∃ d, bits .and .i64 q1 4095 = d := ⟨_, rfl⟩
  have hA1 : dA = q0 % 4096 := by rw [← hdA]; exact i64_mask q0 12 (by omega)
  have hB1 : dB = q1 % 4096 := by rw [← hdB]; exact i64_mask q1 12 (by omega)
  have hA2 : 0 ≤ dA ∧ dA ≤ 4095 := by omega
  have hB2 : 0 ≤ dB ∧ dB ≤ 4095 := by omega
  clear hm hsl hA1 hB1
  unfold NumV.agg
  simp only
  go_enter Tryd.func4, Tryd.ntmps4
  go_upto_block 0 with ((go_at_call 7; (with_reducible refine (AW.out _).mono ?_); rintro e w1 ⟨rfl, q1⟩; subst q1))
  clear AW
  go_cut [8, 9, 10, 11, 12] (fun l nw _ _ _ wx => ∃ (now : Int) (L : List Cas) (a : Option Addr) (c : Nat), l = .slice a L.length c ∧ nw = .int .i64 now ∧ 0 ≤ now ∧ now ≤ 12750 ∧ LV L ∧ mowns wx W.heap.size (.slice a L.length c) L ∧ QB W wx q0 q1 kind who quo ct tk)
  case first =>
    go_wp2_with fail
    go_loopw [8, 9, 10] (fun l nw i wr => ∃ (n : Nat) (now : Int) (L : List Cas) (a : Option Addr) (c : Nat), n ≤ len ∧ n ≤ 50 ∧ i = .int .i64 n ∧ nw = .int .i64 now ∧ 0 ≤ now ∧ now ≤ 255 * n ∧ l = .slice a L.length c ∧ LV L ∧ mowns wr W.heap.size (.slice a L.length c) L ∧ QB W wr q0 q1 kind who quo ct tk) (fun _ _ i _ => 50 - (intOf i).toNat)
    case atStart => exact ⟨0, 0, [], none, 0, Nat.zero_le _, by omega, rfl, rfl, by omega, by omega, rfl, LV.nil, (World.ownsRow_nil _ _ _ _), BQ.out⟩
    case round =>
      obtain ⟨n, now, L, a, c, hnl, hn60, rfl, rfl, hn0, hn1, rfl, hL, ow, bel⟩ := hrel
      have hL8 := hL.inv.few
      have OW := Lib.hid ow
      have BE := Lib.hid bel
      have HL := Lib.hid hL
      clear ow hL BQ
      by_cases hA : n < len
      · by_cases hB : n < 50
        · have hA' : (n : Int) < len := by omega
          have hB' : (n : Int) < 50 := by omega
          have hn0' : (0 : Int) ≤ n := by omega
          obtain ⟨b, off, nv, rfl, hb, hnum⟩ := SL.out n hA
          have hat := hnum.below bel.base hb
          obtain ⟨kind2, who2, quo2, ct2, tk2⟩ := nv
          obtain ⟨c0, c1, c2, c3, c4⟩ := hat
          simp only at c0 c1 c2 c3 c4
          obtain ⟨dt, hdt⟩ : ∃ dt, bits .and .i64 tk2 255 = dt := ⟨_, rfl⟩
          have hd : dt = tk2 % 256 := by rw [← hdt]; exact i64_mask tk2 8 (by omega)
          have hd0 : 0 ≤ dt := by omega
          have hd1 : dt ≤ 255 := by omega
          obtain ⟨now2, hnow2⟩ : ∃ now2, now + dt = now2 := ⟨_, rfl⟩
          have hwn : IntKind.i64.wrap (now + dt) = now2 := by rw [IntKind.wrap_i64] <;> omega
          have hm0 : 0 ≤ now2 := by omega
          have hm1 : now2 ≤ 255 * (n + 1) := by omega
          clear hd hnum hb bel
          have EV0 := event_any ⟨kind2, who2, quo2, ct2, tk2⟩ now2
          obtain ⟨hk, hac1, hac2, hat2, hes⟩ := evN_facts ⟨kind2, who2, quo2, ct2, tk2⟩ now2
          generalize evN ⟨kind2, who2, quo2, ct2, tk2⟩ now2 = ev at EV0 hk hac1 hac2 hat2 hes
          have hlv := HL.out.app (e := ev) (by rw [hat2]; omega) hes
          have AP : Hid (∀ w2, Below wr.heap.size wr w2 → Calls Tryd.prog 20 #[.slice a L.length c, ev.agg] w2 fun x w' => ∃ a' c', x = .returned (.tuple #[.slice a' (appR L ev).length c', .int .i64 (appE L ev)]) ∧ mowns w' W.heap.size (.slice a' (appR L ev).length c') (appR L ev) ∧ QB W w' q0 q1 kind who quo ct tk) := Lib.hid (fun w2 b => (apply_any (OW.out.below b) (by omega) (Nat.le_trans BE.out.base.size b.size) HL.out.inv.rise ev hes (HM.out.below (BE.out.base.trans (b.mono BE.out.base.size)))).mono fun x w' ⟨a', c', h1, h2, h3⟩ => ⟨a', c', h1, h2, Below.trans BE.out ((b.trans (h3.mono b.size)).mono BE.out.size)⟩)
          have HLV := Lib.hid hlv
          generalize appR L ev = X at *
          generalize appE L ev = fe at *
          unfold Evn.agg at EV0 AP
          unfold NumV.agg at EV0
          simp only at EV0
          have EV := Lib.hid EV0
          clear EV0 hlv hat2 hac1 hac2 hes hk
          go_wp2_with (first
            | (go_at_call 21; (with_reducible refine (EV.out _).mono ?_); rintro e w2 ⟨rfl, b2⟩; have F2 := Lib.hid b2; clear b2)
            | (go_at_call 20; (refine (AP.out _ F2.out).mono ?_); rintro e w3 ⟨a3, c3, rfl, o3, b3⟩; have O3 := Lib.hid o3; have B3 := Lib.hid b3; clear o3 b3))
          go_roundw
          case rel => exact ⟨n + 1, now2, X, a3, c3, by omega, by omega, by go_num, rfl, hm0, by omega, rfl, HLV.out, O3.out, B3.out⟩
          case measure => first | (simp only [intOf]; omega) | (simp [intOf]; omega)
        · have hB' : ¬ (n : Int) < 50 := by omega
          have hA' : (n : Int) < len := by omega
          clear bel
          go_wp2_with fail
          go_meet
          case rel => exact ⟨now, L, a, c, rfl, rfl, hn0, by omega, HL.out, OW.out, BE.out⟩
      · have hA' : ¬ (n : Int) < len := by omega
        clear bel
        go_wp2_with fail
        go_meet
        case rel => exact ⟨now, L, a, c, rfl, rfl, hn0, by omega, HL.out, OW.out, BE.out⟩
  case rest =>
    obtain ⟨now, L, a, c, rfl, rfl, hn0, hn1, hL, ow, qb⟩ := hcut
    have hL8 := hL.inv.few
    obtain ⟨⟨m0, m1⟩, n0, n1, n2, n3, n4⟩ := qb.cells
    have OW := Lib.hid ow
    have BE := Lib.hid qb
    have HL := Lib.hid hL
    clear ow qb hL BQ SL
    obtain ⟨tA, htA⟩ : ∃ t, now + dA = t := ⟨_, rfl⟩
    have hwA : IntKind.i64.wrap (now + dA) = tA := by rw [IntKind.wrap_i64] <;> omega
    obtain ⟨tB, htB⟩ : ∃ t, tA + dB = t := ⟨_, rfl⟩
    have hwB : IntKind.i64.wrap (tA + dB) = tB := by rw [IntKind.wrap_i64] <;> omega
    have hAB : tA ≤ tB := by omega
    have EV0 := event_any ⟨kind, who, quo, ct, tk⟩ now
    obtain ⟨hk, hac1, hac2, hat2, hes⟩ := evN_facts ⟨kind, who, quo, ct, tk⟩ now
    generalize evN ⟨kind, who, quo, ct, tk⟩ now = ev at EV0 hk hac1 hac2 hat2 hes
    have hlv := HL.out.app (e := ev) (by rw [hat2]; omega) hes
    have X8 := hlv.inv.few
    have AP : Hid (∀ w2, Below wc.heap.size wc w2 → Calls Tryd.prog 20 #[.slice a L.length c, ev.agg] w2 fun x w' => ∃ a' c', x = .returned (.tuple #[.slice a' (appR L ev).length c', .int .i64 (appE L ev)]) ∧ mowns w' W.heap.size (.slice a' (appR L ev).length c') (appR L ev) ∧ Below w2.heap.size w2 w') := Lib.hid (fun w2 b => apply_any (OW.out.below b) (by omega) (Nat.le_trans BE.out.base.size b.size) HL.out.inv.rise ev hes (HM.out.below (BE.out.base.trans (b.mono BE.out.base.size))))
    have LO := Lib.hid (fun (x : Cas) (hx : x ∈ L) (h1 : x.acc ≠ ev.acc) (h2 : overB x now = false) => later_other HL.out (e := ev) (by rw [hat2]; omega) hx h1 (by rw [hat2]; exact h2))
    have HLV := Lib.hid hlv
    have EVL := Lib.hid (fun w3 w2 b => ev_later (w := w3) (w2 := w2) ev b)
    have XR := Lib.hid hlv.inv.rise
    generalize appR L ev = X at *
    generalize appE L ev = fe at *
    unfold Evn.agg at EV0 AP
    unfold Evn.obj at EVL
    unfold NumV.agg at EV0
    simp only at EV0
    have EV := Lib.hid EV0
    clear EV0 hlv hat2 hac1 hac2 hes hk
    go_wp2_with (first
      | (go_at_call 21; (with_reducible refine (EV.out _).mono ?_); rintro e w2 ⟨rfl, b2⟩; have F2 := Lib.hid (b2.trans (((Below.refl _ _).alloc (Nat.le_refl _) (.cells #[.int .i64 ev.kind, .int .i64 ev.acc, .int .i64 ev.pur, .int .i64 ev.at_, .int .i64 ev.num, .string ev.a, .string ev.b, .string ev.c] 44)).mono b2.size)); obtain ⟨k0, k1, k2, k3, k4, k5, k6, k7⟩ := EVL.out w2 _ (Below.refl _ _); clear b2)
      | (go_at_call 20; (refine (AP.out _ F2.out).mono ?_); rintro e w3 ⟨a3, c3, rfl, o3, b3⟩; have EB3 := Lib.hid b3; have O3 := Lib.hid o3; have F3 := Lib.hid (F2.out.trans (b3.mono F2.out.size)); clear o3 b3))
    have OL3 := Lib.hid (OW.out.below F3.out)
    have WB3 := Lib.hid (BE.out.base.trans (F3.out.mono BE.out.base.size))
    clear AP EV F2 F3 OW k0 k1 k2 k3 k4 k5 k6 k7 m0 m1 n0 n1 n2 n3 n4 BE
    go_loopw [18] (fun i wr => ∃ k : Nat, k ≤ L.length ∧ i = .int .i64 k ∧ Below w3.heap.size w3 wr) (fun i _ => L.length - (intOf i).toNat)
    case atStart => exact ⟨0, Nat.zero_le _, rfl, Below.refl _ _⟩
    case round =>
      obtain ⟨k, hk, rfl, hb⟩ := hrel
      have WB := Lib.hid hb
      by_cases hkn : k < L.length
      · have hkn' : (k : Int) < L.length := by omega
        obtain ⟨g, rfl, _, _, m0, m1, m2, m3, m4, m5, m6, m7, m8⟩ := (OL3.out.below hb).nine k hkn
        have hmem := List.getElem_mem hkn
        rw [List.getElem?_eq_getElem hkn, Option.getD_some] at m0 m1 m2 m3 m4 m5 m6 m7 m8
        generalize L[k] = x at *
        have hl := find_at HL.out.inv.rise hmem
        obtain ⟨hh, hf⟩ := findC_of HL.out.inv.rise hl
        have BX := Lib.hid (fun w2 b => box_later (w := wr) (w2 := w2) x b)
        have BXF := Lib.hid (fun w3 w2 b => box_later (w := w3) (w2 := w2) x b)
        have BA : Hid (Below wr.heap.size wr (wr.alloc x.obj)) := Lib.hid ((Below.refl _ _).alloc (Nat.le_refl _) _)
        have OA : Hid (∀ w2, Calls Tryd.prog 14 #[x.agg, .int .i64 tA] w2 fun e w' => e = .returned (.bool (overB x tA)) ∧ Below w2.heap.size w2 w') := Lib.hid (fun w2 => over_any x tA w2)
        have OB : Hid (∀ w2, Calls Tryd.prog 14 #[x.agg, .int .i64 tB] w2 fun e w' => e = .returned (.bool (overB x tB)) ∧ Below w2.heap.size w2 w') := Lib.hid (fun w2 => over_any x tB w2)
        have ON : Hid (∀ w2, Calls Tryd.prog 14 #[x.agg, .int .i64 now] w2 fun e w' => e = .returned (.bool (overB x now)) ∧ Below w2.heap.size w2 w') := Lib.hid (fun w2 => over_any x now w2)
        have RA : Hid (∀ w2, Below w3.heap.size w3 w2 → Calls Tryd.prog 22 #[.slice (some ⟨g, 0, none⟩) L.length c, .int .i64 x.acc, .int .i64 tA] w2 fun e w' => e = .returned (.bool (ripeB L x.acc tA)) ∧ Below w2.heap.size w2 w') := Lib.hid (fun w2 b => ripe_any (OL3.out.below b) (by omega) HL.out.inv.rise x.acc tA)
        have RB : Hid (∀ w2, Below w3.heap.size w3 w2 → Calls Tryd.prog 22 #[.slice (some ⟨g, 0, none⟩) L.length c, .int .i64 x.acc, .int .i64 tB] w2 fun e w' => e = .returned (.bool (ripeB L x.acc tB)) ∧ Below w2.heap.size w2 w') := Lib.hid (fun w2 b => ripe_any (OL3.out.below b) (by omega) HL.out.inv.rise x.acc tB)
        have FX : Hid (∀ w2, Below w3.heap.size w3 w2 → Calls Tryd.prog 23 #[.slice a3 X.length c3, .int .i64 x.acc] w2 fun e w' => e = .returned (.tuple #[(findC X x.acc).agg, .bool (hasA X x.acc)]) ∧ Below w2.heap.size w2 w') := Lib.hid (fun w2 b => find_any (O3.out.below b) (by omega) XR.out x.acc)
        have LX := Lib.hid (LO.out x hmem)
        have h1 : overB x tA = true → overB x tB = true := over_later hAB
        have h2 : ripeB L x.acc tA = true → overB x tB = false → ripeB L x.acc tB = true := ripe_later hf hAB
        generalize overB x tA = oa at *
        generalize overB x tB = ob at *
        generalize overB x now = on at *
        generalize ripeB L x.acc tA = ra at *
        generalize ripeB L x.acc tB = rb at *
        obtain ⟨fx, hfx⟩ : ∃ fx, findC X x.acc = fx := ⟨_, rfl⟩
        rw [hfx] at FX LX
        obtain ⟨is, his⟩ : ∃ is, hasA X x.acc = is := ⟨_, rfl⟩
        rw [his] at FX LX
        have NE := Lib.hid (fun w => cas_ne x x w)
        have NE0 : (!eqC x x) = false := by rw [(eqC_iff x x).2 rfl]; rfl
        rw [NE0] at NE
        have EK := Lib.hid (EVL.out w2)
        unfold Cas.agg at OA OB ON FX NE
        unfold Cas.obj at BX BXF BA
        clear hb hmem hl hh hf hfx his NE0
        go_upto_region 18 with fail
        obtain ⟨⟨y0, y1, y2, y3, y4, y5, y6, y7, y8⟩, yf⟩ := BX.out _ (Below.refl _ _)
        have BR : Hid (Below (wr.alloc (.cells #[.int .i64 x.acc, .int .i64 x.opened, .int .i64 x.ripe, .int .i64 x.quorum, .string x.v0, .string x.v1, .string x.v2, .string x.v3, .string x.v4] 28)).heap.size (wr.alloc (.cells #[.int .i64 x.acc, .int .i64 x.opened, .int .i64 x.ripe, .int .i64 x.quorum, .string x.v0, .string x.v1, .string x.v2, .string x.v3, .string x.v4] 28)) (wr.alloc (.cells #[.int .i64 x.acc, .int .i64 x.opened, .int .i64 x.ripe, .int .i64 x.quorum, .string x.v0, .string x.v1, .string x.v2, .string x.v3, .string x.v4] 28))) := Lib.hid (Below.refl _ _)
        go_cut [111] (fun g wx => g = .bool false ∧ Below (wr.alloc (.cells #[.int .i64 x.acc, .int .i64 x.opened, .int .i64 x.ripe, .int .i64 x.quorum, .string x.v0, .string x.v1, .string x.v2, .string x.v3, .string x.v4] 28)).heap.size (wr.alloc (.cells #[.int .i64 x.acc, .int .i64 x.opened, .int .i64 x.ripe, .int .i64 x.quorum, .string x.v0, .string x.v1, .string x.v2, .string x.v3, .string x.v4] 28)) wx)
        case first =>
          have W3C : Hid (Below w3.heap.size w3 (wr.alloc (.cells #[.int .i64 x.acc, .int .i64 x.opened, .int .i64 x.ripe, .int .i64 x.quorum, .string x.v0, .string x.v1, .string x.v2, .string x.v3, .string x.v4] 28))) := Lib.hid (WB.out.trans (BA.out.mono WB.out.size))
          cases oa
          · cases ra
            · clear h1 h2
              go_wp2_with (first
                | (go_at_call 14; (with_reducible refine (OA.out _).mono ?_); rintro e wt0 ⟨rfl, bt0⟩; have T0 := Lib.hid (BR.out.trans (bt0.mono BR.out.size)); obtain ⟨⟨y0, y1, y2, y3, y4, y5, y6, y7, y8⟩, yf⟩ := BX.out _ T0.out; clear bt0)
                | (go_at_call 22; (with_reducible refine (RA.out _ (W3C.out.trans (T0.out.mono W3C.out.size))).mono ?_); rintro e wt1 ⟨rfl, bt1⟩; have T1 := Lib.hid (T0.out.trans (bt1.mono T0.out.size)); obtain ⟨⟨y0, y1, y2, y3, y4, y5, y6, y7, y8⟩, yf⟩ := BX.out _ T1.out; clear bt1))
              go_meet
              case rel => exact ⟨rfl, T1.out⟩
            · cases rb
              · cases ob
                · exact absurd (h2 rfl rfl) (by decide)
                · clear h1 h2
                  go_wp2_with (first
                    | (go_at_call 14; (with_reducible refine (OA.out _).mono ?_); rintro e wt0 ⟨rfl, bt0⟩; have T0 := Lib.hid (BR.out.trans (bt0.mono BR.out.size)); obtain ⟨⟨y0, y1, y2, y3, y4, y5, y6, y7, y8⟩, yf⟩ := BX.out _ T0.out; clear bt0)
                    | (go_at_call 22; (with_reducible refine (RA.out _ (W3C.out.trans (T0.out.mono W3C.out.size))).mono ?_); rintro e wt1 ⟨rfl, bt1⟩; have T1 := Lib.hid (T0.out.trans (bt1.mono T0.out.size)); obtain ⟨⟨y0, y1, y2, y3, y4, y5, y6, y7, y8⟩, yf⟩ := BX.out _ T1.out; clear bt1)
                    | (go_at_call 22; (with_reducible refine (RB.out _ (W3C.out.trans (T1.out.mono W3C.out.size))).mono ?_); rintro e wt2 ⟨rfl, bt2⟩; have T2 := Lib.hid (T1.out.trans (bt2.mono T1.out.size)); obtain ⟨⟨y0, y1, y2, y3, y4, y5, y6, y7, y8⟩, yf⟩ := BX.out _ T2.out; clear bt2)
                    | (go_at_call 14; (with_reducible refine (OB.out _).mono ?_); rintro e wt3 ⟨rfl, bt3⟩; have T3 := Lib.hid (T2.out.trans (bt3.mono T2.out.size)); obtain ⟨⟨y0, y1, y2, y3, y4, y5, y6, y7, y8⟩, yf⟩ := BX.out _ T3.out; clear bt3))
                  go_meet
                  case rel => exact ⟨rfl, T3.out⟩
              · clear h1 h2
                go_wp2_with (first
                  | (go_at_call 14; (with_reducible refine (OA.out _).mono ?_); rintro e wt0 ⟨rfl, bt0⟩; have T0 := Lib.hid (BR.out.trans (bt0.mono BR.out.size)); obtain ⟨⟨y0, y1, y2, y3, y4, y5, y6, y7, y8⟩, yf⟩ := BX.out _ T0.out; clear bt0)
                  | (go_at_call 22; (with_reducible refine (RA.out _ (W3C.out.trans (T0.out.mono W3C.out.size))).mono ?_); rintro e wt1 ⟨rfl, bt1⟩; have T1 := Lib.hid (T0.out.trans (bt1.mono T0.out.size)); obtain ⟨⟨y0, y1, y2, y3, y4, y5, y6, y7, y8⟩, yf⟩ := BX.out _ T1.out; clear bt1)
                  | (go_at_call 22; (with_reducible refine (RB.out _ (W3C.out.trans (T1.out.mono W3C.out.size))).mono ?_); rintro e wt2 ⟨rfl, bt2⟩; have T2 := Lib.hid (T1.out.trans (bt2.mono T1.out.size)); obtain ⟨⟨y0, y1, y2, y3, y4, y5, y6, y7, y8⟩, yf⟩ := BX.out _ T2.out; clear bt2))
                go_meet
                case rel => exact ⟨rfl, T2.out⟩
          · obtain rfl := h1 rfl
            cases ra
            · clear h1 h2
              go_wp2_with (first
                | (go_at_call 14; (with_reducible refine (OA.out _).mono ?_); rintro e wt0 ⟨rfl, bt0⟩; have T0 := Lib.hid (BR.out.trans (bt0.mono BR.out.size)); obtain ⟨⟨y0, y1, y2, y3, y4, y5, y6, y7, y8⟩, yf⟩ := BX.out _ T0.out; clear bt0)
                | (go_at_call 14; (with_reducible refine (OB.out _).mono ?_); rintro e wt1 ⟨rfl, bt1⟩; have T1 := Lib.hid (T0.out.trans (bt1.mono T0.out.size)); obtain ⟨⟨y0, y1, y2, y3, y4, y5, y6, y7, y8⟩, yf⟩ := BX.out _ T1.out; clear bt1)
                | (go_at_call 22; (with_reducible refine (RA.out _ (W3C.out.trans (T1.out.mono W3C.out.size))).mono ?_); rintro e wt2 ⟨rfl, bt2⟩; have T2 := Lib.hid (T1.out.trans (bt2.mono T1.out.size)); obtain ⟨⟨y0, y1, y2, y3, y4, y5, y6, y7, y8⟩, yf⟩ := BX.out _ T2.out; clear bt2))
              go_meet
              case rel => exact ⟨rfl, T2.out⟩
            · cases rb
              · clear h1 h2
                go_wp2_with (first
                  | (go_at_call 14; (with_reducible refine (OA.out _).mono ?_); rintro e wt0 ⟨rfl, bt0⟩; have T0 := Lib.hid (BR.out.trans (bt0.mono BR.out.size)); obtain ⟨⟨y0, y1, y2, y3, y4, y5, y6, y7, y8⟩, yf⟩ := BX.out _ T0.out; clear bt0)
                  | (go_at_call 14; (with_reducible refine (OB.out _).mono ?_); rintro e wt1 ⟨rfl, bt1⟩; have T1 := Lib.hid (T0.out.trans (bt1.mono T0.out.size)); obtain ⟨⟨y0, y1, y2, y3, y4, y5, y6, y7, y8⟩, yf⟩ := BX.out _ T1.out; clear bt1)
                  | (go_at_call 22; (with_reducible refine (RA.out _ (W3C.out.trans (T1.out.mono W3C.out.size))).mono ?_); rintro e wt2 ⟨rfl, bt2⟩; have T2 := Lib.hid (T1.out.trans (bt2.mono T1.out.size)); obtain ⟨⟨y0, y1, y2, y3, y4, y5, y6, y7, y8⟩, yf⟩ := BX.out _ T2.out; clear bt2)
                  | (go_at_call 22; (with_reducible refine (RB.out _ (W3C.out.trans (T2.out.mono W3C.out.size))).mono ?_); rintro e wt3 ⟨rfl, bt3⟩; have T3 := Lib.hid (T2.out.trans (bt3.mono T2.out.size)); obtain ⟨⟨y0, y1, y2, y3, y4, y5, y6, y7, y8⟩, yf⟩ := BX.out _ T3.out; clear bt3)
                  | (go_at_call 14; (with_reducible refine (OB.out _).mono ?_); rintro e wt4 ⟨rfl, bt4⟩; have T4 := Lib.hid (T3.out.trans (bt4.mono T3.out.size)); obtain ⟨⟨y0, y1, y2, y3, y4, y5, y6, y7, y8⟩, yf⟩ := BX.out _ T4.out; clear bt4))
                go_meet
                case rel => exact ⟨rfl, T4.out⟩
              · clear h1 h2
                go_wp2_with (first
                  | (go_at_call 14; (with_reducible refine (OA.out _).mono ?_); rintro e wt0 ⟨rfl, bt0⟩; have T0 := Lib.hid (BR.out.trans (bt0.mono BR.out.size)); obtain ⟨⟨y0, y1, y2, y3, y4, y5, y6, y7, y8⟩, yf⟩ := BX.out _ T0.out; clear bt0)
                  | (go_at_call 14; (with_reducible refine (OB.out _).mono ?_); rintro e wt1 ⟨rfl, bt1⟩; have T1 := Lib.hid (T0.out.trans (bt1.mono T0.out.size)); obtain ⟨⟨y0, y1, y2, y3, y4, y5, y6, y7, y8⟩, yf⟩ := BX.out _ T1.out; clear bt1)
                  | (go_at_call 22; (with_reducible refine (RA.out _ (W3C.out.trans (T1.out.mono W3C.out.size))).mono ?_); rintro e wt2 ⟨rfl, bt2⟩; have T2 := Lib.hid (T1.out.trans (bt2.mono T1.out.size)); obtain ⟨⟨y0, y1, y2, y3, y4, y5, y6, y7, y8⟩, yf⟩ := BX.out _ T2.out; clear bt2)
                  | (go_at_call 22; (with_reducible refine (RB.out _ (W3C.out.trans (T2.out.mono W3C.out.size))).mono ?_); rintro e wt3 ⟨rfl, bt3⟩; have T3 := Lib.hid (T2.out.trans (bt3.mono T2.out.size)); obtain ⟨⟨y0, y1, y2, y3, y4, y5, y6, y7, y8⟩, yf⟩ := BX.out _ T3.out; clear bt3))
                go_meet
                case rel => exact ⟨rfl, T3.out⟩
        case rest =>
          obtain ⟨rfl, hb4⟩ := hcut
          clear OA OB RA RB h1 h2 BR y0 y1 y2 y3 y4 y5 y6 y7 y8 yf
          have B4 := Lib.hid hb4
          have W4 : Hid (Below w3.heap.size w3 wc) := Lib.hid ((WB.out.trans (BA.out.mono WB.out.size)).trans (hb4.mono (Nat.le_trans WB.out.size BA.out.size)))
          obtain ⟨⟨y0, y1, y2, y3, y4, y5, y6, y7, y8⟩, yf⟩ := BX.out _ hb4
          clear hb4
          by_cases hac : x.acc = ev.acc
          · have hac2 : (x.acc != ev.acc) = false := by simpa using hac
            have hac3 : (x.acc == ev.acc) = true := by simpa using hac
            clear hac
            go_wp2_with (first
              | (go_at_call 23; (with_reducible refine (FX.out _ W4.out).mono ?_); rintro e w5 ⟨rfl, b5⟩; have B5 := Lib.hid ((B4.out.trans (b5.mono B4.out.size)).alloc (Nat.le_trans B4.out.size b5.size) (.cells #[.int .i64 fx.acc, .int .i64 fx.opened, .int .i64 fx.ripe, .int .i64 fx.quorum, .string fx.v0, .string fx.v1, .string fx.v2, .string fx.v3, .string fx.v4] 28)); have W5 := Lib.hid ((W4.out.trans (b5.mono W4.out.size)).alloc (Nat.le_trans W4.out.size b5.size) (.cells #[.int .i64 fx.acc, .int .i64 fx.opened, .int .i64 fx.ripe, .int .i64 fx.quorum, .string fx.v0, .string fx.v1, .string fx.v2, .string fx.v3, .string fx.v4] 28)); obtain ⟨⟨y0, y1, y2, y3, y4, y5, y6, y7, y8⟩, yf⟩ := BX.out _ B5.out; obtain ⟨k0, k1, k2, k3, k4, k5, k6, k7⟩ := EK.out _ (EB3.out.trans (W5.out.mono EB3.out.size)); clear b5))
            go_roundw
            case rel => exact ⟨k + 1, by omega, by go_num, W5.out⟩
            case measure => first | (simp only [intOf]; omega) | (simp [intOf]; omega)
          · have hac2 : (x.acc != ev.acc) = true := by simpa using hac
            have hac3 : (x.acc == ev.acc) = false := by simpa using hac
            cases on
            · obtain ⟨e1, e2⟩ := LX.out hac rfl
              subst e1
              have e3 := e2.symm
              subst e3
              clear e2
              have NEX := NE.out
              clear hac
              go_wp2_with (first
                | (go_at_call 23; (with_reducible refine (FX.out _ W4.out).mono ?_); rintro e w5 ⟨rfl, b5⟩; have B5 := Lib.hid ((B4.out.trans (b5.mono B4.out.size)).alloc (Nat.le_trans B4.out.size b5.size) (.cells #[.int .i64 x.acc, .int .i64 x.opened, .int .i64 x.ripe, .int .i64 x.quorum, .string x.v0, .string x.v1, .string x.v2, .string x.v3, .string x.v4] 28)); have W5 := Lib.hid ((W4.out.trans (b5.mono W4.out.size)).alloc (Nat.le_trans W4.out.size b5.size) (.cells #[.int .i64 x.acc, .int .i64 x.opened, .int .i64 x.ripe, .int .i64 x.quorum, .string x.v0, .string x.v1, .string x.v2, .string x.v3, .string x.v4] 28)); obtain ⟨⟨y0, y1, y2, y3, y4, y5, y6, y7, y8⟩, yf⟩ := BX.out _ B5.out; obtain ⟨k0, k1, k2, k3, k4, k5, k6, k7⟩ := EK.out _ (EB3.out.trans (W5.out.mono EB3.out.size)); clear b5)
                | (go_at_call 14; (with_reducible refine (ON.out _).mono ?_); rintro e w6 ⟨rfl, b6⟩; have W6 := Lib.hid (W5.out.trans (b6.mono W5.out.size)); obtain ⟨⟨y0, y1, y2, y3, y4, y5, y6, y7, y8⟩, yf⟩ := BX.out _ (B5.out.trans (b6.mono B5.out.size)); obtain ⟨⟨z0, z1, z2, z3, z4, z5, z6, z7, z8⟩, zf⟩ := BXF.out w5 _ b6; clear b6))
              go_roundw
              case rel => exact ⟨k + 1, by omega, by go_num, W6.out⟩
              case measure => first | (simp only [intOf]; omega) | (simp [intOf]; omega)
            · clear hac
              go_wp2_with (first
                | (go_at_call 23; (with_reducible refine (FX.out _ W4.out).mono ?_); rintro e w5 ⟨rfl, b5⟩; have B5 := Lib.hid ((B4.out.trans (b5.mono B4.out.size)).alloc (Nat.le_trans B4.out.size b5.size) (.cells #[.int .i64 fx.acc, .int .i64 fx.opened, .int .i64 fx.ripe, .int .i64 fx.quorum, .string fx.v0, .string fx.v1, .string fx.v2, .string fx.v3, .string fx.v4] 28)); have W5 := Lib.hid ((W4.out.trans (b5.mono W4.out.size)).alloc (Nat.le_trans W4.out.size b5.size) (.cells #[.int .i64 fx.acc, .int .i64 fx.opened, .int .i64 fx.ripe, .int .i64 fx.quorum, .string fx.v0, .string fx.v1, .string fx.v2, .string fx.v3, .string fx.v4] 28)); obtain ⟨⟨y0, y1, y2, y3, y4, y5, y6, y7, y8⟩, yf⟩ := BX.out _ B5.out; obtain ⟨k0, k1, k2, k3, k4, k5, k6, k7⟩ := EK.out _ (EB3.out.trans (W5.out.mono EB3.out.size)); clear b5)
                | (go_at_call 14; (with_reducible refine (ON.out _).mono ?_); rintro e w6 ⟨rfl, b6⟩; have W6 := Lib.hid (W5.out.trans (b6.mono W5.out.size)); obtain ⟨⟨y0, y1, y2, y3, y4, y5, y6, y7, y8⟩, yf⟩ := BX.out _ (B5.out.trans (b6.mono B5.out.size)); clear b6))
              go_roundw
              case rel => exact ⟨k + 1, by omega, by go_num, W6.out⟩
              case measure => first | (simp only [intOf]; omega) | (simp [intOf]; omega)
      · have hkn' : ¬ (k : Int) < L.length := by omega
        clear hb
        go_wp2_with fail
        go_ret
        exact ⟨rfl, WB3.out.trans (WB.out.mono WB3.out.size)⟩
end Go.Proofs.YtcidllckmidkoaaDoor
