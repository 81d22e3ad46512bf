/- CasesRipe: the walk. -/
import Derived.Test.YtcidllckmidkoaaDoorCriA

import Derived.Deep.DeepCutAuto
import Derived.Deep.CutBlock
namespace Go.Proofs.YtcidllckmidkoaaDoor
open Go.RowKit Go.Maps

def zO : Array Value := #[.bool false, .bool false, .bool false, .bool false, .bool false, .bool false, .bool false, .bool false, .bool false, .bool false, .bool false, .bool false, .bool false]
def zT : Array Value := #[.int .i64 0, .int .i64 0, .int .i64 0, .int .i64 0, .int .i64 0, .int .i64 0, .int .i64 0, .int .i64 0, .int .i64 0, .int .i64 0, .int .i64 0, .int .i64 0, .int .i64 0]
def zN : Array Value := #[.int .i64 0, .int .i64 0, .int .i64 0, .int .i64 0, .int .i64 0, .int .i64 0, .int .i64 0, .int .i64 0, .int .i64 0, .int .i64 0, .int .i64 0, .int .i64 0, .int .i64 0]
def zY : Array Value := #[.bool false, .bool false, .bool false, .bool false, .bool false, .bool false, .bool false, .bool false, .bool false, .bool false, .bool false, .bool false, .bool false, .bool false, .bool false, .bool false, .bool false, .bool false, .bool false, .bool false, .bool false, .bool false, .bool false, .bool false, .bool false, .bool false, .bool false, .bool false, .bool false, .bool false, .bool false, .bool false, .bool false, .bool false, .bool false, .bool false, .bool false, .bool false, .bool false, .bool false, .bool false, .bool false, .bool false, .bool false, .bool false, .bool false, .bool false, .bool false, .bool false, .bool false, .bool false, .bool false, .bool false, .bool false, .bool false, .bool false, .bool false, .bool false, .bool false, .bool false, .bool false, .bool false, .bool false, .bool false, .bool false, .bool false, .bool false, .bool false, .bool false, .bool false, .bool false, .bool false, .bool false, .bool false, .bool false, .bool false, .bool false, .bool false, .bool false, .bool false, .bool false, .bool false, .bool false, .bool false, .bool false, .bool false, .bool false, .bool false, .bool false, .bool false, .bool false, .bool false, .bool false, .bool false, .bool false, .bool false, .bool false, .bool false, .bool false, .bool false, .bool false, .bool false, .bool false, .bool false]
theorem zO_eq : zO = Array.replicate 13 (.bool false) := rfl
theorem zT_eq : zT = Array.replicate 13 (.int .i64 0) := rfl
theorem zN_eq : zN = Array.replicate 13 (.int .i64 0) := rfl
theorem zY_eq : zY = Array.replicate 104 (.bool false) := by unfold zY; simp only [Array.replicate_succ, Array.replicate_zero, List.push_toArray, List.nil_append, List.cons_append]
theorem arr_new (W : World) : AR4 ((((W.alloc (.cells zO 52)).alloc (.cells zT 53)).alloc (.cells zN 54)).alloc (.cells zY 56)) W.heap.size (W.heap.size + 1) (W.heap.size + 1 + 1) (W.heap.size + 1 + 1 + 1) (fun _ => false) (fun _ => 0) (fun _ => 0) (fun _ _ => false) := by
  have s1 : (W.alloc (.cells zO 52)).heap.size = W.heap.size + 1 := by simp
  have s2 : ((W.alloc (.cells zO 52)).alloc (.cells zT 53)).heap.size = W.heap.size + 1 + 1 := by simp
  have s3 : (((W.alloc (.cells zO 52)).alloc (.cells zT 53)).alloc (.cells zN 54)).heap.size = W.heap.size + 1 + 1 + 1 := by simp
  have s4 : ((((W.alloc (.cells zO 52)).alloc (.cells zT 53)).alloc (.cells zN 54)).alloc (.cells zY 56)).heap.size = W.heap.size + 1 + 1 + 1 + 1 := by simp
  have n0 : ((((W.alloc (.cells zO 52)).alloc (.cells zT 53)).alloc (.cells zN 54)).alloc (.cells zY 56)).heap[W.heap.size]? = some (.cells zO 52) := by
    rw [Lib.alloc_old _ _ _ (by omega), Lib.alloc_old _ _ _ (by omega), Lib.alloc_old _ _ _ (by omega)]; exact heap_new _ _
  have n1 : ((((W.alloc (.cells zO 52)).alloc (.cells zT 53)).alloc (.cells zN 54)).alloc (.cells zY 56)).heap[W.heap.size + 1]? = some (.cells zT 53) := by
    rw [Lib.alloc_old _ _ _ (by omega), Lib.alloc_old _ _ _ (by omega), ← s1]; exact heap_new _ _
  have n2 : ((((W.alloc (.cells zO 52)).alloc (.cells zT 53)).alloc (.cells zN 54)).alloc (.cells zY 56)).heap[W.heap.size + 1 + 1]? = some (.cells zN 54) := by
    rw [Lib.alloc_old _ _ _ (by omega), ← s2]; exact heap_new _ _
  have n3 : ((((W.alloc (.cells zO 52)).alloc (.cells zT 53)).alloc (.cells zN 54)).alloc (.cells zY 56)).heap[W.heap.size + 1 + 1 + 1]? = some (.cells zY 56) := by
    rw [← s3]; exact heap_new _ _
  refine ⟨by omega, by omega, by omega, by omega, by omega, fun k hk => ?_, fun k hk => ?_, fun k hk => ?_, fun k j hk hj => ?_, fun j => frozen_of_row _ _ _ _ _ n0, fun j => frozen_of_row _ _ _ _ _ n1, fun j => frozen_of_row _ _ _ _ _ n2, fun j => frozen_of_row _ _ _ _ _ n3⟩
  · rw [Lib.cell_of_heap n0, zO_eq, Array.getElem?_replicate, if_pos hk]
  · rw [Lib.cell_of_heap n1, zT_eq, Array.getElem?_replicate, if_pos hk]
  · rw [Lib.cell_of_heap n2, zN_eq, Array.getElem?_replicate, if_pos hk]
  · rw [Lib.cell_of_heap n3, zY_eq, Array.getElem?_replicate, if_pos (by omega)]
theorem arr_below (W : World) : Below W.heap.size W ((((W.alloc (.cells zO 52)).alloc (.cells zT 53)).alloc (.cells zN 54)).alloc (.cells zY 56)) := below_alloc (below_alloc (below_alloc (below_alloc (Below.refl _ W) _) _) _) _
/-- What the law holds between two steps. -/
structure KR (W : World) (b0 b1 b2 b3 : Nat) (L : List Cas) (now : Int) (v : Value) (O : Nat → Bool) (T N : Nat → Int) (Y : Nat → Nat → Bool) (w : World) : Prop where
  ar : AR4 w b0 b1 b2 b3 O T N Y
  ow : mowns w (b3 + 1) v L
  bel : Below W.heap.size W w
  rr : RR L now O T N Y
  lv : LV L
theorem ev_contact (n : NumV) (now : Int) (h : kindOf (evN n now).a = 1) : ∃ j, j < 8 ∧ (evN n now).a = nm j := by
  have e : (evN n now).a = nameN n.ct := rfl
  rw [e] at h ⊢
  unfold nameN at h ⊢
  by_cases q : n.ct % 16 < 8
  · rw [if_pos q]
    exact ⟨(n.ct % 8).toNat, by omega, rfl⟩
  · rw [if_neg q] at h
    exact absurd h (by decide +kernel)
set_option maxHeartbeats 8000000 in
set_option maxRecDepth 100000 in
theorem ripe_walk (a0 : Option Addr) (len cap : Nat) (later : Int) (W : World) (hm : ML W)
    (hsl : ∀ i, i < len → ∃ b off o, a0 = some ⟨b, off, none⟩ ∧ b < W.heap.size ∧ NumAt W b (off + i * 5) o) :
    Calls Tryd.prog 6 #[.slice a0 len cap, .int .i64 later] W fun e W' => e = .returned (.bool true) ∧ Below W.heap.size W W' := by
  have AW : Hid (∀ w, Calls Tryd.prog 7 #[] w fun e w' => e = .returned (.bool true) ∧ w' = w) := Lib.hid (fun w => awake_any w)
  have HM := Lib.hid hm
  have A0 := Lib.hid (arr_new W)
  have B0 := Lib.hid (arr_below W)
  have SL := Lib.hid hsl
  obtain ⟨dL, hdL⟩ : ∃ d, bits .and .i64 later 2047 = d := ⟨_, rfl⟩
  have hL1 : dL = later % 2048 := by rw [← hdL]; exact i64_mask later 11 (by omega)
  have hL2 : 0 ≤ dL ∧ dL ≤ 2047 := by omega
  unfold zO zT zN zY at A0 B0
  clear hm hsl hL1
  go_enter Tryd.func6, Tryd.ntmps6
  go_upto_block 0 with ((go_at_call 7; (with_reducible refine (AW.out _).mono ?_); rintro e w1 ⟨rfl, q1⟩; have q2 := q1.symm; subst q2))
  clear AW
  obtain ⟨b0, hb0⟩ : ∃ b0, W.heap.size = b0 := ⟨_, rfl⟩
  obtain ⟨b1, hb1⟩ : ∃ b1, b0 + 1 = b1 := ⟨_, rfl⟩
  obtain ⟨b2, hb2⟩ : ∃ b2, b1 + 1 = b2 := ⟨_, rfl⟩
  obtain ⟨b3, hb3⟩ : ∃ b3, b2 + 1 = b3 := ⟨_, rfl⟩
  have A1 := A0.out
  have B1 := B0.out
  rw [hb0, hb1, hb2, hb3] at A1
  rw [hb0] at B1
  rw [hb0, hb1, hb2, hb3]
  have K0 : Hid (∀ w, w = ((((W.alloc (.cells #[.bool false, .bool false, .bool false, .bool false, .bool false, .bool false, .bool false, .bool false, .bool false, .bool false, .bool false, .bool false, .bool false] 52)).alloc (.cells #[.int .i64 0, .int .i64 0, .int .i64 0, .int .i64 0, .int .i64 0, .int .i64 0, .int .i64 0, .int .i64 0, .int .i64 0, .int .i64 0, .int .i64 0, .int .i64 0, .int .i64 0] 53)).alloc (.cells #[.int .i64 0, .int .i64 0, .int .i64 0, .int .i64 0, .int .i64 0, .int .i64 0, .int .i64 0, .int .i64 0, .int .i64 0, .int .i64 0, .int .i64 0, .int .i64 0, .int .i64 0] 54)).alloc (.cells #[.bool false, .bool false, .bool false, .bool false, .bool false, .bool false, .bool false, .bool false, .bool false, .bool false, .bool false, .bool false, .bool false, .bool false, .bool false, .bool false, .bool false, .bool false, .bool false, .bool false, .bool false, .bool false, .bool false, .bool false, .bool false, .bool false, .bool false, .bool false, .bool false, .bool false, .bool false, .bool false, .bool false, .bool false, .bool false, .bool false, .bool false, .bool false, .bool false, .bool false, .bool false, .bool false, .bool false, .bool false, .bool false, .bool false, .bool false, .bool false, .bool false, .bool false, .bool false, .bool false, .bool false, .bool false, .bool false, .bool false, .bool false, .bool false, .bool false, .bool false, .bool false, .bool false, .bool false, .bool false, .bool false, .bool false, .bool false, .bool false, .bool false, .bool false, .bool false, .bool false, .bool false, .bool false, .bool false, .bool false, .bool false, .bool false, .bool false, .bool false, .bool false, .bool false, .bool false, .bool false, .bool false, .bool false, .bool false, .bool false, .bool false, .bool false, .bool false, .bool false, .bool false, .bool false, .bool false, .bool false, .bool false, .bool false, .bool false, .bool false, .bool false, .bool false, .bool false, .bool false] 56)) → KR W b0 b1 b2 b3 [] 0 (.slice none 0 0) (fun _ => false) (fun _ => 0) (fun _ => 0) (fun _ _ => false) w) := Lib.hid (fun w h => by
    subst h
    exact ⟨A1, World.ownsRow_nil _ _ _ _, by rw [hb0]; exact B1, RR.nil, LV.nil⟩)
  have HB0 := Lib.hid hb0
  clear A0 B0 A1 B1 hb0
  go_cut [6, 7, 12, 13, 14, 15] (fun l nw _ _ _ _ wx => ∃ (now : Int) (L : List Cas) (a : Option Addr) (c : Nat) (O : Nat → Bool) (T N : Nat → Int) (Y : Nat → Nat → Bool), l = .slice a L.length c ∧ nw = .int .i64 now ∧ 0 ≤ now ∧ now ≤ 15300 ∧ KR W b0 b1 b2 b3 L now (.slice a L.length c) O T N Y wx)
  case first =>
    go_wp2_with fail
    go_loopw [6, 7, 12] (fun l nw i wr => ∃ (n : Nat) (now : Int) (L : List Cas) (a : Option Addr) (c : Nat) (O : Nat → Bool) (T N : Nat → Int) (Y : Nat → Nat → Bool), n ≤ len ∧ n ≤ 60 ∧ i = .int .i64 n ∧ nw = .int .i64 now ∧ 0 ≤ now ∧ now ≤ 255 * n ∧ l = .slice a L.length c ∧ KR W b0 b1 b2 b3 L now (.slice a L.length c) O T N Y wr) (fun _ _ i _ => 60 - (intOf i).toNat)
    case atStart => exact ⟨0, 0, [], none, 0, _, _, _, _, Nat.zero_le _, by omega, rfl, rfl, by omega, by omega, rfl, K0.out _ rfl⟩
    case round =>
      obtain ⟨n, now, L, a, c, O, T, N, Y, hnl, hn60, rfl, rfl, hn0, hn1, rfl, kr⟩ := hrel
      have hL8 := kr.lv.inv.few
      have KR1 := Lib.hid kr
      clear K0
      by_cases hA : n < len
      · by_cases hB : n < 60
        · have hA' : (n : Int) < len := by omega
          have hB' : (n : Int) < 60 := by omega
          have hn0' : (0 : Int) ≤ n := by omega
          obtain ⟨b, off, nv, rfl, hb, hnum⟩ := SL.out n hA
          have hat := hnum.below kr.bel hb
          obtain ⟨kind, who, quo, ct, tk⟩ := nv
          obtain ⟨c0, c1, c2, c3, c4⟩ := hat
          simp only at c0 c1 c2 c3 c4
          obtain ⟨dt, hdt⟩ : ∃ dt, bits .and .i64 tk 255 = dt := ⟨_, rfl⟩
          have hd : dt = tk % 256 := by rw [← hdt]; exact i64_mask tk 8 (by omega)
          have hd0 : 0 ≤ dt := by omega
          have hd1 : dt ≤ 255 := by omega
          obtain ⟨now2, hnow2⟩ : ∃ now2, now + dt = now2 := ⟨_, rfl⟩
          have hwn : IntKind.i64.wrap (now + dt) = now2 := by rw [IntKind.wrap_i64] <;> omega
          have hm0 : 0 ≤ now2 := by omega
          have hm1 : now2 ≤ 255 * (n + 1) := by omega
          have hm2 : now ≤ now2 := by omega
          clear hd hnum hb
          have EV0 := event_any ⟨kind, who, quo, ct, tk⟩ now2
          obtain ⟨hk, hac1, hac2, hat2, hes⟩ := evN_facts ⟨kind, who, quo, ct, tk⟩ now2
          have hec := ev_contact ⟨kind, who, quo, ct, tk⟩ now2
          generalize evN ⟨kind, who, quo, ct, tk⟩ now2 = ev at EV0 hk hac1 hac2 hat2 hes hec
          have hlv := kr.lv.app (e := ev) (by rw [hat2]; omega) hes
          have hbs : b3 + 1 ≤ wr.heap.size := by have := kr.ar.l3; omega
          have AP : Hid (∀ w2, Below wr.heap.size wr w2 → Calls Tryd.prog 20 #[.slice a L.length c, ev.agg] w2 fun x w' => ∃ a' c', x = .returned (.tuple #[.slice a' (appR L ev).length c', .int .i64 (appE L ev)]) ∧ mowns w' (b3 + 1) (.slice a' (appR L ev).length c') (appR L ev) ∧ Below w2.heap.size w2 w') := Lib.hid (fun w2 b => apply_any (KR1.out.ow.below b) (by omega) (Nat.le_trans hbs b.size) KR1.out.lv.inv.rise ev hes (HM.out.below (KR1.out.bel.trans (b.mono KR1.out.bel.size))))
          obtain ⟨k0, hk0⟩ : ∃ k0 : Nat, ev.acc = k0 := ⟨ev.acc.toNat, by omega⟩
          have hk1 : 1 ≤ k0 := by omega
          have hk2 : k0 ≤ 12 := by omega
          have hk3 : (k0 : Int) < 13 := by omega
          have hk4 : k0 < 13 := by omega
          have hk5 : (0 : Int) ≤ k0 := by omega
          have hr1 : 0 ≤ ev.at_ ∧ ev.at_ ≤ 1000000 := by rw [hat2]; omega
          have hr2 : now ≤ ev.at_ := by rw [hat2]; exact hm2
          have RC := Lib.hid (fun (h0 : appE L ev = 0) (hk : ev.kind = 17) => kr.rr.case kr.lv hr1 hr2 k0 hk0 h0 hk)
          have RV := Lib.hid (fun (h0 : appE L ev = 0) (hk : ev.kind = 18) => kr.rr.vouch kr.lv hr1 hr2 k0 hk0 hk1 hk2 h0 hk hec)
          have RG := Lib.hid (fun (h0 : appE L ev = 0) (hk : ev.kind = 19 ∨ ev.kind = 20) => kr.rr.gone kr.lv hr1 hr2 k0 hk0 h0 hk)
          have RS : Hid (appE L ev ≠ 0 → RR (appR L ev) now2 O T N Y) := Lib.hid (fun h => by rw [appR_same h]; exact KR1.out.rr.later hm2)
          rw [hat2] at RC RV RG
          have HLV := Lib.hid hlv
          have EVL := Lib.hid (fun w3 w2 b => ev_later (w := w3) (w2 := w2) ev b)
          generalize appR L ev = X at *
          obtain ⟨fe, hfe⟩ : ∃ fe, appE L ev = fe := ⟨_, rfl⟩
          rw [hfe] at AP RC RV RG RS
          clear hfe hlv hes hec hr1 hr2 kr
          obtain ⟨kd, ac, pu, t, nu, ea, eb, ec⟩ := ev
          simp only at hk0 hat2
          subst hk0
          subst hat2
          unfold Evn.agg at EV0 AP
          unfold Evn.obj at EVL
          unfold NumV.agg at EV0
          simp only at *
          have EV := Lib.hid EV0
          clear EV0 hac1 hac2
          obtain ⟨z1, z2, z3, z4, z5, z6⟩ := KR1.out.ar.ne
          have WB := Lib.hid KR1.out.bel
          have hb0 := HB0.out
          have g0 : W.heap.size ≤ b0 := by omega
          have g1 : W.heap.size ≤ b1 := by omega
          have g2 : W.heap.size ≤ b2 := by omega
          have g3 : W.heap.size ≤ b3 := by omega
          have G := Lib.hid (And.intro g0 (And.intro g1 (And.intro g2 g3)))
          have HB13 : Hid (b0 < b3 + 1 ∧ b1 < b3 + 1 ∧ b2 < b3 + 1) := Lib.hid (by omega)
          clear hb0 hb1 hb2 hb3 g0 g1 g2 g3
          by_cases hf : fe = 0
          · subst hf
            rcases hk with rfl | rfl | rfl | rfl
            · have R17 := Lib.hid (RC.out rfl rfl)
              clear RC RV RG RS
              go_upto_region 22 with (first
                | (go_at_call 21; (with_reducible refine (EV.out _).mono ?_); rintro e w2 ⟨rfl, bb⟩; have F2 := Lib.hid (bb.trans (((Below.refl _ _).alloc (Nat.le_refl _) (.cells #[.int .i64 17, .int .i64 (k0 : Nat), .int .i64 pu, .int .i64 t, .int .i64 nu, .string ea, .string eb, .string ec] 44)).mono bb.size)); obtain ⟨k0', k1', k2', k3', k4', k5', k6', k7'⟩ := EVL.out w2 _ (Below.refl _ _); have x0 : b0 ≠ w2.heap.size := fun e => (by have := bb.size; have := KR1.out.ar.l0; omega); have x1 : b1 ≠ w2.heap.size := fun e => (by have := bb.size; have := KR1.out.ar.l1; omega); have x2 : b2 ≠ w2.heap.size := fun e => (by have := bb.size; have := KR1.out.ar.l2; omega); have x3 : b3 ≠ w2.heap.size := fun e => (by have := bb.size; have := KR1.out.ar.l3; omega); clear bb)
                | (go_at_call 20; (refine (AP.out _ F2.out).mono ?_); rintro e w3 ⟨a3, c3, rfl, o3, b3'⟩; obtain ⟨k0', k1', k2', k3', k4', k5', k6', k7'⟩ := EVL.out w2 _ b3'; have O3 := Lib.hid o3; have F3 := Lib.hid (F2.out.trans (b3'.mono F2.out.size)); have ar3 := KR1.out.ar.below F3.out; have AR3 := Lib.hid ar3; have p0 := ar3.o k0 hk4; have p1 := ar3.t k0 hk4; have p2 := ar3.n k0 hk4; have p30 := ar3.y k0 0 hk4 (by omega); have p31 := ar3.y k0 1 hk4 (by omega); have p32 := ar3.y k0 2 hk4 (by omega); have p33 := ar3.y k0 3 hk4 (by omega); have p34 := ar3.y k0 4 hk4 (by omega); have p35 := ar3.y k0 5 hk4 (by omega); have p36 := ar3.y k0 6 hk4 (by omega); have p37 := ar3.y k0 7 hk4 (by omega); have pf0 := ar3.f0; have pf1 := ar3.f1; have pf2 := ar3.f2; have pf3 := ar3.f3; clear o3 b3' ar3))
              generalize hw6 : World.setCell (World.setCell (World.setCell w3 _ _) _ _) _ _ = w6
              have E1 : w6.cell? ⟨w2.heap.size, 1, none⟩ = some (.int .i64 (k0 : Nat)) := by rw [← hw6, far_cell _ _ _ _ x2, far_cell _ _ _ _ x1, far_cell _ _ _ _ x0]; exact k1'
              have AR6 : AR4 w6 b0 b1 b2 b3 (upd O k0 true) (upd T k0 t) (upd N k0 pu) Y := by rw [← hw6]; exact (((AR3.out.setO k0 hk4 true).setT k0 hk4 t).setN k0 hk4 pu)
              have TH := Lib.hid (AR6.there k0 hk4)
              have AR7 := Lib.hid (AR6.clr8 k0 hk4)
              have O7 : Hid (mowns (w6.setCells b3 (k0 * 8) (#[.bool false, .bool false, .bool false, .bool false, .bool false, .bool false, .bool false, .bool false] : Array Value).toList) (b3 + 1) (.slice a3 X.length c3) X) := Lib.hid (by rw [← hw6]; exact (((O3.out.set HB13.out.1 _).set HB13.out.2.1 _).set HB13.out.2.2 _).set8 (Nat.lt_succ_self _))
              have B7 : Hid (Below W.heap.size W (w6.setCells b3 (k0 * 8) (#[.bool false, .bool false, .bool false, .bool false, .bool false, .bool false, .bool false, .bool false] : Array Value).toList)) := Lib.hid (by rw [← hw6]; exact below_set8 ((((WB.out.trans (F3.out.mono WB.out.size)).setCell G.out.1 _).setCell G.out.2.1 _).setCell G.out.2.2.1 _) G.out.2.2.2)
              clear p0 p1 p2 p30 p31 p32 p33 p34 p35 p36 p37 pf0 pf1 pf2 pf3 EVL EV AP k0' k1' k2' k3' k4' k5' k6' k7' x0 x1 x2 x3 z1 z2 z3 z4 z5 z6 hw6 c0 c1 c2
              have p30 := AR6.y k0 0 hk4 (by omega)
              have p31 := AR6.y k0 1 hk4 (by omega)
              have p32 := AR6.y k0 2 hk4 (by omega)
              have p33 := AR6.y k0 3 hk4 (by omega)
              have p34 := AR6.y k0 4 hk4 (by omega)
              have p35 := AR6.y k0 5 hk4 (by omega)
              have p36 := AR6.y k0 6 hk4 (by omega)
              have p37 := AR6.y k0 7 hk4 (by omega)
              have pf3 := AR6.f3
              rw [Nat.add_zero] at p30
              clear AR6
              go_wp2_with fail
              go_roundw
              case rel => exact ⟨n + 1, t, X, a3, c3, _, _, _, _, by omega, by omega, by go_num, rfl, hm0, by omega, rfl, ⟨by have h := AR7.out; rw [set8] at h; exact h, by have h := O7.out; rw [Go.Proofs.YtcidllckmidkoaaDoor.set8] at h; exact h, by have h := B7.out; rw [set8] at h; exact h, R17.out, HLV.out⟩⟩
              case measure => first | (simp only [intOf]; omega) | (simp [intOf]; omega)
            · have R18 := Lib.hid (RV.out rfl rfl)
              clear RC RV RG RS
              go_upto_region 24 with (first
                | (go_at_call 21; (with_reducible refine (EV.out _).mono ?_); rintro e w2 ⟨rfl, bb⟩; have F2 := Lib.hid (bb.trans (((Below.refl _ _).alloc (Nat.le_refl _) (.cells #[.int .i64 18, .int .i64 (k0 : Nat), .int .i64 pu, .int .i64 t, .int .i64 nu, .string ea, .string eb, .string ec] 44)).mono bb.size)); obtain ⟨k0', k1', k2', k3', k4', k5', k6', k7'⟩ := EVL.out w2 _ (Below.refl _ _); have x0 : b0 ≠ w2.heap.size := fun e => (by have := bb.size; have := KR1.out.ar.l0; omega); have x1 : b1 ≠ w2.heap.size := fun e => (by have := bb.size; have := KR1.out.ar.l1; omega); have x2 : b2 ≠ w2.heap.size := fun e => (by have := bb.size; have := KR1.out.ar.l2; omega); have x3 : b3 ≠ w2.heap.size := fun e => (by have := bb.size; have := KR1.out.ar.l3; omega); clear bb)
                | (go_at_call 20; (refine (AP.out _ F2.out).mono ?_); rintro e w3 ⟨a3, c3, rfl, o3, b3'⟩; obtain ⟨k0', k1', k2', k3', k4', k5', k6', k7'⟩ := EVL.out w2 _ b3'; have O3 := Lib.hid o3; have F3 := Lib.hid (F2.out.trans (b3'.mono F2.out.size)); have ar3 := KR1.out.ar.below F3.out; have AR3 := Lib.hid ar3; have p0 := ar3.o k0 hk4; have p1 := ar3.t k0 hk4; have p2 := ar3.n k0 hk4; have p30 := ar3.y k0 0 hk4 (by omega); have p31 := ar3.y k0 1 hk4 (by omega); have p32 := ar3.y k0 2 hk4 (by omega); have p33 := ar3.y k0 3 hk4 (by omega); have p34 := ar3.y k0 4 hk4 (by omega); have p35 := ar3.y k0 5 hk4 (by omega); have p36 := ar3.y k0 6 hk4 (by omega); have p37 := ar3.y k0 7 hk4 (by omega); have pf0 := ar3.f0; have pf1 := ar3.f1; have pf2 := ar3.f2; have pf3 := ar3.f3; clear o3 b3' ar3))
              obtain ⟨j, hj, hea, rr⟩ := R18.out
              have RR18 := Lib.hid rr
              have p3j := AR3.out.y k0 j hk4 hj
              subst hea
              have AJ := Lib.hid (AR3.out.setY k0 j hk4 hj true)
              clear p0 p1 p2 p30 p31 p32 p33 p34 p35 p36 p37 pf0 pf1 pf2 EVL EV AP k0' k2' k3' k4' k6' k7' x0 x1 x2 x3 z1 z2 z3 z4 z5 z6 c0 c1 c2 R18 rr
              have cj : j = 0 ∨ j = 1 ∨ j = 2 ∨ j = 3 ∨ j = 4 ∨ j = 5 ∨ j = 6 ∨ j = 7 := by omega
              rcases cj with rfl | rfl | rfl | rfl | rfl | rfl | rfl | rfl
              · rw [show nm 0 = ⟨#[97, 64, 98, 46, 99, 100]⟩ from rfl] at k5'
                rw [Nat.add_zero] at p3j
                rw [Nat.add_zero] at AJ
                have hby : (⟨#[97, 64, 98, 46, 99, 100]⟩ : ByteArray)[0].toNat = 97 := rfl
                go_region
                go_wp2_with fail
                go_roundw
                case rel => exact ⟨n + 1, t, X, a3, c3, _, _, _, _, by omega, by omega, by go_num, rfl, hm0, by omega, rfl, ⟨AJ.out.below (below_drew (Below.refl _ _)), (O3.out.set (Nat.lt_succ_self _) _).below (below_drew (Below.refl _ _)), below_drew ((WB.out.trans (F3.out.mono WB.out.size)).setCell G.out.2.2.2 _), RR18.out, HLV.out⟩⟩
                case measure => first | (simp only [intOf]; omega) | (simp [intOf]; omega)
              · rw [show nm 1 = ⟨#[98, 64, 98, 46, 99, 100]⟩ from rfl] at k5'
                have hby : (⟨#[98, 64, 98, 46, 99, 100]⟩ : ByteArray)[0].toNat = 98 := rfl
                go_region
                go_wp2_with fail
                go_roundw
                case rel => exact ⟨n + 1, t, X, a3, c3, _, _, _, _, by omega, by omega, by go_num, rfl, hm0, by omega, rfl, ⟨AJ.out.below (below_drew (Below.refl _ _)), (O3.out.set (Nat.lt_succ_self _) _).below (below_drew (Below.refl _ _)), below_drew ((WB.out.trans (F3.out.mono WB.out.size)).setCell G.out.2.2.2 _), RR18.out, HLV.out⟩⟩
                case measure => first | (simp only [intOf]; omega) | (simp [intOf]; omega)
              · rw [show nm 2 = ⟨#[99, 64, 98, 46, 99, 100]⟩ from rfl] at k5'
                have hby : (⟨#[99, 64, 98, 46, 99, 100]⟩ : ByteArray)[0].toNat = 99 := rfl
                go_region
                go_wp2_with fail
                go_roundw
                case rel => exact ⟨n + 1, t, X, a3, c3, _, _, _, _, by omega, by omega, by go_num, rfl, hm0, by omega, rfl, ⟨AJ.out.below (below_drew (Below.refl _ _)), (O3.out.set (Nat.lt_succ_self _) _).below (below_drew (Below.refl _ _)), below_drew ((WB.out.trans (F3.out.mono WB.out.size)).setCell G.out.2.2.2 _), RR18.out, HLV.out⟩⟩
                case measure => first | (simp only [intOf]; omega) | (simp [intOf]; omega)
              · rw [show nm 3 = ⟨#[100, 64, 98, 46, 99, 100]⟩ from rfl] at k5'
                have hby : (⟨#[100, 64, 98, 46, 99, 100]⟩ : ByteArray)[0].toNat = 100 := rfl
                go_region
                go_wp2_with fail
                go_roundw
                case rel => exact ⟨n + 1, t, X, a3, c3, _, _, _, _, by omega, by omega, by go_num, rfl, hm0, by omega, rfl, ⟨AJ.out.below (below_drew (Below.refl _ _)), (O3.out.set (Nat.lt_succ_self _) _).below (below_drew (Below.refl _ _)), below_drew ((WB.out.trans (F3.out.mono WB.out.size)).setCell G.out.2.2.2 _), RR18.out, HLV.out⟩⟩
                case measure => first | (simp only [intOf]; omega) | (simp [intOf]; omega)
              · rw [show nm 4 = ⟨#[101, 64, 98, 46, 99, 100]⟩ from rfl] at k5'
                have hby : (⟨#[101, 64, 98, 46, 99, 100]⟩ : ByteArray)[0].toNat = 101 := rfl
                go_region
                go_wp2_with fail
                go_roundw
                case rel => exact ⟨n + 1, t, X, a3, c3, _, _, _, _, by omega, by omega, by go_num, rfl, hm0, by omega, rfl, ⟨AJ.out.below (below_drew (Below.refl _ _)), (O3.out.set (Nat.lt_succ_self _) _).below (below_drew (Below.refl _ _)), below_drew ((WB.out.trans (F3.out.mono WB.out.size)).setCell G.out.2.2.2 _), RR18.out, HLV.out⟩⟩
                case measure => first | (simp only [intOf]; omega) | (simp [intOf]; omega)
              · rw [show nm 5 = ⟨#[102, 64, 98, 46, 99, 100]⟩ from rfl] at k5'
                have hby : (⟨#[102, 64, 98, 46, 99, 100]⟩ : ByteArray)[0].toNat = 102 := rfl
                go_region
                go_wp2_with fail
                go_roundw
                case rel => exact ⟨n + 1, t, X, a3, c3, _, _, _, _, by omega, by omega, by go_num, rfl, hm0, by omega, rfl, ⟨AJ.out.below (below_drew (Below.refl _ _)), (O3.out.set (Nat.lt_succ_self _) _).below (below_drew (Below.refl _ _)), below_drew ((WB.out.trans (F3.out.mono WB.out.size)).setCell G.out.2.2.2 _), RR18.out, HLV.out⟩⟩
                case measure => first | (simp only [intOf]; omega) | (simp [intOf]; omega)
              · rw [show nm 6 = ⟨#[103, 64, 98, 46, 99, 100]⟩ from rfl] at k5'
                have hby : (⟨#[103, 64, 98, 46, 99, 100]⟩ : ByteArray)[0].toNat = 103 := rfl
                go_region
                go_wp2_with fail
                go_roundw
                case rel => exact ⟨n + 1, t, X, a3, c3, _, _, _, _, by omega, by omega, by go_num, rfl, hm0, by omega, rfl, ⟨AJ.out.below (below_drew (Below.refl _ _)), (O3.out.set (Nat.lt_succ_self _) _).below (below_drew (Below.refl _ _)), below_drew ((WB.out.trans (F3.out.mono WB.out.size)).setCell G.out.2.2.2 _), RR18.out, HLV.out⟩⟩
                case measure => first | (simp only [intOf]; omega) | (simp [intOf]; omega)
              · rw [show nm 7 = ⟨#[104, 64, 98, 46, 99, 100]⟩ from rfl] at k5'
                have hby : (⟨#[104, 64, 98, 46, 99, 100]⟩ : ByteArray)[0].toNat = 104 := rfl
                go_region
                go_wp2_with fail
                go_roundw
                case rel => exact ⟨n + 1, t, X, a3, c3, _, _, _, _, by omega, by omega, by go_num, rfl, hm0, by omega, rfl, ⟨AJ.out.below (below_drew (Below.refl _ _)), (O3.out.set (Nat.lt_succ_self _) _).below (below_drew (Below.refl _ _)), below_drew ((WB.out.trans (F3.out.mono WB.out.size)).setCell G.out.2.2.2 _), RR18.out, HLV.out⟩⟩
                case measure => first | (simp only [intOf]; omega) | (simp [intOf]; omega)
            · have R19 := Lib.hid (RG.out rfl (.inl rfl))
              clear RC RV RG RS
              go_wp2_with (first
                | (go_at_call 21; (with_reducible refine (EV.out _).mono ?_); rintro e w2 ⟨rfl, bb⟩; have F2 := Lib.hid (bb.trans (((Below.refl _ _).alloc (Nat.le_refl _) (.cells #[.int .i64 19, .int .i64 (k0 : Nat), .int .i64 pu, .int .i64 t, .int .i64 nu, .string ea, .string eb, .string ec] 44)).mono bb.size)); obtain ⟨k0', k1', k2', k3', k4', k5', k6', k7'⟩ := EVL.out w2 _ (Below.refl _ _); have x0 : b0 ≠ w2.heap.size := fun e => (by have := bb.size; have := KR1.out.ar.l0; omega); have x1 : b1 ≠ w2.heap.size := fun e => (by have := bb.size; have := KR1.out.ar.l1; omega); have x2 : b2 ≠ w2.heap.size := fun e => (by have := bb.size; have := KR1.out.ar.l2; omega); have x3 : b3 ≠ w2.heap.size := fun e => (by have := bb.size; have := KR1.out.ar.l3; omega); clear bb)
                | (go_at_call 20; (refine (AP.out _ F2.out).mono ?_); rintro e w3 ⟨a3, c3, rfl, o3, b3'⟩; obtain ⟨k0', k1', k2', k3', k4', k5', k6', k7'⟩ := EVL.out w2 _ b3'; have O3 := Lib.hid o3; have F3 := Lib.hid (F2.out.trans (b3'.mono F2.out.size)); have ar3 := KR1.out.ar.below F3.out; have AR3 := Lib.hid ar3; have p0 := ar3.o k0 hk4; have p1 := ar3.t k0 hk4; have p2 := ar3.n k0 hk4; have p30 := ar3.y k0 0 hk4 (by omega); have p31 := ar3.y k0 1 hk4 (by omega); have p32 := ar3.y k0 2 hk4 (by omega); have p33 := ar3.y k0 3 hk4 (by omega); have p34 := ar3.y k0 4 hk4 (by omega); have p35 := ar3.y k0 5 hk4 (by omega); have p36 := ar3.y k0 6 hk4 (by omega); have p37 := ar3.y k0 7 hk4 (by omega); have pf0 := ar3.f0; have pf1 := ar3.f1; have pf2 := ar3.f2; have pf3 := ar3.f3; clear o3 b3' ar3))
              go_roundw
              case rel => exact ⟨n + 1, t, X, a3, c3, _, _, _, _, by omega, by omega, by go_num, rfl, hm0, by omega, rfl, ⟨AR3.out.setO k0 hk4 false, O3.out.set HB13.out.1 _, (WB.out.trans (F3.out.mono WB.out.size)).setCell G.out.1 _, R19.out, HLV.out⟩⟩
              case measure => first | (simp only [intOf]; omega) | (simp [intOf]; omega)
            · have R19 := Lib.hid (RG.out rfl (.inr rfl))
              clear RC RV RG RS
              go_wp2_with (first
                | (go_at_call 21; (with_reducible refine (EV.out _).mono ?_); rintro e w2 ⟨rfl, bb⟩; have F2 := Lib.hid (bb.trans (((Below.refl _ _).alloc (Nat.le_refl _) (.cells #[.int .i64 20, .int .i64 (k0 : Nat), .int .i64 pu, .int .i64 t, .int .i64 nu, .string ea, .string eb, .string ec] 44)).mono bb.size)); obtain ⟨k0', k1', k2', k3', k4', k5', k6', k7'⟩ := EVL.out w2 _ (Below.refl _ _); have x0 : b0 ≠ w2.heap.size := fun e => (by have := bb.size; have := KR1.out.ar.l0; omega); have x1 : b1 ≠ w2.heap.size := fun e => (by have := bb.size; have := KR1.out.ar.l1; omega); have x2 : b2 ≠ w2.heap.size := fun e => (by have := bb.size; have := KR1.out.ar.l2; omega); have x3 : b3 ≠ w2.heap.size := fun e => (by have := bb.size; have := KR1.out.ar.l3; omega); clear bb)
                | (go_at_call 20; (refine (AP.out _ F2.out).mono ?_); rintro e w3 ⟨a3, c3, rfl, o3, b3'⟩; obtain ⟨k0', k1', k2', k3', k4', k5', k6', k7'⟩ := EVL.out w2 _ b3'; have O3 := Lib.hid o3; have F3 := Lib.hid (F2.out.trans (b3'.mono F2.out.size)); have ar3 := KR1.out.ar.below F3.out; have AR3 := Lib.hid ar3; have p0 := ar3.o k0 hk4; have p1 := ar3.t k0 hk4; have p2 := ar3.n k0 hk4; have p30 := ar3.y k0 0 hk4 (by omega); have p31 := ar3.y k0 1 hk4 (by omega); have p32 := ar3.y k0 2 hk4 (by omega); have p33 := ar3.y k0 3 hk4 (by omega); have p34 := ar3.y k0 4 hk4 (by omega); have p35 := ar3.y k0 5 hk4 (by omega); have p36 := ar3.y k0 6 hk4 (by omega); have p37 := ar3.y k0 7 hk4 (by omega); have pf0 := ar3.f0; have pf1 := ar3.f1; have pf2 := ar3.f2; have pf3 := ar3.f3; clear o3 b3' ar3))
              go_roundw
              case rel => exact ⟨n + 1, t, X, a3, c3, _, _, _, _, by omega, by omega, by go_num, rfl, hm0, by omega, rfl, ⟨AR3.out.setO k0 hk4 false, O3.out.set HB13.out.1 _, (WB.out.trans (F3.out.mono WB.out.size)).setCell G.out.1 _, R19.out, HLV.out⟩⟩
              case measure => first | (simp only [intOf]; omega) | (simp [intOf]; omega)
          · have R0 := Lib.hid (RS.out hf)
            have hf1 : (fe == 0) = false := beq_eq_false_iff_ne.2 hf
            clear RC RV RG RS
            go_wp2_with (first
              | (go_at_call 21; (with_reducible refine (EV.out _).mono ?_); rintro e w2 ⟨rfl, bb⟩; have F2 := Lib.hid (bb.trans (((Below.refl _ _).alloc (Nat.le_refl _) (.cells #[.int .i64 kd, .int .i64 (k0 : Nat), .int .i64 pu, .int .i64 t, .int .i64 nu, .string ea, .string eb, .string ec] 44)).mono bb.size)); obtain ⟨k0', k1', k2', k3', k4', k5', k6', k7'⟩ := EVL.out w2 _ (Below.refl _ _); have x0 : b0 ≠ w2.heap.size := fun e => (by have := bb.size; have := KR1.out.ar.l0; omega); have x1 : b1 ≠ w2.heap.size := fun e => (by have := bb.size; have := KR1.out.ar.l1; omega); have x2 : b2 ≠ w2.heap.size := fun e => (by have := bb.size; have := KR1.out.ar.l2; omega); have x3 : b3 ≠ w2.heap.size := fun e => (by have := bb.size; have := KR1.out.ar.l3; omega); clear bb)
              | (go_at_call 20; (refine (AP.out _ F2.out).mono ?_); rintro e w3 ⟨a3, c3, rfl, o3, b3'⟩; obtain ⟨k0', k1', k2', k3', k4', k5', k6', k7'⟩ := EVL.out w2 _ b3'; have O3 := Lib.hid o3; have F3 := Lib.hid (F2.out.trans (b3'.mono F2.out.size)); have ar3 := KR1.out.ar.below F3.out; have AR3 := Lib.hid ar3; have p0 := ar3.o k0 hk4; have p1 := ar3.t k0 hk4; have p2 := ar3.n k0 hk4; have p30 := ar3.y k0 0 hk4 (by omega); have p31 := ar3.y k0 1 hk4 (by omega); have p32 := ar3.y k0 2 hk4 (by omega); have p33 := ar3.y k0 3 hk4 (by omega); have p34 := ar3.y k0 4 hk4 (by omega); have p35 := ar3.y k0 5 hk4 (by omega); have p36 := ar3.y k0 6 hk4 (by omega); have p37 := ar3.y k0 7 hk4 (by omega); have pf0 := ar3.f0; have pf1 := ar3.f1; have pf2 := ar3.f2; have pf3 := ar3.f3; clear o3 b3' ar3))
            go_roundw
            case rel => exact ⟨n + 1, t, X, a3, c3, O, T, N, Y, by omega, by omega, by go_num, rfl, hm0, by omega, rfl, ⟨AR3.out, O3.out, WB.out.trans (F3.out.mono WB.out.size), R0.out, HLV.out⟩⟩
            case measure => first | (simp only [intOf]; omega) | (simp [intOf]; omega)
        · have hB' : ¬ (n : Int) < 60 := by omega
          have hA' : (n : Int) < len := by omega
          clear kr
          go_wp2_with fail
          go_meet
          case rel => exact ⟨now, L, a, c, O, T, N, Y, rfl, rfl, hn0, by omega, KR1.out⟩
      · have hA' : ¬ (n : Int) < len := by omega
        clear kr
        go_wp2_with fail
        go_meet
        case rel => exact ⟨now, L, a, c, O, T, N, Y, rfl, rfl, hn0, by omega, KR1.out⟩
  case rest =>
    obtain ⟨now, L, a, c, O, T, N, Y, rfl, rfl, hn0, hn1, kr⟩ := hcut
    have hL8 := kr.lv.inv.few
    clear K0 SL
    obtain ⟨t, ht⟩ : ∃ t, now + dL = t := ⟨_, rfl⟩
    have hwt : IntKind.i64.wrap (now + dL) = t := by rw [IntKind.wrap_i64] <;> omega
    have RI : Hid (∀ w2, Below wc.heap.size wc w2 → ∀ k : Nat, 1 ≤ k → k ≤ 12 → Calls Tryd.prog 22 #[.slice a L.length c, .int .i64 (k : Nat), .int .i64 t] w2 fun e w' => e = .returned (.bool (O k && decide (T k + 200 ≤ t) && decide (t < T k + 2000) && decide (N k ≤ (cntY (Y k) 8 : Nat)))) ∧ Below w2.heap.size w2 w') := Lib.hid (fun w2 b k h1 h2 => by
      rw [← kr.rr.ripe kr.lv (by omega) (by omega) k h1 h2]
      exact ripe_any (kr.ow.below b) (by omega) kr.lv.inv.rise k t)
    have CK : Hid (∀ w2, Below wc.heap.size wc w2 → Calls Tryd.prog 16 #[.slice a L.length c] w2 fun e w' => e = .returned (.bool true) ∧ Below w2.heap.size w2 w') := Lib.hid (fun w2 b => by
      have h := ccheck_any (kr.ow.below b) (by omega) kr.lv.sm (HM.out.below (kr.bel.trans (b.mono kr.bel.size)))
      rwa [kr.lv.inv.chk] at h)
    have ARF := Lib.hid (fun w2 (b : Below wc.heap.size wc w2) => kr.ar.below b)
    have RNG := Lib.hid kr.rr.rng
    have WB := Lib.hid kr.bel
    clear kr ht
    go_wp2_with fail
    go_loopw [17] (fun x wr => ∃ k : Nat, 1 ≤ k ∧ k ≤ 13 ∧ x = .int .i64 k ∧ Below wc.heap.size wc wr) (fun x _ => 13 - (intOf x).toNat)
    case atStart => exact ⟨1, by omega, by omega, rfl, Below.refl _ _⟩
    case round =>
      obtain ⟨k, hk1, hk13, rfl, hb⟩ := hrel
      have HBR := Lib.hid hb
      by_cases hk : k < 13
      · have hk' : (k : Int) < 13 := by omega
        have hk0 : (0 : Int) ≤ k := by omega
        have AR := Lib.hid (ARF.out _ hb)
        have RK1 : Hid (∀ w2, Below wr.heap.size wr w2 → Calls Tryd.prog 22 #[.slice a L.length c, .int .i64 (k : Nat), .int .i64 t] w2 fun e w' => e = .returned (.bool (O k && decide (T k + 200 ≤ t) && decide (t < T k + 2000) && decide (N k ≤ (cntY (Y k) 8 : Nat)))) ∧ Below w2.heap.size w2 w') := Lib.hid (fun w2 b => RI.out w2 (HBR.out.trans (b.mono HBR.out.size)) k hk1 (by omega))
        clear hb
        go_wp2_with fail
        go_loop [18, 19] (fun n j => ∃ jn : Nat, jn ≤ 8 ∧ j = .int .i64 jn ∧ n = .int .i64 (cntY (Y k) jn : Nat)) (fun _ j => 8 - (intOf j).toNat)
        case atStart => exact ⟨0, by omega, rfl, rfl⟩
        case round =>
          obtain ⟨jn, hj8, rfl, rfl⟩ := hrel
          by_cases hj : jn < 8
          · have hj' : (jn : Int) < 8 := by omega
            have hj0 : (0 : Int) ≤ jn := by omega
            have py := AR.out.y k jn hk hj
            obtain ⟨cn, hcn⟩ : ∃ cn, cntY (Y k) jn = cn := ⟨_, rfl⟩
            have hcl : cn ≤ jn := by
              rw [← hcn]
              exact cntY_le _ _
            cases hy : Y k jn
            · have HC : Hid (cntY (Y k) (jn + 1) = cn) := Lib.hid (by rw [cntY, hy, hcn]; rfl)
              rw [hy] at py
              rw [hcn]
              clear hcn hy
              go_wp2_with fail
              go_round
              case rel => exact ⟨jn + 1, by omega, by go_num, by rw [HC.out]⟩
              case measure => simp [intOf]; omega
            · have HC : Hid (cntY (Y k) (jn + 1) = cn + 1) := Lib.hid (by rw [cntY, hy, hcn]; rfl)
              rw [hy] at py
              rw [hcn]
              clear hcn hy
              go_wp2_with fail
              go_round
              case rel => exact ⟨jn + 1, by omega, by go_num, by rw [HC.out]; go_num⟩
              case measure => simp [intOf]; omega
          · have hj' : ¬ (jn : Int) < 8 := by omega
            obtain rfl : jn = 8 := by omega
            obtain ⟨cn, hcn⟩ : ∃ cn, cntY (Y k) 8 = cn := ⟨_, rfl⟩
            rw [hcn] at RK1
            rw [hcn]
            have p0 := AR.out.o k hk
            have p1 := AR.out.t k hk
            have p2 := AR.out.n k hk
            have hrg := RNG.out k
            have u1 : IntKind.i64.wrap (T k + 200) = T k + 200 := by rw [IntKind.wrap_i64] <;> omega
            have u2 : IntKind.i64.wrap (T k + 2000) = T k + 2000 := by rw [IntKind.wrap_i64] <;> omega
            have fr0 : b0 < wr.heap.size := AR.out.l0
            have fr1 : b1 < wr.heap.size := AR.out.l1
            have fr2 : b2 < wr.heap.size := AR.out.l2
            have P3 : Hid (∀ w2, Below wr.heap.size wr w2 → w2.cell? ⟨b0, k, none⟩ = some (.bool (O k)) ∧ w2.cell? ⟨b1, k, none⟩ = some (.int .i64 (T k)) ∧ w2.cell? ⟨b2, k, none⟩ = some (.int .i64 (N k))) := Lib.hid (fun w2 b => ⟨(b.cell (p := ⟨b0, k, none⟩) fr0).trans p0, (b.cell (p := ⟨b1, k, none⟩) fr1).trans p1, (b.cell (p := ⟨b2, k, none⟩) fr2).trans p2⟩)
            generalize O k = ok at *
            generalize T k = tk at *
            generalize N k = nk at *
            clear hcn AR fr0 fr1 fr2
            go_wp2_with fail
            cases ok
            · skip
              have RX : Hid (∀ w2, Below wr.heap.size wr w2 → Calls Tryd.prog 22 #[.slice a L.length c, .int .i64 (k : Nat), .int .i64 t] w2 fun e w' => e = .returned (.bool false) ∧ Below w2.heap.size w2 w') := Lib.hid (fun w2 b => by
                have h := RK1.out w2 b
                simp only [Bool.false_and] at h
                exact h)
              clear RK1
              refine wp_region_held_drew (S := fun w' => w'.cell? ⟨b0, k, none⟩ = some (.bool false) ∧ w'.cell? ⟨b1, k, none⟩ = some (.int .i64 tk) ∧ w'.cell? ⟨b2, k, none⟩ = some (.int .i64 nk)) (by kernel_rfl) ?_ (fun hHeld => ?_)
              · exact P3.out _ (below_drew (Below.refl _ _))
              refine wpAnyH_take (i := 0) (v := ?_) rfl (by kernel_rfl) (by kernel_rfl) (by kernel_rfl) (fun _ _ _ h => h) (Or.inl ⟨by rfl, ?_⟩) (by assumption) ?_
              rotate_left
              · intro w hSw; (try dsimp only at hSw); go_simp; (try with_reducible rfl)
              simp only [List.getElem_toArray, List.getElem_cons_zero, Act.put, List.setIfInBounds_toArray, List.set_cons_zero, List.set_cons_succ]
              refine wpAnyH_take (i := 1) (v := ?_) rfl (by kernel_rfl) (by kernel_rfl) (by kernel_rfl) (fun _ _ _ h => h) (Or.inl ⟨by rfl, ?_⟩) (by assumption) ?_
              rotate_left
              · intro w hSw; (try dsimp only at hSw); go_simp; (try with_reducible rfl)
              simp only [List.getElem_toArray, List.getElem_cons_succ, List.getElem_cons_zero, Act.put, List.setIfInBounds_toArray, List.set_cons_zero, List.set_cons_succ]
              refine wpAnyH_take (i := 2) (v := ?_) rfl (by kernel_rfl) (by kernel_rfl) (by kernel_rfl) (fun _ _ _ h => h) (Or.inl ⟨by rfl, ?_⟩) (by assumption) ?_
              rotate_left
              · intro w hSw; (try dsimp only at hSw); go_simp; (try with_reducible rfl)
              simp only [List.getElem_toArray, List.getElem_cons_succ, List.getElem_cons_zero, Act.put, List.setIfInBounds_toArray, List.set_cons_zero, List.set_cons_succ]
              refine wpAnyH_take (i := 4) (v := ?_) rfl (by kernel_rfl) (by kernel_rfl) (by kernel_rfl) (fun _ _ _ h => h) (Or.inl ⟨by rfl, ?_⟩) (by assumption) ?_
              rotate_left
              · intro w hSw; (try dsimp only at hSw); go_simp; (try with_reducible rfl)
              simp only [List.getElem_toArray, List.getElem_cons_succ, List.getElem_cons_zero, Act.put, List.setIfInBounds_toArray, List.set_cons_zero, List.set_cons_succ]
              refine wpAnyH_take (i := 5) (v := ?_) rfl (by kernel_rfl) (by kernel_rfl) (by kernel_rfl) (fun _ _ _ h => h) (Or.inl ⟨by rfl, ?_⟩) (by assumption) ?_
              rotate_left
              · intro w hSw; (try dsimp only at hSw); go_simp; (try with_reducible rfl)
              simp only [List.getElem_toArray, List.getElem_cons_succ, List.getElem_cons_zero, Act.put, List.setIfInBounds_toArray, List.set_cons_zero, List.set_cons_succ]
              refine wpAnyH_take (i := 6) (v := ?_) rfl (by kernel_rfl) (by kernel_rfl) (by kernel_rfl) (fun _ _ _ h => h) (Or.inl ⟨by rfl, ?_⟩) (by assumption) ?_
              rotate_left
              · intro w hSw; (try dsimp only at hSw); go_simp; (try with_reducible rfl)
              simp only [List.getElem_toArray, List.getElem_cons_succ, List.getElem_cons_zero, Act.put, List.setIfInBounds_toArray, List.set_cons_zero, List.set_cons_succ]
              refine wpAnyH_ready (rs := [3]) (by kernel_rfl) (by simp) ?_
              refine AllReadyH.cons rfl (fun K hK => ?_) AllReadyH.nil
              go_simp
              (go_at_call 22; (refine (RX.out _ (below_drew (Below.refl _ _))).mono ?_); rintro e w3 ⟨rfl, b3⟩; obtain ⟨q0, q1, q2⟩ := P3.out w3 ((below_drew (Below.refl _ _)).trans b3))
              refine hK.out _ _ ?_ (fun hHeld2 => ?_)
              · exact ⟨q0, q1, q2⟩
              clear hK K hHeld
              try simp only [List.getElem_toArray, List.getElem_cons_succ, List.getElem_cons_zero, Act.put, List.setIfInBounds_toArray, List.set_cons_zero, List.set_cons_succ]
              refine wpAnyH_take (i := 7) (v := ?_) rfl (by kernel_rfl) (by kernel_rfl) (by kernel_rfl) (fun _ _ _ h => h) (Or.inl ⟨by rfl, ?_⟩) (by assumption) ?_
              rotate_left
              · intro w hSw; (try dsimp only at hSw); go_simp; (try with_reducible rfl)
              simp only [List.getElem_toArray, List.getElem_cons_succ, List.getElem_cons_zero, Act.put, List.setIfInBounds_toArray, List.set_cons_zero, List.set_cons_succ]
              refine wpAnyH_take (i := 8) (v := undef) rfl (by kernel_rfl) (by kernel_rfl) (by kernel_rfl) (fun _ _ _ h => h) (Or.inr ⟨by rfl, rfl⟩) (by assumption) ?_
              simp only [List.getElem_toArray, List.getElem_cons_succ, List.getElem_cons_zero, Act.put, List.setIfInBounds_toArray, List.set_cons_zero, List.set_cons_succ]
              refine wpAnyH_take (i := 9) (v := undef) rfl (by kernel_rfl) (by kernel_rfl) (by kernel_rfl) (fun _ _ _ h => h) (Or.inr ⟨by rfl, rfl⟩) (by assumption) ?_
              simp only [List.getElem_toArray, List.getElem_cons_succ, List.getElem_cons_zero, Act.put, List.setIfInBounds_toArray, List.set_cons_zero, List.set_cons_succ]
              refine wpAnyH_take (i := 10) (v := undef) rfl (by kernel_rfl) (by kernel_rfl) (by kernel_rfl) (fun _ _ _ h => h) (Or.inr ⟨by rfl, rfl⟩) (by assumption) ?_
              simp only [List.getElem_toArray, List.getElem_cons_succ, List.getElem_cons_zero, Act.put, List.setIfInBounds_toArray, List.set_cons_zero, List.set_cons_succ]
              refine wpAnyH_take (i := 11) (v := undef) rfl (by kernel_rfl) (by kernel_rfl) (by kernel_rfl) (fun _ _ _ h => h) (Or.inr ⟨by rfl, rfl⟩) (by assumption) ?_
              simp only [List.getElem_toArray, List.getElem_cons_succ, List.getElem_cons_zero, Act.put, List.setIfInBounds_toArray, List.set_cons_zero, List.set_cons_succ]
              refine wpAnyH_take (i := 12) (v := undef) rfl (by kernel_rfl) (by kernel_rfl) (by kernel_rfl) (fun _ _ _ h => h) (Or.inr ⟨by rfl, rfl⟩) (by assumption) ?_
              simp only [List.getElem_toArray, List.getElem_cons_succ, List.getElem_cons_zero, Act.put, List.setIfInBounds_toArray, List.set_cons_zero, List.set_cons_succ]
              refine wpAnyH_take (i := 13) (v := undef) rfl (by kernel_rfl) (by kernel_rfl) (by kernel_rfl) (fun _ _ _ h => h) (Or.inr ⟨by rfl, rfl⟩) (by assumption) ?_
              simp only [List.getElem_toArray, List.getElem_cons_succ, List.getElem_cons_zero, Act.put, List.setIfInBounds_toArray, List.set_cons_zero, List.set_cons_succ]
              refine wpAnyH_take (i := 14) (v := ?_) rfl (by kernel_rfl) (by kernel_rfl) (by kernel_rfl) (fun _ _ _ h => h) (Or.inl ⟨by rfl, ?_⟩) (by assumption) ?_
              rotate_left
              · intro w hSw; (try dsimp only at hSw); go_simp; (try with_reducible rfl)
              simp only [List.getElem_toArray, List.getElem_cons_succ, List.getElem_cons_zero, Act.put, List.setIfInBounds_toArray, List.set_cons_zero, List.set_cons_succ]
              refine wpAnyH_take (i := 15) (v := ?_) rfl (by kernel_rfl) (by kernel_rfl) (by kernel_rfl) (fun _ _ _ h => h) (Or.inl ⟨by rfl, ?_⟩) (by assumption) ?_
              rotate_left
              · intro w hSw; (try dsimp only at hSw); go_simp; (try with_reducible rfl)
              simp only [List.getElem_toArray, List.getElem_cons_succ, List.getElem_cons_zero, Act.put, List.setIfInBounds_toArray, List.set_cons_zero, List.set_cons_succ]
              refine wpAnyH_take (i := 16) (v := undef) rfl (by kernel_rfl) (by kernel_rfl) (by kernel_rfl) (fun _ _ _ h => h) (Or.inr ⟨by rfl, rfl⟩) (by assumption) ?_
              simp only [List.getElem_toArray, List.getElem_cons_succ, List.getElem_cons_zero, Act.put, List.setIfInBounds_toArray, List.set_cons_zero, List.set_cons_succ]
              refine wpAnyH_take (i := 17) (v := undef) rfl (by kernel_rfl) (by kernel_rfl) (by kernel_rfl) (fun _ _ _ h => h) (Or.inr ⟨by rfl, rfl⟩) (by assumption) ?_
              simp only [List.getElem_toArray, List.getElem_cons_succ, List.getElem_cons_zero, Act.put, List.setIfInBounds_toArray, List.set_cons_zero, List.set_cons_succ]
              refine wpAnyH_take (i := 18) (v := undef) rfl (by kernel_rfl) (by kernel_rfl) (by kernel_rfl) (fun _ _ _ h => h) (Or.inr ⟨by rfl, rfl⟩) (by assumption) ?_
              simp only [List.getElem_toArray, List.getElem_cons_succ, List.getElem_cons_zero, Act.put, List.setIfInBounds_toArray, List.set_cons_zero, List.set_cons_succ]
              refine wpAnyH_take (i := 19) (v := undef) rfl (by kernel_rfl) (by kernel_rfl) (by kernel_rfl) (fun _ _ _ h => h) (Or.inr ⟨by rfl, rfl⟩) (by assumption) ?_
              simp only [List.getElem_toArray, List.getElem_cons_succ, List.getElem_cons_zero, Act.put, List.setIfInBounds_toArray, List.set_cons_zero, List.set_cons_succ]
              refine wpAnyH_take (i := 20) (v := undef) rfl (by kernel_rfl) (by kernel_rfl) (by kernel_rfl) (fun _ _ _ h => h) (Or.inr ⟨by rfl, rfl⟩) (by assumption) ?_
              simp only [List.getElem_toArray, List.getElem_cons_succ, List.getElem_cons_zero, Act.put, List.setIfInBounds_toArray, List.set_cons_zero, List.set_cons_succ]
              refine wpAnyH_take (i := 21) (v := undef) rfl (by kernel_rfl) (by kernel_rfl) (by kernel_rfl) (fun _ _ _ h => h) (Or.inr ⟨by rfl, rfl⟩) (by assumption) ?_
              simp only [List.getElem_toArray, List.getElem_cons_succ, List.getElem_cons_zero, Act.put, List.setIfInBounds_toArray, List.set_cons_zero, List.set_cons_succ]
              refine wpAnyH_take (i := 22) (v := ?_) rfl (by kernel_rfl) (by kernel_rfl) (by kernel_rfl) (fun _ _ _ h => h) (Or.inl ⟨by rfl, ?_⟩) (by assumption) ?_
              rotate_left
              · intro w hSw; (try dsimp only at hSw); go_simp; (try with_reducible rfl)
              simp only [List.getElem_toArray, List.getElem_cons_succ, List.getElem_cons_zero, Act.put, List.setIfInBounds_toArray, List.set_cons_zero, List.set_cons_succ]
              refine wpAnyH_take (i := 23) (v := ?_) rfl (by kernel_rfl) (by kernel_rfl) (by kernel_rfl) (fun _ _ _ h => h) (Or.inl ⟨by rfl, ?_⟩) (by assumption) ?_
              rotate_left
              · intro w hSw; (try dsimp only at hSw); go_simp; (try with_reducible rfl)
              simp only [List.getElem_toArray, List.getElem_cons_succ, List.getElem_cons_zero, Act.put, List.setIfInBounds_toArray, List.set_cons_zero, List.set_cons_succ]
              refine wpAnyH_take (i := 24) (v := undef) rfl (by kernel_rfl) (by kernel_rfl) (by kernel_rfl) (fun _ _ _ h => h) (Or.inr ⟨by rfl, rfl⟩) (by assumption) ?_
              simp only [List.getElem_toArray, List.getElem_cons_succ, List.getElem_cons_zero, Act.put, List.setIfInBounds_toArray, List.set_cons_zero, List.set_cons_succ]
              refine wpAnyH_take (i := 25) (v := undef) rfl (by kernel_rfl) (by kernel_rfl) (by kernel_rfl) (fun _ _ _ h => h) (Or.inr ⟨by rfl, rfl⟩) (by assumption) ?_
              simp only [List.getElem_toArray, List.getElem_cons_succ, List.getElem_cons_zero, Act.put, List.setIfInBounds_toArray, List.set_cons_zero, List.set_cons_succ]
              refine wpAnyH_take (i := 26) (v := undef) rfl (by kernel_rfl) (by kernel_rfl) (by kernel_rfl) (fun _ _ _ h => h) (Or.inr ⟨by rfl, rfl⟩) (by assumption) ?_
              simp only [List.getElem_toArray, List.getElem_cons_succ, List.getElem_cons_zero, Act.put, List.setIfInBounds_toArray, List.set_cons_zero, List.set_cons_succ]
              refine wpAnyH_take (i := 27) (v := undef) rfl (by kernel_rfl) (by kernel_rfl) (by kernel_rfl) (fun _ _ _ h => h) (Or.inr ⟨by rfl, rfl⟩) (by assumption) ?_
              simp only [List.getElem_toArray, List.getElem_cons_succ, List.getElem_cons_zero, Act.put, List.setIfInBounds_toArray, List.set_cons_zero, List.set_cons_succ]
              refine wpAnyH_take (i := 28) (v := undef) rfl (by kernel_rfl) (by kernel_rfl) (by kernel_rfl) (fun _ _ _ h => h) (Or.inr ⟨by rfl, rfl⟩) (by assumption) ?_
              simp only [List.getElem_toArray, List.getElem_cons_succ, List.getElem_cons_zero, Act.put, List.setIfInBounds_toArray, List.set_cons_zero, List.set_cons_succ]
              refine wpAnyH_take (i := 29) (v := ?_) rfl (by kernel_rfl) (by kernel_rfl) (by kernel_rfl) (fun _ _ _ h => h) (Or.inl ⟨by rfl, ?_⟩) (by assumption) ?_
              rotate_left
              · intro w hSw; (try dsimp only at hSw); go_simp; (try with_reducible rfl)
              simp only [List.getElem_toArray, List.getElem_cons_succ, List.getElem_cons_zero, Act.put, List.setIfInBounds_toArray, List.set_cons_zero, List.set_cons_succ]
              refine wpAnyH_take (i := 30) (v := ?_) rfl (by kernel_rfl) (by kernel_rfl) (by kernel_rfl) (fun _ _ _ h => h) (Or.inl ⟨by rfl, ?_⟩) (by assumption) ?_
              rotate_left
              · intro w hSw; (try dsimp only at hSw); go_simp; (try with_reducible rfl)
              try simp only [List.getElem_toArray, List.getElem_cons_succ, List.getElem_cons_zero, Act.put, List.setIfInBounds_toArray, List.set_cons_zero, List.set_cons_succ]
              refine wpAnyH_done (by kernel_rfl) ?_ _
              go_wp2_with fail
              go_roundw
              case rel => exact ⟨k + 1, by omega, by omega, by go_num, HBR.out.trans ((below_drew (Below.refl _ _)).trans b3 |>.mono HBR.out.size)⟩
              case measure => simp [intOf]; omega
            · by_cases d1 : tk + 200 ≤ t
              · by_cases d2 : t < tk + 2000
                · by_cases d3 : nk ≤ (cn : Int)
                  · skip
                    have RX : Hid (∀ w2, Below wr.heap.size wr w2 → Calls Tryd.prog 22 #[.slice a L.length c, .int .i64 (k : Nat), .int .i64 t] w2 fun e w' => e = .returned (.bool true) ∧ Below w2.heap.size w2 w') := Lib.hid (fun w2 b => by
                      have h := RK1.out w2 b
                      simp only [decide_eq_true d1, decide_eq_true d2, decide_eq_true d3, Bool.true_and] at h
                      exact h)
                    clear RK1
                    refine wp_region_held_drew (S := fun w' => w'.cell? ⟨b0, k, none⟩ = some (.bool true) ∧ w'.cell? ⟨b1, k, none⟩ = some (.int .i64 tk) ∧ w'.cell? ⟨b2, k, none⟩ = some (.int .i64 nk)) (by kernel_rfl) ?_ (fun hHeld => ?_)
                    · exact P3.out _ (below_drew (Below.refl _ _))
                    refine wpAnyH_take (i := 0) (v := ?_) rfl (by kernel_rfl) (by kernel_rfl) (by kernel_rfl) (fun _ _ _ h => h) (Or.inl ⟨by rfl, ?_⟩) (by assumption) ?_
                    rotate_left
                    · intro w hSw; (try dsimp only at hSw); go_simp; (try with_reducible rfl)
                    simp only [List.getElem_toArray, List.getElem_cons_zero, Act.put, List.setIfInBounds_toArray, List.set_cons_zero, List.set_cons_succ]
                    refine wpAnyH_take (i := 1) (v := ?_) rfl (by kernel_rfl) (by kernel_rfl) (by kernel_rfl) (fun _ _ _ h => h) (Or.inl ⟨by rfl, ?_⟩) (by assumption) ?_
                    rotate_left
                    · intro w hSw; (try dsimp only at hSw); go_simp; (try with_reducible rfl)
                    simp only [List.getElem_toArray, List.getElem_cons_succ, List.getElem_cons_zero, Act.put, List.setIfInBounds_toArray, List.set_cons_zero, List.set_cons_succ]
                    refine wpAnyH_take (i := 2) (v := ?_) rfl (by kernel_rfl) (by kernel_rfl) (by kernel_rfl) (fun _ _ _ h => h) (Or.inl ⟨by rfl, ?_⟩) (by assumption) ?_
                    rotate_left
                    · intro w hSw; (try dsimp only at hSw); go_simp; (try with_reducible rfl)
                    simp only [List.getElem_toArray, List.getElem_cons_succ, List.getElem_cons_zero, Act.put, List.setIfInBounds_toArray, List.set_cons_zero, List.set_cons_succ]
                    refine wpAnyH_take (i := 4) (v := ?_) rfl (by kernel_rfl) (by kernel_rfl) (by kernel_rfl) (fun _ _ _ h => h) (Or.inl ⟨by rfl, ?_⟩) (by assumption) ?_
                    rotate_left
                    · intro w hSw; (try dsimp only at hSw); go_simp; (try with_reducible rfl)
                    simp only [List.getElem_toArray, List.getElem_cons_succ, List.getElem_cons_zero, Act.put, List.setIfInBounds_toArray, List.set_cons_zero, List.set_cons_succ]
                    refine wpAnyH_take (i := 5) (v := ?_) rfl (by kernel_rfl) (by kernel_rfl) (by kernel_rfl) (fun _ _ _ h => h) (Or.inl ⟨by rfl, ?_⟩) (by assumption) ?_
                    rotate_left
                    · intro w hSw; (try dsimp only at hSw); go_simp; (try with_reducible rfl)
                    simp only [List.getElem_toArray, List.getElem_cons_succ, List.getElem_cons_zero, Act.put, List.setIfInBounds_toArray, List.set_cons_zero, List.set_cons_succ]
                    refine wpAnyH_take (i := 6) (v := ?_) rfl (by kernel_rfl) (by kernel_rfl) (by kernel_rfl) (fun _ _ _ h => h) (Or.inl ⟨by rfl, ?_⟩) (by assumption) ?_
                    rotate_left
                    · intro w hSw; (try dsimp only at hSw); go_simp; (try with_reducible rfl)
                    simp only [List.getElem_toArray, List.getElem_cons_succ, List.getElem_cons_zero, Act.put, List.setIfInBounds_toArray, List.set_cons_zero, List.set_cons_succ]
                    refine wpAnyH_ready (rs := [3]) (by kernel_rfl) (by simp) ?_
                    refine AllReadyH.cons rfl (fun K hK => ?_) AllReadyH.nil
                    go_simp
                    (go_at_call 22; (refine (RX.out _ (below_drew (Below.refl _ _))).mono ?_); rintro e w3 ⟨rfl, b3⟩; obtain ⟨q0, q1, q2⟩ := P3.out w3 ((below_drew (Below.refl _ _)).trans b3))
                    refine hK.out _ _ ?_ (fun hHeld2 => ?_)
                    · exact ⟨q0, q1, q2⟩
                    clear hK K hHeld
                    try simp only [List.getElem_toArray, List.getElem_cons_succ, List.getElem_cons_zero, Act.put, List.setIfInBounds_toArray, List.set_cons_zero, List.set_cons_succ]
                    refine wpAnyH_take (i := 7) (v := ?_) rfl (by kernel_rfl) (by kernel_rfl) (by kernel_rfl) (fun _ _ _ h => h) (Or.inl ⟨by rfl, ?_⟩) (by assumption) ?_
                    rotate_left
                    · intro w hSw; (try dsimp only at hSw); go_simp; (try with_reducible rfl)
                    simp only [List.getElem_toArray, List.getElem_cons_succ, List.getElem_cons_zero, Act.put, List.setIfInBounds_toArray, List.set_cons_zero, List.set_cons_succ]
                    refine wpAnyH_take (i := 8) (v := ?_) rfl (by kernel_rfl) (by kernel_rfl) (by kernel_rfl) (fun _ _ _ h => h) (Or.inl ⟨by rfl, ?_⟩) (by assumption) ?_
                    rotate_left
                    · intro w hSw; (try dsimp only at hSw); go_simp; (try with_reducible rfl)
                    simp only [List.getElem_toArray, List.getElem_cons_succ, List.getElem_cons_zero, Act.put, List.setIfInBounds_toArray, List.set_cons_zero, List.set_cons_succ]
                    refine wpAnyH_take (i := 9) (v := ?_) rfl (by kernel_rfl) (by kernel_rfl) (by kernel_rfl) (fun _ _ _ h => h) (Or.inl ⟨by rfl, ?_⟩) (by assumption) ?_
                    rotate_left
                    · intro w hSw; (try dsimp only at hSw); go_simp; (try with_reducible rfl)
                    simp only [List.getElem_toArray, List.getElem_cons_succ, List.getElem_cons_zero, Act.put, List.setIfInBounds_toArray, List.set_cons_zero, List.set_cons_succ]
                    refine wpAnyH_take (i := 10) (v := ?_) rfl (by kernel_rfl) (by kernel_rfl) (by kernel_rfl) (fun _ _ _ h => h) (Or.inl ⟨by rfl, ?_⟩) (by assumption) ?_
                    rotate_left
                    · intro w hSw; (try dsimp only at hSw); go_simp; (try with_reducible rfl)
                    simp only [List.getElem_toArray, List.getElem_cons_succ, List.getElem_cons_zero, Act.put, List.setIfInBounds_toArray, List.set_cons_zero, List.set_cons_succ]
                    refine wpAnyH_take (i := 11) (v := ?_) rfl (by kernel_rfl) (by kernel_rfl) (by kernel_rfl) (fun _ _ _ h => h) (Or.inl ⟨by rfl, ?_⟩) (by assumption) ?_
                    rotate_left
                    · intro w hSw; (try dsimp only at hSw); go_simp; (try with_reducible rfl)
                    simp only [List.getElem_toArray, List.getElem_cons_succ, List.getElem_cons_zero, Act.put, List.setIfInBounds_toArray, List.set_cons_zero, List.set_cons_succ]
                    refine wpAnyH_take (i := 12) (v := ?_) rfl (by kernel_rfl) (by kernel_rfl) (by kernel_rfl) (fun _ _ _ h => h) (Or.inl ⟨by rfl, ?_⟩) (by assumption) ?_
                    rotate_left
                    · intro w hSw; (try dsimp only at hSw); go_simp; (try with_reducible rfl)
                    simp only [List.getElem_toArray, List.getElem_cons_succ, List.getElem_cons_zero, Act.put, List.setIfInBounds_toArray, List.set_cons_zero, List.set_cons_succ]
                    refine wpAnyH_take (i := 13) (v := ?_) rfl (by kernel_rfl) (by kernel_rfl) (by kernel_rfl) (fun _ _ _ h => h) (Or.inl ⟨by rfl, ?_⟩) (by assumption) ?_
                    rotate_left
                    · intro w hSw; (try dsimp only at hSw); go_simp; (try with_reducible rfl)
                    simp only [List.getElem_toArray, List.getElem_cons_succ, List.getElem_cons_zero, Act.put, List.setIfInBounds_toArray, List.set_cons_zero, List.set_cons_succ]
                    refine wpAnyH_take (i := 14) (v := ?_) rfl (by kernel_rfl) (by kernel_rfl) (by kernel_rfl) (fun _ _ _ h => h) (Or.inl ⟨by rfl, ?_⟩) (by assumption) ?_
                    rotate_left
                    · intro w hSw; (try dsimp only at hSw); go_simp; (try with_reducible rfl)
                    simp only [List.getElem_toArray, List.getElem_cons_succ, List.getElem_cons_zero, Act.put, List.setIfInBounds_toArray, List.set_cons_zero, List.set_cons_succ]
                    refine wpAnyH_take (i := 15) (v := ?_) rfl (by kernel_rfl) (by kernel_rfl) (by kernel_rfl) (fun _ _ _ h => h) (Or.inl ⟨by rfl, ?_⟩) (by assumption) ?_
                    rotate_left
                    · intro w hSw; (try dsimp only at hSw); go_simp; (try with_reducible rfl)
                    simp only [List.getElem_toArray, List.getElem_cons_succ, List.getElem_cons_zero, Act.put, List.setIfInBounds_toArray, List.set_cons_zero, List.set_cons_succ]
                    refine wpAnyH_take (i := 16) (v := ?_) rfl (by kernel_rfl) (by kernel_rfl) (by kernel_rfl) (fun _ _ _ h => h) (Or.inl ⟨by rfl, ?_⟩) (by assumption) ?_
                    rotate_left
                    · intro w hSw; (try dsimp only at hSw); go_simp; (try with_reducible rfl)
                    simp only [List.getElem_toArray, List.getElem_cons_succ, List.getElem_cons_zero, Act.put, List.setIfInBounds_toArray, List.set_cons_zero, List.set_cons_succ]
                    refine wpAnyH_take (i := 17) (v := ?_) rfl (by kernel_rfl) (by kernel_rfl) (by kernel_rfl) (fun _ _ _ h => h) (Or.inl ⟨by rfl, ?_⟩) (by assumption) ?_
                    rotate_left
                    · intro w hSw; (try dsimp only at hSw); go_simp; (try with_reducible rfl)
                    simp only [List.getElem_toArray, List.getElem_cons_succ, List.getElem_cons_zero, Act.put, List.setIfInBounds_toArray, List.set_cons_zero, List.set_cons_succ]
                    refine wpAnyH_take (i := 18) (v := ?_) rfl (by kernel_rfl) (by kernel_rfl) (by kernel_rfl) (fun _ _ _ h => h) (Or.inl ⟨by rfl, ?_⟩) (by assumption) ?_
                    rotate_left
                    · intro w hSw; (try dsimp only at hSw); go_simp; (try with_reducible rfl)
                    simp only [List.getElem_toArray, List.getElem_cons_succ, List.getElem_cons_zero, Act.put, List.setIfInBounds_toArray, List.set_cons_zero, List.set_cons_succ]
                    refine wpAnyH_take (i := 19) (v := ?_) rfl (by kernel_rfl) (by kernel_rfl) (by kernel_rfl) (fun _ _ _ h => h) (Or.inl ⟨by rfl, ?_⟩) (by assumption) ?_
                    rotate_left
                    · intro w hSw; (try dsimp only at hSw); go_simp; (try with_reducible rfl)
                    simp only [List.getElem_toArray, List.getElem_cons_succ, List.getElem_cons_zero, Act.put, List.setIfInBounds_toArray, List.set_cons_zero, List.set_cons_succ]
                    refine wpAnyH_take (i := 20) (v := ?_) rfl (by kernel_rfl) (by kernel_rfl) (by kernel_rfl) (fun _ _ _ h => h) (Or.inl ⟨by rfl, ?_⟩) (by assumption) ?_
                    rotate_left
                    · intro w hSw; (try dsimp only at hSw); go_simp; (try with_reducible rfl)
                    simp only [List.getElem_toArray, List.getElem_cons_succ, List.getElem_cons_zero, Act.put, List.setIfInBounds_toArray, List.set_cons_zero, List.set_cons_succ]
                    refine wpAnyH_take (i := 21) (v := ?_) rfl (by kernel_rfl) (by kernel_rfl) (by kernel_rfl) (fun _ _ _ h => h) (Or.inl ⟨by rfl, ?_⟩) (by assumption) ?_
                    rotate_left
                    · intro w hSw; (try dsimp only at hSw); go_simp; (try with_reducible rfl)
                    simp only [List.getElem_toArray, List.getElem_cons_succ, List.getElem_cons_zero, Act.put, List.setIfInBounds_toArray, List.set_cons_zero, List.set_cons_succ]
                    refine wpAnyH_take (i := 22) (v := ?_) rfl (by kernel_rfl) (by kernel_rfl) (by kernel_rfl) (fun _ _ _ h => h) (Or.inl ⟨by rfl, ?_⟩) (by assumption) ?_
                    rotate_left
                    · intro w hSw; (try dsimp only at hSw); go_simp; (try with_reducible rfl)
                    simp only [List.getElem_toArray, List.getElem_cons_succ, List.getElem_cons_zero, Act.put, List.setIfInBounds_toArray, List.set_cons_zero, List.set_cons_succ]
                    refine wpAnyH_take (i := 23) (v := ?_) rfl (by kernel_rfl) (by kernel_rfl) (by kernel_rfl) (fun _ _ _ h => h) (Or.inl ⟨by rfl, ?_⟩) (by assumption) ?_
                    rotate_left
                    · intro w hSw; (try dsimp only at hSw); go_simp; (try with_reducible rfl)
                    simp only [List.getElem_toArray, List.getElem_cons_succ, List.getElem_cons_zero, Act.put, List.setIfInBounds_toArray, List.set_cons_zero, List.set_cons_succ]
                    refine wpAnyH_take (i := 24) (v := ?_) rfl (by kernel_rfl) (by kernel_rfl) (by kernel_rfl) (fun _ _ _ h => h) (Or.inl ⟨by rfl, ?_⟩) (by assumption) ?_
                    rotate_left
                    · intro w hSw; (try dsimp only at hSw); go_simp; (try with_reducible rfl)
                    simp only [List.getElem_toArray, List.getElem_cons_succ, List.getElem_cons_zero, Act.put, List.setIfInBounds_toArray, List.set_cons_zero, List.set_cons_succ]
                    refine wpAnyH_take (i := 25) (v := ?_) rfl (by kernel_rfl) (by kernel_rfl) (by kernel_rfl) (fun _ _ _ h => h) (Or.inl ⟨by rfl, ?_⟩) (by assumption) ?_
                    rotate_left
                    · intro w hSw; (try dsimp only at hSw); go_simp; (try with_reducible rfl)
                    simp only [List.getElem_toArray, List.getElem_cons_succ, List.getElem_cons_zero, Act.put, List.setIfInBounds_toArray, List.set_cons_zero, List.set_cons_succ]
                    refine wpAnyH_take (i := 26) (v := ?_) rfl (by kernel_rfl) (by kernel_rfl) (by kernel_rfl) (fun _ _ _ h => h) (Or.inl ⟨by rfl, ?_⟩) (by assumption) ?_
                    rotate_left
                    · intro w hSw; (try dsimp only at hSw); go_simp; (try with_reducible rfl)
                    simp only [List.getElem_toArray, List.getElem_cons_succ, List.getElem_cons_zero, Act.put, List.setIfInBounds_toArray, List.set_cons_zero, List.set_cons_succ]
                    refine wpAnyH_take (i := 27) (v := ?_) rfl (by kernel_rfl) (by kernel_rfl) (by kernel_rfl) (fun _ _ _ h => h) (Or.inl ⟨by rfl, ?_⟩) (by assumption) ?_
                    rotate_left
                    · intro w hSw; (try dsimp only at hSw); go_simp; (try with_reducible rfl)
                    simp only [List.getElem_toArray, List.getElem_cons_succ, List.getElem_cons_zero, Act.put, List.setIfInBounds_toArray, List.set_cons_zero, List.set_cons_succ]
                    refine wpAnyH_take (i := 28) (v := ?_) rfl (by kernel_rfl) (by kernel_rfl) (by kernel_rfl) (fun _ _ _ h => h) (Or.inl ⟨by rfl, ?_⟩) (by assumption) ?_
                    rotate_left
                    · intro w hSw; (try dsimp only at hSw); go_simp; (try with_reducible rfl)
                    simp only [List.getElem_toArray, List.getElem_cons_succ, List.getElem_cons_zero, Act.put, List.setIfInBounds_toArray, List.set_cons_zero, List.set_cons_succ]
                    refine wpAnyH_take (i := 29) (v := ?_) rfl (by kernel_rfl) (by kernel_rfl) (by kernel_rfl) (fun _ _ _ h => h) (Or.inl ⟨by rfl, ?_⟩) (by assumption) ?_
                    rotate_left
                    · intro w hSw; (try dsimp only at hSw); go_simp; (try with_reducible rfl)
                    simp only [List.getElem_toArray, List.getElem_cons_succ, List.getElem_cons_zero, Act.put, List.setIfInBounds_toArray, List.set_cons_zero, List.set_cons_succ]
                    refine wpAnyH_take (i := 30) (v := ?_) rfl (by kernel_rfl) (by kernel_rfl) (by kernel_rfl) (fun _ _ _ h => h) (Or.inl ⟨by rfl, ?_⟩) (by assumption) ?_
                    rotate_left
                    · intro w hSw; (try dsimp only at hSw); go_simp; (try with_reducible rfl)
                    try simp only [List.getElem_toArray, List.getElem_cons_succ, List.getElem_cons_zero, Act.put, List.setIfInBounds_toArray, List.set_cons_zero, List.set_cons_succ]
                    refine wpAnyH_done (by kernel_rfl) ?_ _
                    go_wp2_with fail
                    go_roundw
                    case rel => exact ⟨k + 1, by omega, by omega, by go_num, HBR.out.trans ((below_drew (Below.refl _ _)).trans b3 |>.mono HBR.out.size)⟩
                    case measure => simp [intOf]; omega
                  · have d3' : decide (nk ≤ (cn : Int)) = false := decide_eq_false d3
                    have RX : Hid (∀ w2, Below wr.heap.size wr w2 → Calls Tryd.prog 22 #[.slice a L.length c, .int .i64 (k : Nat), .int .i64 t] w2 fun e w' => e = .returned (.bool false) ∧ Below w2.heap.size w2 w') := Lib.hid (fun w2 b => by
                      have h := RK1.out w2 b
                      simp only [decide_eq_true d1, decide_eq_true d2, decide_eq_false d3, Bool.true_and] at h
                      exact h)
                    clear RK1
                    refine wp_region_held_drew (S := fun w' => w'.cell? ⟨b0, k, none⟩ = some (.bool true) ∧ w'.cell? ⟨b1, k, none⟩ = some (.int .i64 tk) ∧ w'.cell? ⟨b2, k, none⟩ = some (.int .i64 nk)) (by kernel_rfl) ?_ (fun hHeld => ?_)
                    · exact P3.out _ (below_drew (Below.refl _ _))
                    refine wpAnyH_take (i := 0) (v := ?_) rfl (by kernel_rfl) (by kernel_rfl) (by kernel_rfl) (fun _ _ _ h => h) (Or.inl ⟨by rfl, ?_⟩) (by assumption) ?_
                    rotate_left
                    · intro w hSw; (try dsimp only at hSw); go_simp; (try with_reducible rfl)
                    simp only [List.getElem_toArray, List.getElem_cons_zero, Act.put, List.setIfInBounds_toArray, List.set_cons_zero, List.set_cons_succ]
                    refine wpAnyH_take (i := 1) (v := ?_) rfl (by kernel_rfl) (by kernel_rfl) (by kernel_rfl) (fun _ _ _ h => h) (Or.inl ⟨by rfl, ?_⟩) (by assumption) ?_
                    rotate_left
                    · intro w hSw; (try dsimp only at hSw); go_simp; (try with_reducible rfl)
                    simp only [List.getElem_toArray, List.getElem_cons_succ, List.getElem_cons_zero, Act.put, List.setIfInBounds_toArray, List.set_cons_zero, List.set_cons_succ]
                    refine wpAnyH_take (i := 2) (v := ?_) rfl (by kernel_rfl) (by kernel_rfl) (by kernel_rfl) (fun _ _ _ h => h) (Or.inl ⟨by rfl, ?_⟩) (by assumption) ?_
                    rotate_left
                    · intro w hSw; (try dsimp only at hSw); go_simp; (try with_reducible rfl)
                    simp only [List.getElem_toArray, List.getElem_cons_succ, List.getElem_cons_zero, Act.put, List.setIfInBounds_toArray, List.set_cons_zero, List.set_cons_succ]
                    refine wpAnyH_take (i := 4) (v := ?_) rfl (by kernel_rfl) (by kernel_rfl) (by kernel_rfl) (fun _ _ _ h => h) (Or.inl ⟨by rfl, ?_⟩) (by assumption) ?_
                    rotate_left
                    · intro w hSw; (try dsimp only at hSw); go_simp; (try with_reducible rfl)
                    simp only [List.getElem_toArray, List.getElem_cons_succ, List.getElem_cons_zero, Act.put, List.setIfInBounds_toArray, List.set_cons_zero, List.set_cons_succ]
                    refine wpAnyH_take (i := 5) (v := ?_) rfl (by kernel_rfl) (by kernel_rfl) (by kernel_rfl) (fun _ _ _ h => h) (Or.inl ⟨by rfl, ?_⟩) (by assumption) ?_
                    rotate_left
                    · intro w hSw; (try dsimp only at hSw); go_simp; (try with_reducible rfl)
                    simp only [List.getElem_toArray, List.getElem_cons_succ, List.getElem_cons_zero, Act.put, List.setIfInBounds_toArray, List.set_cons_zero, List.set_cons_succ]
                    refine wpAnyH_take (i := 6) (v := ?_) rfl (by kernel_rfl) (by kernel_rfl) (by kernel_rfl) (fun _ _ _ h => h) (Or.inl ⟨by rfl, ?_⟩) (by assumption) ?_
                    rotate_left
                    · intro w hSw; (try dsimp only at hSw); go_simp; (try with_reducible rfl)
                    simp only [List.getElem_toArray, List.getElem_cons_succ, List.getElem_cons_zero, Act.put, List.setIfInBounds_toArray, List.set_cons_zero, List.set_cons_succ]
                    refine wpAnyH_ready (rs := [3]) (by kernel_rfl) (by simp) ?_
                    refine AllReadyH.cons rfl (fun K hK => ?_) AllReadyH.nil
                    go_simp
                    (go_at_call 22; (refine (RX.out _ (below_drew (Below.refl _ _))).mono ?_); rintro e w3 ⟨rfl, b3⟩; obtain ⟨q0, q1, q2⟩ := P3.out w3 ((below_drew (Below.refl _ _)).trans b3))
                    refine hK.out _ _ ?_ (fun hHeld2 => ?_)
                    · exact ⟨q0, q1, q2⟩
                    clear hK K hHeld
                    try simp only [List.getElem_toArray, List.getElem_cons_succ, List.getElem_cons_zero, Act.put, List.setIfInBounds_toArray, List.set_cons_zero, List.set_cons_succ]
                    refine wpAnyH_take (i := 7) (v := ?_) rfl (by kernel_rfl) (by kernel_rfl) (by kernel_rfl) (fun _ _ _ h => h) (Or.inl ⟨by rfl, ?_⟩) (by assumption) ?_
                    rotate_left
                    · intro w hSw; (try dsimp only at hSw); go_simp; (try with_reducible rfl)
                    simp only [List.getElem_toArray, List.getElem_cons_succ, List.getElem_cons_zero, Act.put, List.setIfInBounds_toArray, List.set_cons_zero, List.set_cons_succ]
                    refine wpAnyH_take (i := 8) (v := ?_) rfl (by kernel_rfl) (by kernel_rfl) (by kernel_rfl) (fun _ _ _ h => h) (Or.inl ⟨by rfl, ?_⟩) (by assumption) ?_
                    rotate_left
                    · intro w hSw; (try dsimp only at hSw); go_simp; (try with_reducible rfl)
                    simp only [List.getElem_toArray, List.getElem_cons_succ, List.getElem_cons_zero, Act.put, List.setIfInBounds_toArray, List.set_cons_zero, List.set_cons_succ]
                    refine wpAnyH_take (i := 9) (v := ?_) rfl (by kernel_rfl) (by kernel_rfl) (by kernel_rfl) (fun _ _ _ h => h) (Or.inl ⟨by rfl, ?_⟩) (by assumption) ?_
                    rotate_left
                    · intro w hSw; (try dsimp only at hSw); go_simp; (try with_reducible rfl)
                    simp only [List.getElem_toArray, List.getElem_cons_succ, List.getElem_cons_zero, Act.put, List.setIfInBounds_toArray, List.set_cons_zero, List.set_cons_succ]
                    refine wpAnyH_take (i := 10) (v := ?_) rfl (by kernel_rfl) (by kernel_rfl) (by kernel_rfl) (fun _ _ _ h => h) (Or.inl ⟨by rfl, ?_⟩) (by assumption) ?_
                    rotate_left
                    · intro w hSw; (try dsimp only at hSw); go_simp; (try with_reducible rfl)
                    simp only [List.getElem_toArray, List.getElem_cons_succ, List.getElem_cons_zero, Act.put, List.setIfInBounds_toArray, List.set_cons_zero, List.set_cons_succ]
                    refine wpAnyH_take (i := 11) (v := ?_) rfl (by kernel_rfl) (by kernel_rfl) (by kernel_rfl) (fun _ _ _ h => h) (Or.inl ⟨by rfl, ?_⟩) (by assumption) ?_
                    rotate_left
                    · intro w hSw; (try dsimp only at hSw); go_simp; (try with_reducible rfl)
                    simp only [List.getElem_toArray, List.getElem_cons_succ, List.getElem_cons_zero, Act.put, List.setIfInBounds_toArray, List.set_cons_zero, List.set_cons_succ]
                    refine wpAnyH_take (i := 12) (v := ?_) rfl (by kernel_rfl) (by kernel_rfl) (by kernel_rfl) (fun _ _ _ h => h) (Or.inl ⟨by rfl, ?_⟩) (by assumption) ?_
                    rotate_left
                    · intro w hSw; (try dsimp only at hSw); go_simp; (try with_reducible rfl)
                    simp only [List.getElem_toArray, List.getElem_cons_succ, List.getElem_cons_zero, Act.put, List.setIfInBounds_toArray, List.set_cons_zero, List.set_cons_succ]
                    refine wpAnyH_take (i := 13) (v := ?_) rfl (by kernel_rfl) (by kernel_rfl) (by kernel_rfl) (fun _ _ _ h => h) (Or.inl ⟨by rfl, ?_⟩) (by assumption) ?_
                    rotate_left
                    · intro w hSw; (try dsimp only at hSw); go_simp; (try with_reducible rfl)
                    simp only [List.getElem_toArray, List.getElem_cons_succ, List.getElem_cons_zero, Act.put, List.setIfInBounds_toArray, List.set_cons_zero, List.set_cons_succ]
                    refine wpAnyH_take (i := 14) (v := ?_) rfl (by kernel_rfl) (by kernel_rfl) (by kernel_rfl) (fun _ _ _ h => h) (Or.inl ⟨by rfl, ?_⟩) (by assumption) ?_
                    rotate_left
                    · intro w hSw; (try dsimp only at hSw); go_simp; (try with_reducible rfl)
                    simp only [List.getElem_toArray, List.getElem_cons_succ, List.getElem_cons_zero, Act.put, List.setIfInBounds_toArray, List.set_cons_zero, List.set_cons_succ]
                    refine wpAnyH_take (i := 15) (v := ?_) rfl (by kernel_rfl) (by kernel_rfl) (by kernel_rfl) (fun _ _ _ h => h) (Or.inl ⟨by rfl, ?_⟩) (by assumption) ?_
                    rotate_left
                    · intro w hSw; (try dsimp only at hSw); go_simp; (try with_reducible rfl)
                    simp only [List.getElem_toArray, List.getElem_cons_succ, List.getElem_cons_zero, Act.put, List.setIfInBounds_toArray, List.set_cons_zero, List.set_cons_succ]
                    refine wpAnyH_take (i := 16) (v := ?_) rfl (by kernel_rfl) (by kernel_rfl) (by kernel_rfl) (fun _ _ _ h => h) (Or.inl ⟨by rfl, ?_⟩) (by assumption) ?_
                    rotate_left
                    · intro w hSw; (try dsimp only at hSw); go_simp; (try with_reducible rfl)
                    simp only [List.getElem_toArray, List.getElem_cons_succ, List.getElem_cons_zero, Act.put, List.setIfInBounds_toArray, List.set_cons_zero, List.set_cons_succ]
                    refine wpAnyH_take (i := 17) (v := ?_) rfl (by kernel_rfl) (by kernel_rfl) (by kernel_rfl) (fun _ _ _ h => h) (Or.inl ⟨by rfl, ?_⟩) (by assumption) ?_
                    rotate_left
                    · intro w hSw; (try dsimp only at hSw); go_simp; (try with_reducible rfl)
                    simp only [List.getElem_toArray, List.getElem_cons_succ, List.getElem_cons_zero, Act.put, List.setIfInBounds_toArray, List.set_cons_zero, List.set_cons_succ]
                    refine wpAnyH_take (i := 18) (v := ?_) rfl (by kernel_rfl) (by kernel_rfl) (by kernel_rfl) (fun _ _ _ h => h) (Or.inl ⟨by rfl, ?_⟩) (by assumption) ?_
                    rotate_left
                    · intro w hSw; (try dsimp only at hSw); go_simp; (try with_reducible rfl)
                    simp only [List.getElem_toArray, List.getElem_cons_succ, List.getElem_cons_zero, Act.put, List.setIfInBounds_toArray, List.set_cons_zero, List.set_cons_succ]
                    refine wpAnyH_take (i := 19) (v := ?_) rfl (by kernel_rfl) (by kernel_rfl) (by kernel_rfl) (fun _ _ _ h => h) (Or.inl ⟨by rfl, ?_⟩) (by assumption) ?_
                    rotate_left
                    · intro w hSw; (try dsimp only at hSw); go_simp; (try with_reducible rfl)
                    simp only [List.getElem_toArray, List.getElem_cons_succ, List.getElem_cons_zero, Act.put, List.setIfInBounds_toArray, List.set_cons_zero, List.set_cons_succ]
                    refine wpAnyH_take (i := 20) (v := ?_) rfl (by kernel_rfl) (by kernel_rfl) (by kernel_rfl) (fun _ _ _ h => h) (Or.inl ⟨by rfl, ?_⟩) (by assumption) ?_
                    rotate_left
                    · intro w hSw; (try dsimp only at hSw); go_simp; (try with_reducible rfl)
                    simp only [List.getElem_toArray, List.getElem_cons_succ, List.getElem_cons_zero, Act.put, List.setIfInBounds_toArray, List.set_cons_zero, List.set_cons_succ]
                    refine wpAnyH_take (i := 21) (v := ?_) rfl (by kernel_rfl) (by kernel_rfl) (by kernel_rfl) (fun _ _ _ h => h) (Or.inl ⟨by rfl, ?_⟩) (by assumption) ?_
                    rotate_left
                    · intro w hSw; (try dsimp only at hSw); go_simp; (try with_reducible rfl)
                    simp only [List.getElem_toArray, List.getElem_cons_succ, List.getElem_cons_zero, Act.put, List.setIfInBounds_toArray, List.set_cons_zero, List.set_cons_succ]
                    refine wpAnyH_take (i := 22) (v := ?_) rfl (by kernel_rfl) (by kernel_rfl) (by kernel_rfl) (fun _ _ _ h => h) (Or.inl ⟨by rfl, ?_⟩) (by assumption) ?_
                    rotate_left
                    · intro w hSw; (try dsimp only at hSw); go_simp; (try with_reducible rfl)
                    simp only [List.getElem_toArray, List.getElem_cons_succ, List.getElem_cons_zero, Act.put, List.setIfInBounds_toArray, List.set_cons_zero, List.set_cons_succ]
                    refine wpAnyH_take (i := 23) (v := ?_) rfl (by kernel_rfl) (by kernel_rfl) (by kernel_rfl) (fun _ _ _ h => h) (Or.inl ⟨by rfl, ?_⟩) (by assumption) ?_
                    rotate_left
                    · intro w hSw; (try dsimp only at hSw); go_simp; (try with_reducible rfl)
                    simp only [List.getElem_toArray, List.getElem_cons_succ, List.getElem_cons_zero, Act.put, List.setIfInBounds_toArray, List.set_cons_zero, List.set_cons_succ]
                    refine wpAnyH_take (i := 24) (v := ?_) rfl (by kernel_rfl) (by kernel_rfl) (by kernel_rfl) (fun _ _ _ h => h) (Or.inl ⟨by rfl, ?_⟩) (by assumption) ?_
                    rotate_left
                    · intro w hSw; (try dsimp only at hSw); go_simp; (try with_reducible rfl)
                    simp only [List.getElem_toArray, List.getElem_cons_succ, List.getElem_cons_zero, Act.put, List.setIfInBounds_toArray, List.set_cons_zero, List.set_cons_succ]
                    refine wpAnyH_take (i := 25) (v := ?_) rfl (by kernel_rfl) (by kernel_rfl) (by kernel_rfl) (fun _ _ _ h => h) (Or.inl ⟨by rfl, ?_⟩) (by assumption) ?_
                    rotate_left
                    · intro w hSw; (try dsimp only at hSw); go_simp; (try with_reducible rfl)
                    simp only [List.getElem_toArray, List.getElem_cons_succ, List.getElem_cons_zero, Act.put, List.setIfInBounds_toArray, List.set_cons_zero, List.set_cons_succ]
                    refine wpAnyH_take (i := 26) (v := ?_) rfl (by kernel_rfl) (by kernel_rfl) (by kernel_rfl) (fun _ _ _ h => h) (Or.inl ⟨by rfl, ?_⟩) (by assumption) ?_
                    rotate_left
                    · intro w hSw; (try dsimp only at hSw); go_simp; (try with_reducible rfl)
                    simp only [List.getElem_toArray, List.getElem_cons_succ, List.getElem_cons_zero, Act.put, List.setIfInBounds_toArray, List.set_cons_zero, List.set_cons_succ]
                    refine wpAnyH_take (i := 27) (v := ?_) rfl (by kernel_rfl) (by kernel_rfl) (by kernel_rfl) (fun _ _ _ h => h) (Or.inl ⟨by rfl, ?_⟩) (by assumption) ?_
                    rotate_left
                    · intro w hSw; (try dsimp only at hSw); go_simp; (try with_reducible rfl)
                    simp only [List.getElem_toArray, List.getElem_cons_succ, List.getElem_cons_zero, Act.put, List.setIfInBounds_toArray, List.set_cons_zero, List.set_cons_succ]
                    refine wpAnyH_take (i := 28) (v := ?_) rfl (by kernel_rfl) (by kernel_rfl) (by kernel_rfl) (fun _ _ _ h => h) (Or.inl ⟨by rfl, ?_⟩) (by assumption) ?_
                    rotate_left
                    · intro w hSw; (try dsimp only at hSw); go_simp; (try with_reducible rfl)
                    simp only [List.getElem_toArray, List.getElem_cons_succ, List.getElem_cons_zero, Act.put, List.setIfInBounds_toArray, List.set_cons_zero, List.set_cons_succ]
                    refine wpAnyH_take (i := 29) (v := ?_) rfl (by kernel_rfl) (by kernel_rfl) (by kernel_rfl) (fun _ _ _ h => h) (Or.inl ⟨by rfl, ?_⟩) (by assumption) ?_
                    rotate_left
                    · intro w hSw; (try dsimp only at hSw); go_simp; (try with_reducible rfl)
                    simp only [List.getElem_toArray, List.getElem_cons_succ, List.getElem_cons_zero, Act.put, List.setIfInBounds_toArray, List.set_cons_zero, List.set_cons_succ]
                    refine wpAnyH_take (i := 30) (v := ?_) rfl (by kernel_rfl) (by kernel_rfl) (by kernel_rfl) (fun _ _ _ h => h) (Or.inl ⟨by rfl, ?_⟩) (by assumption) ?_
                    rotate_left
                    · intro w hSw; (try dsimp only at hSw); go_simp; (try with_reducible rfl)
                    try simp only [List.getElem_toArray, List.getElem_cons_succ, List.getElem_cons_zero, Act.put, List.setIfInBounds_toArray, List.set_cons_zero, List.set_cons_succ]
                    refine wpAnyH_done (by kernel_rfl) ?_ _
                    go_wp2_with fail
                    go_roundw
                    case rel => exact ⟨k + 1, by omega, by omega, by go_num, HBR.out.trans ((below_drew (Below.refl _ _)).trans b3 |>.mono HBR.out.size)⟩
                    case measure => simp [intOf]; omega
                · have d2' : decide (t < tk + 2000) = false := decide_eq_false d2
                  have RX : Hid (∀ w2, Below wr.heap.size wr w2 → Calls Tryd.prog 22 #[.slice a L.length c, .int .i64 (k : Nat), .int .i64 t] w2 fun e w' => e = .returned (.bool false) ∧ Below w2.heap.size w2 w') := Lib.hid (fun w2 b => by
                    have h := RK1.out w2 b
                    simp only [decide_eq_true d1, decide_eq_false d2, Bool.true_and, Bool.false_and] at h
                    exact h)
                  clear RK1
                  refine wp_region_held_drew (S := fun w' => w'.cell? ⟨b0, k, none⟩ = some (.bool true) ∧ w'.cell? ⟨b1, k, none⟩ = some (.int .i64 tk) ∧ w'.cell? ⟨b2, k, none⟩ = some (.int .i64 nk)) (by kernel_rfl) ?_ (fun hHeld => ?_)
                  · exact P3.out _ (below_drew (Below.refl _ _))
                  refine wpAnyH_take (i := 0) (v := ?_) rfl (by kernel_rfl) (by kernel_rfl) (by kernel_rfl) (fun _ _ _ h => h) (Or.inl ⟨by rfl, ?_⟩) (by assumption) ?_
                  rotate_left
                  · intro w hSw; (try dsimp only at hSw); go_simp; (try with_reducible rfl)
                  simp only [List.getElem_toArray, List.getElem_cons_zero, Act.put, List.setIfInBounds_toArray, List.set_cons_zero, List.set_cons_succ]
                  refine wpAnyH_take (i := 1) (v := ?_) rfl (by kernel_rfl) (by kernel_rfl) (by kernel_rfl) (fun _ _ _ h => h) (Or.inl ⟨by rfl, ?_⟩) (by assumption) ?_
                  rotate_left
                  · intro w hSw; (try dsimp only at hSw); go_simp; (try with_reducible rfl)
                  simp only [List.getElem_toArray, List.getElem_cons_succ, List.getElem_cons_zero, Act.put, List.setIfInBounds_toArray, List.set_cons_zero, List.set_cons_succ]
                  refine wpAnyH_take (i := 2) (v := ?_) rfl (by kernel_rfl) (by kernel_rfl) (by kernel_rfl) (fun _ _ _ h => h) (Or.inl ⟨by rfl, ?_⟩) (by assumption) ?_
                  rotate_left
                  · intro w hSw; (try dsimp only at hSw); go_simp; (try with_reducible rfl)
                  simp only [List.getElem_toArray, List.getElem_cons_succ, List.getElem_cons_zero, Act.put, List.setIfInBounds_toArray, List.set_cons_zero, List.set_cons_succ]
                  refine wpAnyH_take (i := 4) (v := ?_) rfl (by kernel_rfl) (by kernel_rfl) (by kernel_rfl) (fun _ _ _ h => h) (Or.inl ⟨by rfl, ?_⟩) (by assumption) ?_
                  rotate_left
                  · intro w hSw; (try dsimp only at hSw); go_simp; (try with_reducible rfl)
                  simp only [List.getElem_toArray, List.getElem_cons_succ, List.getElem_cons_zero, Act.put, List.setIfInBounds_toArray, List.set_cons_zero, List.set_cons_succ]
                  refine wpAnyH_take (i := 5) (v := ?_) rfl (by kernel_rfl) (by kernel_rfl) (by kernel_rfl) (fun _ _ _ h => h) (Or.inl ⟨by rfl, ?_⟩) (by assumption) ?_
                  rotate_left
                  · intro w hSw; (try dsimp only at hSw); go_simp; (try with_reducible rfl)
                  simp only [List.getElem_toArray, List.getElem_cons_succ, List.getElem_cons_zero, Act.put, List.setIfInBounds_toArray, List.set_cons_zero, List.set_cons_succ]
                  refine wpAnyH_take (i := 6) (v := ?_) rfl (by kernel_rfl) (by kernel_rfl) (by kernel_rfl) (fun _ _ _ h => h) (Or.inl ⟨by rfl, ?_⟩) (by assumption) ?_
                  rotate_left
                  · intro w hSw; (try dsimp only at hSw); go_simp; (try with_reducible rfl)
                  simp only [List.getElem_toArray, List.getElem_cons_succ, List.getElem_cons_zero, Act.put, List.setIfInBounds_toArray, List.set_cons_zero, List.set_cons_succ]
                  refine wpAnyH_ready (rs := [3]) (by kernel_rfl) (by simp) ?_
                  refine AllReadyH.cons rfl (fun K hK => ?_) AllReadyH.nil
                  go_simp
                  (go_at_call 22; (refine (RX.out _ (below_drew (Below.refl _ _))).mono ?_); rintro e w3 ⟨rfl, b3⟩; obtain ⟨q0, q1, q2⟩ := P3.out w3 ((below_drew (Below.refl _ _)).trans b3))
                  refine hK.out _ _ ?_ (fun hHeld2 => ?_)
                  · exact ⟨q0, q1, q2⟩
                  clear hK K hHeld
                  try simp only [List.getElem_toArray, List.getElem_cons_succ, List.getElem_cons_zero, Act.put, List.setIfInBounds_toArray, List.set_cons_zero, List.set_cons_succ]
                  refine wpAnyH_take (i := 7) (v := ?_) rfl (by kernel_rfl) (by kernel_rfl) (by kernel_rfl) (fun _ _ _ h => h) (Or.inl ⟨by rfl, ?_⟩) (by assumption) ?_
                  rotate_left
                  · intro w hSw; (try dsimp only at hSw); go_simp; (try with_reducible rfl)
                  simp only [List.getElem_toArray, List.getElem_cons_succ, List.getElem_cons_zero, Act.put, List.setIfInBounds_toArray, List.set_cons_zero, List.set_cons_succ]
                  refine wpAnyH_take (i := 8) (v := ?_) rfl (by kernel_rfl) (by kernel_rfl) (by kernel_rfl) (fun _ _ _ h => h) (Or.inl ⟨by rfl, ?_⟩) (by assumption) ?_
                  rotate_left
                  · intro w hSw; (try dsimp only at hSw); go_simp; (try with_reducible rfl)
                  simp only [List.getElem_toArray, List.getElem_cons_succ, List.getElem_cons_zero, Act.put, List.setIfInBounds_toArray, List.set_cons_zero, List.set_cons_succ]
                  refine wpAnyH_take (i := 9) (v := ?_) rfl (by kernel_rfl) (by kernel_rfl) (by kernel_rfl) (fun _ _ _ h => h) (Or.inl ⟨by rfl, ?_⟩) (by assumption) ?_
                  rotate_left
                  · intro w hSw; (try dsimp only at hSw); go_simp; (try with_reducible rfl)
                  simp only [List.getElem_toArray, List.getElem_cons_succ, List.getElem_cons_zero, Act.put, List.setIfInBounds_toArray, List.set_cons_zero, List.set_cons_succ]
                  refine wpAnyH_take (i := 10) (v := ?_) rfl (by kernel_rfl) (by kernel_rfl) (by kernel_rfl) (fun _ _ _ h => h) (Or.inl ⟨by rfl, ?_⟩) (by assumption) ?_
                  rotate_left
                  · intro w hSw; (try dsimp only at hSw); go_simp; (try with_reducible rfl)
                  simp only [List.getElem_toArray, List.getElem_cons_succ, List.getElem_cons_zero, Act.put, List.setIfInBounds_toArray, List.set_cons_zero, List.set_cons_succ]
                  refine wpAnyH_take (i := 11) (v := ?_) rfl (by kernel_rfl) (by kernel_rfl) (by kernel_rfl) (fun _ _ _ h => h) (Or.inl ⟨by rfl, ?_⟩) (by assumption) ?_
                  rotate_left
                  · intro w hSw; (try dsimp only at hSw); go_simp; (try with_reducible rfl)
                  simp only [List.getElem_toArray, List.getElem_cons_succ, List.getElem_cons_zero, Act.put, List.setIfInBounds_toArray, List.set_cons_zero, List.set_cons_succ]
                  refine wpAnyH_take (i := 12) (v := ?_) rfl (by kernel_rfl) (by kernel_rfl) (by kernel_rfl) (fun _ _ _ h => h) (Or.inl ⟨by rfl, ?_⟩) (by assumption) ?_
                  rotate_left
                  · intro w hSw; (try dsimp only at hSw); go_simp; (try with_reducible rfl)
                  simp only [List.getElem_toArray, List.getElem_cons_succ, List.getElem_cons_zero, Act.put, List.setIfInBounds_toArray, List.set_cons_zero, List.set_cons_succ]
                  refine wpAnyH_take (i := 13) (v := ?_) rfl (by kernel_rfl) (by kernel_rfl) (by kernel_rfl) (fun _ _ _ h => h) (Or.inl ⟨by rfl, ?_⟩) (by assumption) ?_
                  rotate_left
                  · intro w hSw; (try dsimp only at hSw); go_simp; (try with_reducible rfl)
                  simp only [List.getElem_toArray, List.getElem_cons_succ, List.getElem_cons_zero, Act.put, List.setIfInBounds_toArray, List.set_cons_zero, List.set_cons_succ]
                  refine wpAnyH_take (i := 14) (v := ?_) rfl (by kernel_rfl) (by kernel_rfl) (by kernel_rfl) (fun _ _ _ h => h) (Or.inl ⟨by rfl, ?_⟩) (by assumption) ?_
                  rotate_left
                  · intro w hSw; (try dsimp only at hSw); go_simp; (try with_reducible rfl)
                  simp only [List.getElem_toArray, List.getElem_cons_succ, List.getElem_cons_zero, Act.put, List.setIfInBounds_toArray, List.set_cons_zero, List.set_cons_succ]
                  refine wpAnyH_take (i := 15) (v := ?_) rfl (by kernel_rfl) (by kernel_rfl) (by kernel_rfl) (fun _ _ _ h => h) (Or.inl ⟨by rfl, ?_⟩) (by assumption) ?_
                  rotate_left
                  · intro w hSw; (try dsimp only at hSw); go_simp; (try with_reducible rfl)
                  simp only [List.getElem_toArray, List.getElem_cons_succ, List.getElem_cons_zero, Act.put, List.setIfInBounds_toArray, List.set_cons_zero, List.set_cons_succ]
                  refine wpAnyH_take (i := 16) (v := ?_) rfl (by kernel_rfl) (by kernel_rfl) (by kernel_rfl) (fun _ _ _ h => h) (Or.inl ⟨by rfl, ?_⟩) (by assumption) ?_
                  rotate_left
                  · intro w hSw; (try dsimp only at hSw); go_simp; (try with_reducible rfl)
                  simp only [List.getElem_toArray, List.getElem_cons_succ, List.getElem_cons_zero, Act.put, List.setIfInBounds_toArray, List.set_cons_zero, List.set_cons_succ]
                  refine wpAnyH_take (i := 17) (v := ?_) rfl (by kernel_rfl) (by kernel_rfl) (by kernel_rfl) (fun _ _ _ h => h) (Or.inl ⟨by rfl, ?_⟩) (by assumption) ?_
                  rotate_left
                  · intro w hSw; (try dsimp only at hSw); go_simp; (try with_reducible rfl)
                  simp only [List.getElem_toArray, List.getElem_cons_succ, List.getElem_cons_zero, Act.put, List.setIfInBounds_toArray, List.set_cons_zero, List.set_cons_succ]
                  refine wpAnyH_take (i := 18) (v := ?_) rfl (by kernel_rfl) (by kernel_rfl) (by kernel_rfl) (fun _ _ _ h => h) (Or.inl ⟨by rfl, ?_⟩) (by assumption) ?_
                  rotate_left
                  · intro w hSw; (try dsimp only at hSw); go_simp; (try with_reducible rfl)
                  simp only [List.getElem_toArray, List.getElem_cons_succ, List.getElem_cons_zero, Act.put, List.setIfInBounds_toArray, List.set_cons_zero, List.set_cons_succ]
                  refine wpAnyH_take (i := 19) (v := ?_) rfl (by kernel_rfl) (by kernel_rfl) (by kernel_rfl) (fun _ _ _ h => h) (Or.inl ⟨by rfl, ?_⟩) (by assumption) ?_
                  rotate_left
                  · intro w hSw; (try dsimp only at hSw); go_simp; (try with_reducible rfl)
                  simp only [List.getElem_toArray, List.getElem_cons_succ, List.getElem_cons_zero, Act.put, List.setIfInBounds_toArray, List.set_cons_zero, List.set_cons_succ]
                  refine wpAnyH_take (i := 20) (v := ?_) rfl (by kernel_rfl) (by kernel_rfl) (by kernel_rfl) (fun _ _ _ h => h) (Or.inl ⟨by rfl, ?_⟩) (by assumption) ?_
                  rotate_left
                  · intro w hSw; (try dsimp only at hSw); go_simp; (try with_reducible rfl)
                  simp only [List.getElem_toArray, List.getElem_cons_succ, List.getElem_cons_zero, Act.put, List.setIfInBounds_toArray, List.set_cons_zero, List.set_cons_succ]
                  refine wpAnyH_take (i := 21) (v := ?_) rfl (by kernel_rfl) (by kernel_rfl) (by kernel_rfl) (fun _ _ _ h => h) (Or.inl ⟨by rfl, ?_⟩) (by assumption) ?_
                  rotate_left
                  · intro w hSw; (try dsimp only at hSw); go_simp; (try with_reducible rfl)
                  simp only [List.getElem_toArray, List.getElem_cons_succ, List.getElem_cons_zero, Act.put, List.setIfInBounds_toArray, List.set_cons_zero, List.set_cons_succ]
                  refine wpAnyH_take (i := 22) (v := ?_) rfl (by kernel_rfl) (by kernel_rfl) (by kernel_rfl) (fun _ _ _ h => h) (Or.inl ⟨by rfl, ?_⟩) (by assumption) ?_
                  rotate_left
                  · intro w hSw; (try dsimp only at hSw); go_simp; (try with_reducible rfl)
                  simp only [List.getElem_toArray, List.getElem_cons_succ, List.getElem_cons_zero, Act.put, List.setIfInBounds_toArray, List.set_cons_zero, List.set_cons_succ]
                  refine wpAnyH_take (i := 23) (v := ?_) rfl (by kernel_rfl) (by kernel_rfl) (by kernel_rfl) (fun _ _ _ h => h) (Or.inl ⟨by rfl, ?_⟩) (by assumption) ?_
                  rotate_left
                  · intro w hSw; (try dsimp only at hSw); go_simp; (try with_reducible rfl)
                  simp only [List.getElem_toArray, List.getElem_cons_succ, List.getElem_cons_zero, Act.put, List.setIfInBounds_toArray, List.set_cons_zero, List.set_cons_succ]
                  refine wpAnyH_take (i := 24) (v := undef) rfl (by kernel_rfl) (by kernel_rfl) (by kernel_rfl) (fun _ _ _ h => h) (Or.inr ⟨by rfl, rfl⟩) (by assumption) ?_
                  simp only [List.getElem_toArray, List.getElem_cons_succ, List.getElem_cons_zero, Act.put, List.setIfInBounds_toArray, List.set_cons_zero, List.set_cons_succ]
                  refine wpAnyH_take (i := 25) (v := undef) rfl (by kernel_rfl) (by kernel_rfl) (by kernel_rfl) (fun _ _ _ h => h) (Or.inr ⟨by rfl, rfl⟩) (by assumption) ?_
                  simp only [List.getElem_toArray, List.getElem_cons_succ, List.getElem_cons_zero, Act.put, List.setIfInBounds_toArray, List.set_cons_zero, List.set_cons_succ]
                  refine wpAnyH_take (i := 26) (v := undef) rfl (by kernel_rfl) (by kernel_rfl) (by kernel_rfl) (fun _ _ _ h => h) (Or.inr ⟨by rfl, rfl⟩) (by assumption) ?_
                  simp only [List.getElem_toArray, List.getElem_cons_succ, List.getElem_cons_zero, Act.put, List.setIfInBounds_toArray, List.set_cons_zero, List.set_cons_succ]
                  refine wpAnyH_take (i := 27) (v := undef) rfl (by kernel_rfl) (by kernel_rfl) (by kernel_rfl) (fun _ _ _ h => h) (Or.inr ⟨by rfl, rfl⟩) (by assumption) ?_
                  simp only [List.getElem_toArray, List.getElem_cons_succ, List.getElem_cons_zero, Act.put, List.setIfInBounds_toArray, List.set_cons_zero, List.set_cons_succ]
                  refine wpAnyH_take (i := 28) (v := undef) rfl (by kernel_rfl) (by kernel_rfl) (by kernel_rfl) (fun _ _ _ h => h) (Or.inr ⟨by rfl, rfl⟩) (by assumption) ?_
                  simp only [List.getElem_toArray, List.getElem_cons_succ, List.getElem_cons_zero, Act.put, List.setIfInBounds_toArray, List.set_cons_zero, List.set_cons_succ]
                  refine wpAnyH_take (i := 29) (v := ?_) rfl (by kernel_rfl) (by kernel_rfl) (by kernel_rfl) (fun _ _ _ h => h) (Or.inl ⟨by rfl, ?_⟩) (by assumption) ?_
                  rotate_left
                  · intro w hSw; (try dsimp only at hSw); go_simp; (try with_reducible rfl)
                  simp only [List.getElem_toArray, List.getElem_cons_succ, List.getElem_cons_zero, Act.put, List.setIfInBounds_toArray, List.set_cons_zero, List.set_cons_succ]
                  refine wpAnyH_take (i := 30) (v := ?_) rfl (by kernel_rfl) (by kernel_rfl) (by kernel_rfl) (fun _ _ _ h => h) (Or.inl ⟨by rfl, ?_⟩) (by assumption) ?_
                  rotate_left
                  · intro w hSw; (try dsimp only at hSw); go_simp; (try with_reducible rfl)
                  try simp only [List.getElem_toArray, List.getElem_cons_succ, List.getElem_cons_zero, Act.put, List.setIfInBounds_toArray, List.set_cons_zero, List.set_cons_succ]
                  refine wpAnyH_done (by kernel_rfl) ?_ _
                  go_wp2_with fail
                  go_roundw
                  case rel => exact ⟨k + 1, by omega, by omega, by go_num, HBR.out.trans ((below_drew (Below.refl _ _)).trans b3 |>.mono HBR.out.size)⟩
                  case measure => simp [intOf]; omega
              · have d1' : decide (tk + 200 ≤ t) = false := decide_eq_false d1
                have RX : Hid (∀ w2, Below wr.heap.size wr w2 → Calls Tryd.prog 22 #[.slice a L.length c, .int .i64 (k : Nat), .int .i64 t] w2 fun e w' => e = .returned (.bool false) ∧ Below w2.heap.size w2 w') := Lib.hid (fun w2 b => by
                  have h := RK1.out w2 b
                  simp only [decide_eq_false d1, Bool.true_and, Bool.false_and] at h
                  exact h)
                clear RK1
                refine wp_region_held_drew (S := fun w' => w'.cell? ⟨b0, k, none⟩ = some (.bool true) ∧ w'.cell? ⟨b1, k, none⟩ = some (.int .i64 tk) ∧ w'.cell? ⟨b2, k, none⟩ = some (.int .i64 nk)) (by kernel_rfl) ?_ (fun hHeld => ?_)
                · exact P3.out _ (below_drew (Below.refl _ _))
                refine wpAnyH_take (i := 0) (v := ?_) rfl (by kernel_rfl) (by kernel_rfl) (by kernel_rfl) (fun _ _ _ h => h) (Or.inl ⟨by rfl, ?_⟩) (by assumption) ?_
                rotate_left
                · intro w hSw; (try dsimp only at hSw); go_simp; (try with_reducible rfl)
                simp only [List.getElem_toArray, List.getElem_cons_zero, Act.put, List.setIfInBounds_toArray, List.set_cons_zero, List.set_cons_succ]
                refine wpAnyH_take (i := 1) (v := ?_) rfl (by kernel_rfl) (by kernel_rfl) (by kernel_rfl) (fun _ _ _ h => h) (Or.inl ⟨by rfl, ?_⟩) (by assumption) ?_
                rotate_left
                · intro w hSw; (try dsimp only at hSw); go_simp; (try with_reducible rfl)
                simp only [List.getElem_toArray, List.getElem_cons_succ, List.getElem_cons_zero, Act.put, List.setIfInBounds_toArray, List.set_cons_zero, List.set_cons_succ]
                refine wpAnyH_take (i := 2) (v := ?_) rfl (by kernel_rfl) (by kernel_rfl) (by kernel_rfl) (fun _ _ _ h => h) (Or.inl ⟨by rfl, ?_⟩) (by assumption) ?_
                rotate_left
                · intro w hSw; (try dsimp only at hSw); go_simp; (try with_reducible rfl)
                simp only [List.getElem_toArray, List.getElem_cons_succ, List.getElem_cons_zero, Act.put, List.setIfInBounds_toArray, List.set_cons_zero, List.set_cons_succ]
                refine wpAnyH_take (i := 4) (v := ?_) rfl (by kernel_rfl) (by kernel_rfl) (by kernel_rfl) (fun _ _ _ h => h) (Or.inl ⟨by rfl, ?_⟩) (by assumption) ?_
                rotate_left
                · intro w hSw; (try dsimp only at hSw); go_simp; (try with_reducible rfl)
                simp only [List.getElem_toArray, List.getElem_cons_succ, List.getElem_cons_zero, Act.put, List.setIfInBounds_toArray, List.set_cons_zero, List.set_cons_succ]
                refine wpAnyH_take (i := 5) (v := ?_) rfl (by kernel_rfl) (by kernel_rfl) (by kernel_rfl) (fun _ _ _ h => h) (Or.inl ⟨by rfl, ?_⟩) (by assumption) ?_
                rotate_left
                · intro w hSw; (try dsimp only at hSw); go_simp; (try with_reducible rfl)
                simp only [List.getElem_toArray, List.getElem_cons_succ, List.getElem_cons_zero, Act.put, List.setIfInBounds_toArray, List.set_cons_zero, List.set_cons_succ]
                refine wpAnyH_take (i := 6) (v := ?_) rfl (by kernel_rfl) (by kernel_rfl) (by kernel_rfl) (fun _ _ _ h => h) (Or.inl ⟨by rfl, ?_⟩) (by assumption) ?_
                rotate_left
                · intro w hSw; (try dsimp only at hSw); go_simp; (try with_reducible rfl)
                simp only [List.getElem_toArray, List.getElem_cons_succ, List.getElem_cons_zero, Act.put, List.setIfInBounds_toArray, List.set_cons_zero, List.set_cons_succ]
                refine wpAnyH_ready (rs := [3]) (by kernel_rfl) (by simp) ?_
                refine AllReadyH.cons rfl (fun K hK => ?_) AllReadyH.nil
                go_simp
                (go_at_call 22; (refine (RX.out _ (below_drew (Below.refl _ _))).mono ?_); rintro e w3 ⟨rfl, b3⟩; obtain ⟨q0, q1, q2⟩ := P3.out w3 ((below_drew (Below.refl _ _)).trans b3))
                refine hK.out _ _ ?_ (fun hHeld2 => ?_)
                · exact ⟨q0, q1, q2⟩
                clear hK K hHeld
                try simp only [List.getElem_toArray, List.getElem_cons_succ, List.getElem_cons_zero, Act.put, List.setIfInBounds_toArray, List.set_cons_zero, List.set_cons_succ]
                refine wpAnyH_take (i := 7) (v := ?_) rfl (by kernel_rfl) (by kernel_rfl) (by kernel_rfl) (fun _ _ _ h => h) (Or.inl ⟨by rfl, ?_⟩) (by assumption) ?_
                rotate_left
                · intro w hSw; (try dsimp only at hSw); go_simp; (try with_reducible rfl)
                simp only [List.getElem_toArray, List.getElem_cons_succ, List.getElem_cons_zero, Act.put, List.setIfInBounds_toArray, List.set_cons_zero, List.set_cons_succ]
                refine wpAnyH_take (i := 8) (v := ?_) rfl (by kernel_rfl) (by kernel_rfl) (by kernel_rfl) (fun _ _ _ h => h) (Or.inl ⟨by rfl, ?_⟩) (by assumption) ?_
                rotate_left
                · intro w hSw; (try dsimp only at hSw); go_simp; (try with_reducible rfl)
                simp only [List.getElem_toArray, List.getElem_cons_succ, List.getElem_cons_zero, Act.put, List.setIfInBounds_toArray, List.set_cons_zero, List.set_cons_succ]
                refine wpAnyH_take (i := 9) (v := ?_) rfl (by kernel_rfl) (by kernel_rfl) (by kernel_rfl) (fun _ _ _ h => h) (Or.inl ⟨by rfl, ?_⟩) (by assumption) ?_
                rotate_left
                · intro w hSw; (try dsimp only at hSw); go_simp; (try with_reducible rfl)
                simp only [List.getElem_toArray, List.getElem_cons_succ, List.getElem_cons_zero, Act.put, List.setIfInBounds_toArray, List.set_cons_zero, List.set_cons_succ]
                refine wpAnyH_take (i := 10) (v := ?_) rfl (by kernel_rfl) (by kernel_rfl) (by kernel_rfl) (fun _ _ _ h => h) (Or.inl ⟨by rfl, ?_⟩) (by assumption) ?_
                rotate_left
                · intro w hSw; (try dsimp only at hSw); go_simp; (try with_reducible rfl)
                simp only [List.getElem_toArray, List.getElem_cons_succ, List.getElem_cons_zero, Act.put, List.setIfInBounds_toArray, List.set_cons_zero, List.set_cons_succ]
                refine wpAnyH_take (i := 11) (v := ?_) rfl (by kernel_rfl) (by kernel_rfl) (by kernel_rfl) (fun _ _ _ h => h) (Or.inl ⟨by rfl, ?_⟩) (by assumption) ?_
                rotate_left
                · intro w hSw; (try dsimp only at hSw); go_simp; (try with_reducible rfl)
                simp only [List.getElem_toArray, List.getElem_cons_succ, List.getElem_cons_zero, Act.put, List.setIfInBounds_toArray, List.set_cons_zero, List.set_cons_succ]
                refine wpAnyH_take (i := 12) (v := ?_) rfl (by kernel_rfl) (by kernel_rfl) (by kernel_rfl) (fun _ _ _ h => h) (Or.inl ⟨by rfl, ?_⟩) (by assumption) ?_
                rotate_left
                · intro w hSw; (try dsimp only at hSw); go_simp; (try with_reducible rfl)
                simp only [List.getElem_toArray, List.getElem_cons_succ, List.getElem_cons_zero, Act.put, List.setIfInBounds_toArray, List.set_cons_zero, List.set_cons_succ]
                refine wpAnyH_take (i := 13) (v := ?_) rfl (by kernel_rfl) (by kernel_rfl) (by kernel_rfl) (fun _ _ _ h => h) (Or.inl ⟨by rfl, ?_⟩) (by assumption) ?_
                rotate_left
                · intro w hSw; (try dsimp only at hSw); go_simp; (try with_reducible rfl)
                simp only [List.getElem_toArray, List.getElem_cons_succ, List.getElem_cons_zero, Act.put, List.setIfInBounds_toArray, List.set_cons_zero, List.set_cons_succ]
                refine wpAnyH_take (i := 14) (v := ?_) rfl (by kernel_rfl) (by kernel_rfl) (by kernel_rfl) (fun _ _ _ h => h) (Or.inl ⟨by rfl, ?_⟩) (by assumption) ?_
                rotate_left
                · intro w hSw; (try dsimp only at hSw); go_simp; (try with_reducible rfl)
                simp only [List.getElem_toArray, List.getElem_cons_succ, List.getElem_cons_zero, Act.put, List.setIfInBounds_toArray, List.set_cons_zero, List.set_cons_succ]
                refine wpAnyH_take (i := 15) (v := ?_) rfl (by kernel_rfl) (by kernel_rfl) (by kernel_rfl) (fun _ _ _ h => h) (Or.inl ⟨by rfl, ?_⟩) (by assumption) ?_
                rotate_left
                · intro w hSw; (try dsimp only at hSw); go_simp; (try with_reducible rfl)
                simp only [List.getElem_toArray, List.getElem_cons_succ, List.getElem_cons_zero, Act.put, List.setIfInBounds_toArray, List.set_cons_zero, List.set_cons_succ]
                refine wpAnyH_take (i := 16) (v := undef) rfl (by kernel_rfl) (by kernel_rfl) (by kernel_rfl) (fun _ _ _ h => h) (Or.inr ⟨by rfl, rfl⟩) (by assumption) ?_
                simp only [List.getElem_toArray, List.getElem_cons_succ, List.getElem_cons_zero, Act.put, List.setIfInBounds_toArray, List.set_cons_zero, List.set_cons_succ]
                refine wpAnyH_take (i := 17) (v := undef) rfl (by kernel_rfl) (by kernel_rfl) (by kernel_rfl) (fun _ _ _ h => h) (Or.inr ⟨by rfl, rfl⟩) (by assumption) ?_
                simp only [List.getElem_toArray, List.getElem_cons_succ, List.getElem_cons_zero, Act.put, List.setIfInBounds_toArray, List.set_cons_zero, List.set_cons_succ]
                refine wpAnyH_take (i := 18) (v := undef) rfl (by kernel_rfl) (by kernel_rfl) (by kernel_rfl) (fun _ _ _ h => h) (Or.inr ⟨by rfl, rfl⟩) (by assumption) ?_
                simp only [List.getElem_toArray, List.getElem_cons_succ, List.getElem_cons_zero, Act.put, List.setIfInBounds_toArray, List.set_cons_zero, List.set_cons_succ]
                refine wpAnyH_take (i := 19) (v := undef) rfl (by kernel_rfl) (by kernel_rfl) (by kernel_rfl) (fun _ _ _ h => h) (Or.inr ⟨by rfl, rfl⟩) (by assumption) ?_
                simp only [List.getElem_toArray, List.getElem_cons_succ, List.getElem_cons_zero, Act.put, List.setIfInBounds_toArray, List.set_cons_zero, List.set_cons_succ]
                refine wpAnyH_take (i := 20) (v := undef) rfl (by kernel_rfl) (by kernel_rfl) (by kernel_rfl) (fun _ _ _ h => h) (Or.inr ⟨by rfl, rfl⟩) (by assumption) ?_
                simp only [List.getElem_toArray, List.getElem_cons_succ, List.getElem_cons_zero, Act.put, List.setIfInBounds_toArray, List.set_cons_zero, List.set_cons_succ]
                refine wpAnyH_take (i := 21) (v := undef) rfl (by kernel_rfl) (by kernel_rfl) (by kernel_rfl) (fun _ _ _ h => h) (Or.inr ⟨by rfl, rfl⟩) (by assumption) ?_
                simp only [List.getElem_toArray, List.getElem_cons_succ, List.getElem_cons_zero, Act.put, List.setIfInBounds_toArray, List.set_cons_zero, List.set_cons_succ]
                refine wpAnyH_take (i := 22) (v := ?_) rfl (by kernel_rfl) (by kernel_rfl) (by kernel_rfl) (fun _ _ _ h => h) (Or.inl ⟨by rfl, ?_⟩) (by assumption) ?_
                rotate_left
                · intro w hSw; (try dsimp only at hSw); go_simp; (try with_reducible rfl)
                simp only [List.getElem_toArray, List.getElem_cons_succ, List.getElem_cons_zero, Act.put, List.setIfInBounds_toArray, List.set_cons_zero, List.set_cons_succ]
                refine wpAnyH_take (i := 23) (v := ?_) rfl (by kernel_rfl) (by kernel_rfl) (by kernel_rfl) (fun _ _ _ h => h) (Or.inl ⟨by rfl, ?_⟩) (by assumption) ?_
                rotate_left
                · intro w hSw; (try dsimp only at hSw); go_simp; (try with_reducible rfl)
                simp only [List.getElem_toArray, List.getElem_cons_succ, List.getElem_cons_zero, Act.put, List.setIfInBounds_toArray, List.set_cons_zero, List.set_cons_succ]
                refine wpAnyH_take (i := 24) (v := undef) rfl (by kernel_rfl) (by kernel_rfl) (by kernel_rfl) (fun _ _ _ h => h) (Or.inr ⟨by rfl, rfl⟩) (by assumption) ?_
                simp only [List.getElem_toArray, List.getElem_cons_succ, List.getElem_cons_zero, Act.put, List.setIfInBounds_toArray, List.set_cons_zero, List.set_cons_succ]
                refine wpAnyH_take (i := 25) (v := undef) rfl (by kernel_rfl) (by kernel_rfl) (by kernel_rfl) (fun _ _ _ h => h) (Or.inr ⟨by rfl, rfl⟩) (by assumption) ?_
                simp only [List.getElem_toArray, List.getElem_cons_succ, List.getElem_cons_zero, Act.put, List.setIfInBounds_toArray, List.set_cons_zero, List.set_cons_succ]
                refine wpAnyH_take (i := 26) (v := undef) rfl (by kernel_rfl) (by kernel_rfl) (by kernel_rfl) (fun _ _ _ h => h) (Or.inr ⟨by rfl, rfl⟩) (by assumption) ?_
                simp only [List.getElem_toArray, List.getElem_cons_succ, List.getElem_cons_zero, Act.put, List.setIfInBounds_toArray, List.set_cons_zero, List.set_cons_succ]
                refine wpAnyH_take (i := 27) (v := undef) rfl (by kernel_rfl) (by kernel_rfl) (by kernel_rfl) (fun _ _ _ h => h) (Or.inr ⟨by rfl, rfl⟩) (by assumption) ?_
                simp only [List.getElem_toArray, List.getElem_cons_succ, List.getElem_cons_zero, Act.put, List.setIfInBounds_toArray, List.set_cons_zero, List.set_cons_succ]
                refine wpAnyH_take (i := 28) (v := undef) rfl (by kernel_rfl) (by kernel_rfl) (by kernel_rfl) (fun _ _ _ h => h) (Or.inr ⟨by rfl, rfl⟩) (by assumption) ?_
                simp only [List.getElem_toArray, List.getElem_cons_succ, List.getElem_cons_zero, Act.put, List.setIfInBounds_toArray, List.set_cons_zero, List.set_cons_succ]
                refine wpAnyH_take (i := 29) (v := ?_) rfl (by kernel_rfl) (by kernel_rfl) (by kernel_rfl) (fun _ _ _ h => h) (Or.inl ⟨by rfl, ?_⟩) (by assumption) ?_
                rotate_left
                · intro w hSw; (try dsimp only at hSw); go_simp; (try with_reducible rfl)
                simp only [List.getElem_toArray, List.getElem_cons_succ, List.getElem_cons_zero, Act.put, List.setIfInBounds_toArray, List.set_cons_zero, List.set_cons_succ]
                refine wpAnyH_take (i := 30) (v := ?_) rfl (by kernel_rfl) (by kernel_rfl) (by kernel_rfl) (fun _ _ _ h => h) (Or.inl ⟨by rfl, ?_⟩) (by assumption) ?_
                rotate_left
                · intro w hSw; (try dsimp only at hSw); go_simp; (try with_reducible rfl)
                try simp only [List.getElem_toArray, List.getElem_cons_succ, List.getElem_cons_zero, Act.put, List.setIfInBounds_toArray, List.set_cons_zero, List.set_cons_succ]
                refine wpAnyH_done (by kernel_rfl) ?_ _
                go_wp2_with fail
                go_roundw
                case rel => exact ⟨k + 1, by omega, by omega, by go_num, HBR.out.trans ((below_drew (Below.refl _ _)).trans b3 |>.mono HBR.out.size)⟩
                case measure => simp [intOf]; omega
      · have hk' : ¬ (k : Int) < 13 := by omega
        clear hb
        go_wp2_with (go_at_call 16; (refine (CK.out _ HBR.out).mono ?_); rintro e w3 ⟨rfl, b3⟩)
        go_ret
        exact ⟨rfl, WB.out.trans ((HBR.out.trans (b3.mono HBR.out.size)).mono WB.out.size)⟩
end Go.Proofs.YtcidllckmidkoaaDoor
