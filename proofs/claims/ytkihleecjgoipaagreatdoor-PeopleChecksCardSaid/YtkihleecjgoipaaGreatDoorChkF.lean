/- The law's short and few. -/
import Derived.Test.YtkihleecjgoipaaGreatDoorMg5
import Derived.Test.YtkihleecjgoipaaGreatDoorSesF
import Derived.Test.YtkihleecjgoipaaGreatDoorMg6
import Derived.Deep.CutBlock
namespace Go.Proofs.YtkihleecjgoipaaGreatDoor
open Go.RowKit Go.Maps Go.Proofs.YtkihleecjgoipaaGreatDoor.Rw

theorem short_any (s : ByteArray) (w : World) : Calls Tryz.prog 7 #[.string s, .int .i64 50] w fun e w' => (∃ t, e = .returned (.string t) ∧ t.size ≤ 50) ∧ w' = w := by
  by_cases h : 50 < s.size
  · have h1 : (50 : Int) < s.size := by omega
    have h2 : (50 : Int) ≤ s.size := by omega
    have h3 : 50 ≤ s.size := by omega
    go_enter Tryz.func7, Tryz.ntmps7
    go_wp2_with fail
    go_ret
    exact ⟨⟨_, rfl, by simp; omega⟩, rfl⟩
  · have h1 : ¬ (50 : Int) < s.size := by omega
    go_enter Tryz.func7, Tryz.ntmps7
    go_wp2_with fail
    go_ret
    exact ⟨⟨s, rfl, by omega⟩, rfl⟩
theorem Per.In.get {w : World} {b q : Nat} {o : Per.R} (h : Per.In w b q o) : w.cell? ⟨b, q, none⟩ = some (.int .i64 o.id) ∧ w.cell? ⟨b, q + 1, none⟩ = some (.string o.mail) ∧ w.cell? ⟨b, q + 2, none⟩ = some (.bool o.ver) ∧ w.cell? ⟨b, q + 3, none⟩ = some (.string o.salt) ∧ w.cell? ⟨b, q + 4, none⟩ = some (.string o.chk) ∧ w.cell? ⟨b, q + 5, none⟩ = some (.int .i64 o.vers) ∧ w.cell? ⟨b, q + 6, none⟩ = some (.int .i64 o.miss) ∧ w.cell? ⟨b, q + 7, none⟩ = some (.int .i64 o.lock) ∧ w.cell? ⟨b, q + 8, none⟩ = some (.string o.c0) ∧ w.cell? ⟨b, q + 9, none⟩ = some (.string o.c1) ∧ w.cell? ⟨b, q + 10, none⟩ = some (.string o.c2) ∧ w.cell? ⟨b, q + 11, none⟩ = some (.string o.c3) ∧ w.cell? ⟨b, q + 12, none⟩ = some (.string o.c4) :=
  ⟨h 0 _ rfl, h 1 _ rfl, h 2 _ rfl, h 3 _ rfl, h 4 _ rfl, h 5 _ rfl, h 6 _ rfl, h 7 _ rfl, h 8 _ rfl, h 9 _ rfl, h 10 _ rfl, h 11 _ rfl, h 12 _ rfl⟩
theorem Ses.In.get {w : World} {b q : Nat} {o : Ses.R} (h : Ses.In w b q o) : w.cell? ⟨b, q, none⟩ = some (.string o.dig) ∧ w.cell? ⟨b, q + 1, none⟩ = some (.int .i64 o.acc) ∧ w.cell? ⟨b, q + 2, none⟩ = some (.int .i64 o.exp) :=
  ⟨h 0 _ rfl, h 1 _ rfl, h 2 _ rfl⟩
def Sml (y : Per.R) : Prop := y.mail.size ≤ 4000000000 ∧ ∀ c ∈ y.cs, c.size ≤ 4000000000
def Sz (x : Ppl) : Prop := x.ps.length ≤ 13 ∧ x.ss.length ≤ 17 ∧ ∀ y ∈ x.ps, Sml y
theorem sml_of {y : Per.R} (h1 : y.mail.size ≤ 50) (h2 : ∀ j, j < 5 → (y.cs.getD j ByteArray.empty).size ≤ 50) : Sml y := by
  refine ⟨by omega, fun c hc => ?_⟩
  obtain ⟨j, hj, rfl⟩ := List.mem_iff_getElem.1 hc
  have := h2 j hj
  rw [List.getD_eq_getElem?_getD, List.getElem?_eq_getElem hj, Option.getD_some] at this
  omega
theorem putCF_cs (x : Per.R) (k : Nat) (hk : k < 5) (m : ByteArray) : (putC x k m).mail = x.mail ∧ ∀ j, j < 5 → (putC x k m).cs.getD j ByteArray.empty = if j = k then m else x.cs.getD j ByteArray.empty := by
  match k, hk with
  | 0, _ => exact ⟨rfl, fun j hj => by match j, hj with | 0, _ => rfl | 1, _ => rfl | 2, _ => rfl | 3, _ => rfl | 4, _ => rfl⟩
  | 1, _ => exact ⟨rfl, fun j hj => by match j, hj with | 0, _ => rfl | 1, _ => rfl | 2, _ => rfl | 3, _ => rfl | 4, _ => rfl⟩
  | 2, _ => exact ⟨rfl, fun j hj => by match j, hj with | 0, _ => rfl | 1, _ => rfl | 2, _ => rfl | 3, _ => rfl | 4, _ => rfl⟩
  | 3, _ => exact ⟨rfl, fun j hj => by match j, hj with | 0, _ => rfl | 1, _ => rfl | 2, _ => rfl | 3, _ => rfl | 4, _ => rfl⟩
  | 4, _ => exact ⟨rfl, fun j hj => by match j, hj with | 0, _ => rfl | 1, _ => rfl | 2, _ => rfl | 3, _ => rfl | 4, _ => rfl⟩
/-- A contact of the person in a box is put. -/
theorem box_putC {w : World} {b j : Nat} {y : Per.R} (h : w.heap[b]? = some y.obj) (hj : j < 5) (t : ByteArray) : (w.setCell ⟨b, 8 + j, none⟩ (.string t)).heap[b]? = some (putC y j t).obj := by
  have h1 := heap_setCell_same w b (8 + j) y.cells.toArray 34 (.string t) h
  rw [h1]
  rw [List.setIfInBounds_toArray, ← putC_cells y j hj t]
  rfl
theorem box_three {w : World} {b : Nat} {y : Per.R} (h : w.heap[b]? = some y.obj) (t1 t3 t4 : ByteArray) : (((w.setCell ⟨b, 1, none⟩ (.string t1)).setCell ⟨b, 3, none⟩ (.string t3)).setCell ⟨b, 4, none⟩ (.string t4)).heap[b]? = some ({ y with mail := t1, salt := t3, chk := t4 } : Per.R).obj := by
  have h1 := heap_setCell_same w b 1 _ 34 (.string t1) h
  have h2 := heap_setCell_same _ b 3 _ 34 (.string t3) h1
  have h3 := heap_setCell_same _ b 4 _ 34 (.string t4) h2
  refine h3.trans ?_
  simp only [List.setIfInBounds_toArray, List.set_cons_zero, List.set_cons_succ, Per.R.obj]
theorem sbox_one {w : World} {b : Nat} {y : Ses.R} (h : w.heap[b]? = some y.obj) (t : ByteArray) : (w.setCell ⟨b, 0, none⟩ (.string t)).heap[b]? = some ({ y with dig := t } : Ses.R).obj := by
  have h1 := heap_setCell_same w b 0 _ 37 (.string t) h
  refine h1.trans ?_
  simp only [List.setIfInBounds_toArray, List.set_cons_zero, Ses.R.obj]
theorem pbox_fst {w : World} {b : Nat} {s1 s2 : Value} (h : w.heap[b]? = some (pobj s1 s2)) (x : Value) : (w.setCell ⟨b, 0, none⟩ x).heap[b]? = some (pobj x s2) := by
  have h1 := heap_setCell_same w b 0 #[s1, s2] 25 x h
  rw [h1]
  rfl
theorem pbox_snd {w : World} {b : Nat} {s1 s2 : Value} (h : w.heap[b]? = some (pobj s1 s2)) (x : Value) : (w.setCell ⟨b, 1, none⟩ x).heap[b]? = some (pobj s1 x) := by
  have h1 := heap_setCell_same w b 1 #[s1, s2] 25 x h
  rw [h1]
  rfl
set_option maxHeartbeats 8000000 in
set_option maxRecDepth 100000 in
theorem few_any (a0 a1 : Option Addr) (len cap len' cap' : Nat) (W : World)
    (hp : ∀ i, i < len → ∃ b off o, a0 = some ⟨b, off, none⟩ ∧ b < W.heap.size ∧ Per.In W b (off + i * 13) o)
    (hs : ∀ i, i < len' → ∃ b off o, a1 = some ⟨b, off, none⟩ ∧ b < W.heap.size ∧ Ses.In W b (off + i * 3) o) :
    Calls Tryz.prog 5 #[.agg #[.slice a0 len cap, .slice a1 len' cap']] W fun e W' => ∃ v x, e = .returned v ∧ Sz x ∧ pown W' W.heap.size v x ∧ Below W.heap.size W W' := by
  have b1 : Below W.heap.size W (W.alloc (pobj (.slice a0 len cap) (.slice a1 len' cap'))) := (Below.refl _ _).alloc (Nat.le_refl _) _
  have z1 : (W.alloc (pobj (.slice a0 len cap) (.slice a1 len' cap'))).heap.size = W.heap.size + 1 := by simp
  have b2 := (Below.refl (W.heap.size + 1) (W.alloc (pobj (.slice a0 len cap) (.slice a1 len' cap')))).alloc (by omega) (pobj (.slice none 0 0) (.slice none 0 0))
  have z2 : ((W.alloc (pobj (.slice a0 len cap) (.slice a1 len' cap'))).alloc (pobj (.slice none 0 0) (.slice none 0 0))).heap.size = W.heap.size + 2 := by simp
  have b3 := b2.alloc (by omega) (pobj (.slice none 0 0) (.slice none 0 0))
  have z3 : (((W.alloc (pobj (.slice a0 len cap) (.slice a1 len' cap'))).alloc (pobj (.slice none 0 0) (.slice none 0 0))).alloc (pobj (.slice none 0 0) (.slice none 0 0))).heap.size = W.heap.size + 3 := by simp
  have h1 : (((W.alloc (pobj (.slice a0 len cap) (.slice a1 len' cap'))).alloc (pobj (.slice none 0 0) (.slice none 0 0))).alloc (pobj (.slice none 0 0) (.slice none 0 0))).heap[W.heap.size + 1]? = some (pobj (.slice none 0 0) (.slice none 0 0)) := by
    rw [Lib.alloc_old _ _ _ (by omega), ← z1]; exact heap_new _ _
  have h2 : (((W.alloc (pobj (.slice a0 len cap) (.slice a1 len' cap'))).alloc (pobj (.slice none 0 0) (.slice none 0 0))).alloc (pobj (.slice none 0 0) (.slice none 0 0))).heap[W.heap.size + 2]? = some (pobj (.slice none 0 0) (.slice none 0 0)) := by
    rw [← z2]; exact heap_new _ _
  have PX : Hid (∀ w2, Below (W.heap.size + 1) (W.alloc (pobj (.slice a0 len cap) (.slice a1 len' cap'))) w2 → w2.cell? ⟨W.heap.size, 0, none⟩ = some (.slice a0 len cap) ∧ w2.cell? ⟨W.heap.size, 1, none⟩ = some (.slice a1 len' cap')) := Lib.hid (fun w2 b => pbox_later _ _ (Nat.lt_succ_self _) b)
  have BB : Hid (∀ w2, Below (W.heap.size + 1) (W.alloc (pobj (.slice a0 len cap) (.slice a1 len' cap'))) w2 → Below W.heap.size W w2) := Lib.hid (fun w2 b => b1.trans (b.mono (by omega)))
  have SH := Lib.hid short_any
  have B3 := Lib.hid b3
  have H1 := Lib.hid h1
  have H2 := Lib.hid h2
  have S3 := Lib.hid z3
  obtain ⟨x0, x1⟩ := PX.out _ b3
  obtain ⟨⟨y0, y1⟩, _⟩ := pcell_of h2
  clear b1 z1 b2 z2 b3 z3 h1 h2
  unfold pobj at *
  go_enter Tryz.func5, Tryz.ntmps5
  go_wp2_with fail
  go_loopw [4] (fun i wr => ∃ (n : Nat) (L : List Per.R) (a : Option Addr) (c : Nat), n ≤ 13 ∧ n ≤ len ∧ i = .int .i64 n ∧ L.length = n ∧ (∀ y ∈ L, Sml y) ∧ Per.owns wr (W.heap.size + 3) (.slice a L.length c) L ∧ wr.heap[W.heap.size + 2]? = some (pobj (.slice a L.length c) (.slice none 0 0)) ∧ wr.heap[W.heap.size + 1]? = some (pobj (.slice none 0 0) (.slice none 0 0)) ∧ Below (W.heap.size + 1) (W.alloc (.cells #[.slice a0 len cap, .slice a1 len' cap'] 25)) wr ∧ W.heap.size + 3 ≤ wr.heap.size) (fun i _ => len - (intOf i).toNat)
  case atStart => exact ⟨0, [], none, 0, by omega, Nat.zero_le _, rfl, rfl, fun _ h => (List.not_mem_nil h).elim, Per.owns.nil _ _, H2.out, H1.out, B3.out, by rw [S3.out]; exact Nat.le_refl _⟩
  case round =>
    obtain ⟨n, L, a, c, hn13, hnl, rfl, hL, hsm, ho, hx, hr, bel, hsz⟩ := hrel
    have HO := Lib.hid ho
    have HX := Lib.hid hx
    have HR := Lib.hid hr
    have WB := Lib.hid bel
    have SM := Lib.hid hsm
    have HL := Lib.hid hL
    have HZ := Lib.hid hsz
    obtain ⟨p0, p1⟩ := PX.out _ bel
    obtain ⟨⟨pc0, pc1⟩, pcf⟩ := pcell_of hx
    by_cases hAB : n < len ∧ n < 13
    · obtain ⟨hA, hB⟩ := hAB
      · have hA' : (n : Int) < len := by omega
        have hB' : (n : Int) < 13 := by omega
        have hn0' : (0 : Int) ≤ n := by omega
        obtain ⟨b, off, o, rfl, hb0, hin⟩ := hp n hA
        obtain ⟨m0, m1, m2, m3, m4, m5, m6, m7, m8, m9, m10, m11, m12⟩ := (hin.below (BB.out _ bel) hb0).get
        have N0 := Lib.hid (heap_new wr o.obj)
        have BX := (Below.refl wr.heap.size wr).alloc (Nat.le_refl _) o.obj
        have XF := Lib.hid (fun j => Per.box_free wr o j)
        obtain ⟨q0, q1, q2, q3, q4, q5, q6, q7, q8, q9, q10, q11, q12⟩ := Per.box wr o
        have xf := XF.out
        have T3 := Lib.hid (fun t1 t3 t4 => box_three N0.out t1 t3 t4)
        obtain ⟨oid, omail, over, osalt, ochk, overs, omiss, olock, oc0, oc1, oc2, oc3, oc4⟩ := o
        unfold Per.R.obj at N0 BX XF q0 q1 q2 q3 q4 q5 q6 q7 q8 q9 q10 q11 q12 xf T3
        simp only at *
        have BXH := Lib.hid BX
        clear hp hs ho hx hr bel hsm hsz hin BX hL
        go_upto_region 7 with (go_at_call 7; (refine (SH.out _ _).mono ?_); rintro z w2 ⟨⟨t1, rfl, ht1⟩, rfl⟩)
        go_upto_region 8 with (go_at_call 7; (refine (SH.out _ _).mono ?_); rintro z w2 ⟨⟨t3, rfl, ht3⟩, rfl⟩)
        go_wp2_with (go_at_call 7; (refine (SH.out _ _).mono ?_); rintro z w2 ⟨⟨t4, rfl, ht4⟩, rfl⟩)
        obtain ⟨wo, hwo⟩ : ∃ wo, wo = wr := ⟨_, rfl⟩
        subst hwo
        go_loopw [6] (fun i wq => ∃ (j : Nat) (y : Per.R), j ≤ 5 ∧ i = .int .i64 j ∧ y.mail.size ≤ 50 ∧ (∀ k, k < j → (y.cs.getD k ByteArray.empty).size ≤ 50) ∧ wq.heap[wo.heap.size]? = some y.obj ∧ Below wo.heap.size wo wq ∧ wo.heap.size + 1 ≤ wq.heap.size) (fun i _ => 5 - (intOf i).toNat)
        case atStart => exact ⟨0, ⟨oid, t1, over, t3, t4, overs, omiss, olock, oc0, oc1, oc2, oc3, oc4⟩, by omega, rfl, ht1, fun k hk => (Nat.not_lt_zero k hk).elim, heap_new _ _, (Below.refl wo.heap.size wo).alloc (Nat.le_refl _) _, by simp⟩
        case round =>
          obtain ⟨j, y, hj, rfl, hm, hc, hy, hbq, hqs⟩ := hrel
          have HY := Lib.hid hy
          have BQ := Lib.hid hbq
          have HC := Lib.hid hc
          have HM := Lib.hid hm
          have HQS := Lib.hid hqs
          have WQ := Lib.hid (WB.out.trans (hbq.mono (show W.heap.size + 1 ≤ wo.heap.size by have := HZ.out; omega)))
          obtain ⟨y0, y1, y2, y3, y4, y5, y6, y7, y8, y9, y10, y11, y12⟩ := Per.At.of_heap hy
          have yf := fun j => frozen_of_row _ _ j _ _ hy
          by_cases hj5 : j < 5
          · have hj5' : (j : Int) < 5 := by omega
            have hj0 : (0 : Int) ≤ j := by omega
            have hcs : wr.cell? ⟨wo.heap.size, 8 + j, none⟩ = some (.string (y.cs.getD j ByteArray.empty)) := CsAt.of y8 y9 y10 y11 y12 j hj5
            clear hy hbq hc hm hqs y0 y1 y2 y3 y4 y5 y6 y7 y8 y9 y10 y11 y12
            go_wp2_with (go_at_call 7; (refine (SH.out _ _).mono ?_); rintro z w2 ⟨⟨t5, rfl, ht5⟩, rfl⟩)
            go_roundw
            case rel => exact ⟨j + 1, putC y j t5, by omega, by go_num, by rw [(putCF_cs y j hj5 t5).1]; exact HM.out, fun k hk => by
              rw [(putCF_cs y j hj5 t5).2 k (by omega)]
              by_cases e : k = j
              · rw [if_pos e]; exact ht5
              · rw [if_neg e]; exact HC.out k (by omega), box_putC HY.out hj5 t5, BQ.out.setCell (Nat.le_refl _) _, by simpa using HQS.out⟩
            case measure => simp [intOf]; omega
          · have hj5' : ¬ (j : Int) < 5 := by omega
            obtain rfl : j = 5 := by omega
            have SMY := Lib.hid (sml_of hm (fun k hk => hc k hk))
            have HXW := Lib.hid ((hbq.block (W.heap.size + 2) (heap_lt HX.out)).trans HX.out)
            have HRW := Lib.hid ((hbq.block (W.heap.size + 1) (heap_lt HR.out)).trans HR.out)
            have HOW := HO.out.below hbq
            obtain ⟨⟨u0, u1⟩, uf⟩ := pcell_of HXW.out
            have ba : Below (W.heap.size + 1) (W.alloc (.cells #[.slice (some ⟨b, off, none⟩) len cap, .slice a1 len' cap'] 25)) (wr.alloc y.obj) := WQ.out.alloc (by have := HZ.out; omega) _
            have hq : (wr.alloc y.obj).heap[wr.heap.size]? = some (.cells y.cells.toArray 34) := heap_new wr _
            have hzA : W.heap.size + 3 ≤ (wr.alloc y.obj).heap.size := by have := HZ.out; simp; omega
            have hOA := HOW.below ((Below.refl wr.heap.size wr).alloc (Nat.le_refl _) y.obj)
            obtain ⟨a8, c8, w8, ra, o8, g8⟩ := Per.push y hOA hzA (by rw [HL.out]; omega) hq 22
            have hne : ∀ b, b < W.heap.size + 3 → some b ≠ (Value.slice a L.length c).ownBlock := fun b hb e => by have := (World.ownsRow.lt hOA _ e.symm).1; omega
            have B8 := Lib.hid (ba.grown g8 (by omega) (fun j hj => by have := (World.ownsRow.lt hOA j hj).1; omega))
            have HX8 := Lib.hid ((g8.block (W.heap.size + 2) (by omega) (hne _ (by omega))).trans ((Lib.alloc_old wr y.obj _ (heap_lt HXW.out)).trans HXW.out))
            have HR8 := Lib.hid ((g8.block (W.heap.size + 1) (by omega) (hne _ (by omega))).trans ((Lib.alloc_old wr y.obj _ (heap_lt HRW.out)).trans HRW.out))
            have HZ8 := Lib.hid (show W.heap.size + 3 ≤ w8.heap.size by have := g8.size; omega)
            have RA := Lib.hid ra
            have O8 := Lib.hid o8
            obtain ⟨_, vf⟩ := pcell_of HX8.out
            clear ra o8 g8 hq hzA hOA HOW ba hne hy hbq hc hm hqs
            obtain ⟨yid, ymail, yver, ysalt, ychk, yvers, ymiss, ylock, yc0, yc1, yc2, yc3, yc4⟩ := y
            simp only at y0 y1 y2 y3 y4 y5 y6 y7 y8 y9 y10 y11 y12
            unfold Per.R.obj at RA
            simp only at RA
            go_wp2_with (at_builtin; refine Lib.wpList_append_run _ rfl _ _ _ _ rfl _ _ rfl rfl _ _ RA.out ?_)
            go_roundw
            case rel => exact ⟨n + 1, L ++ [⟨yid, ymail, yver, ysalt, ychk, yvers, ymiss, ylock, yc0, yc1, yc2, yc3, yc4⟩], a8, c8, by omega, by omega, by go_num, by simp [HL.out], fun z hz => (List.mem_append.1 hz).elim (SM.out z) (fun e => by rw [List.mem_singleton.1 e]; exact SMY.out), Per.owns.apart (b := W.heap.size + 2) O8.out (by omega) _, by rw [List.length_append]; exact pbox_fst HX8.out _, (heap_setCell_other _ _ _ _ (by show _ ≠ W.heap.size + 1 + 1; omega)).trans HR8.out, B8.out.setCell (by show _ ≤ W.heap.size + 1 + 1; omega) _, by simpa using HZ8.out⟩
            case measure => simp [intOf]; omega
    · clear hp ho hx hr bel hsm hsz hL
      have HSS := Lib.hid hs
      clear hs
      by_cases hA : n < len
      · have hA' : (n : Int) < len := by omega
        have hB' : ¬ ((n : Int) < 13) := by omega
        clear hA hAB
        go_wp2_with fail
        have HB2 : Hid (∀ j, (Value.slice a L.length c).ownBlock = some j → j < wr.heap.size) := Lib.hid (fun j e => (World.ownsRow.lt HO.out j e).2)
        obtain ⟨wo, hwo⟩ : ∃ wo, wo = wr := ⟨_, rfl⟩
        subst hwo
        go_loopw [7] (fun i wr => ∃ (k : Nat) (M : List Ses.R) (e : Option Addr) (f : Nat), k ≤ 17 ∧ k ≤ len' ∧ i = .int .i64 k ∧ M.length = k ∧ Ses.owns wr wo.heap.size (.slice e M.length f) M ∧ Per.owns wr (W.heap.size + 3) (.slice a L.length c) L ∧ wr.heap[W.heap.size + 2]? = some (pobj (.slice a L.length c) (.slice e M.length f)) ∧ wr.heap[W.heap.size + 1]? = some (pobj (.slice none 0 0) (.slice none 0 0)) ∧ Below (W.heap.size + 1) (W.alloc (.cells #[.slice a0 len cap, .slice a1 len' cap'] 25)) wr ∧ wo.heap.size ≤ wr.heap.size) (fun i _ => len' - (intOf i).toNat)
        case atStart => exact ⟨0, [], none, 0, by omega, Nat.zero_le _, rfl, rfl, Ses.owns.nil _ _, HO.out, HX.out, HR.out, WB.out, Nat.le_refl _⟩
        case round =>
          obtain ⟨k, M, e, f, hk17, hkl, rfl, hM, hso, hpo, hqx, hqr, qbel, hqz⟩ := hrel
          have SO := Lib.hid hso
          have PO := Lib.hid hpo
          have QX := Lib.hid hqx
          have QR := Lib.hid hqr
          have QB := Lib.hid qbel
          have HM := Lib.hid hM
          have QZ := Lib.hid hqz
          obtain ⟨e0, e1⟩ := PX.out _ qbel
          obtain ⟨⟨g0, g1⟩, gf⟩ := pcell_of hqx
          by_cases hCD : k < len' ∧ k < 17
          · obtain ⟨hC, hD⟩ := hCD
            have hC' : (k : Int) < len' := by omega
            have hD' : (k : Int) < 17 := by omega
            have hk0' : (0 : Int) ≤ k := by omega
            obtain ⟨b, off, o, rfl, hb0, hin⟩ := HSS.out k hC
            obtain ⟨m0, m1, m2⟩ := (hin.below (BB.out _ qbel) hb0).get
            have N0 := Lib.hid (heap_new wr o.obj)
            have T0 := Lib.hid (fun t => sbox_one N0.out t)
            have bx := (Below.refl wr.heap.size wr).alloc (Nat.le_refl _) o.obj
            have XF := Lib.hid (fun j => Ses.box_free wr o j)
            obtain ⟨q0, q1, q2⟩ := Ses.box wr o
            have xf := XF.out
            obtain ⟨od, oa, oe⟩ := o
            unfold Ses.R.obj at N0 bx XF q0 q1 q2 xf T0
            simp only at *
            have BXH := Lib.hid bx
            have QP : Hid (∀ t w2, w2 = wr.alloc (.cells #[.string t, .int .i64 oa, .int .i64 oe] 37) → ∃ e8 f8 w8, (Builtin.append_ #[23, 23] 23 #[.slice e M.length f, .slice (some ⟨w2.heap.size, 0, none⟩) 1 1]).run Tryz.prog (w2.alloc (.cells #[.string t, .int .i64 oa, .int .i64 oe] 37)) = .ok (.slice e8 (M ++ [(⟨t, oa, oe⟩ : Ses.R)]).length f8) w8 ∧ Ses.owns w8 wo.heap.size (.slice e8 (M ++ [(⟨t, oa, oe⟩ : Ses.R)]).length f8) (M ++ [(⟨t, oa, oe⟩ : Ses.R)]) ∧ Per.owns w8 (W.heap.size + 3) (.slice a L.length c) L ∧ w8.heap[W.heap.size + 2]? = some (pobj (.slice a L.length c) (.slice e M.length f)) ∧ w8.heap[W.heap.size + 1]? = some (pobj (.slice none 0 0) (.slice none 0 0)) ∧ Below (W.heap.size + 1) (W.alloc (.cells #[.slice a0 len cap, .slice (some ⟨b, off, none⟩) len' cap'] 25)) w8 ∧ wo.heap.size ≤ w8.heap.size) := Lib.hid (fun t w2 hw2 => by
              have hzz : W.heap.size + 3 ≤ wr.heap.size := Nat.le_trans HZ.out QZ.out
              have b2 : Below wr.heap.size wr w2 := by rw [hw2]; exact (Below.refl _ _).alloc (Nat.le_refl _) _
              have b3 : Below wr.heap.size wr (w2.alloc (.cells #[.string t, .int .i64 oa, .int .i64 oe] 37)) := b2.alloc b2.size _
              have hqq : (w2.alloc (.cells #[.string t, .int .i64 oa, .int .i64 oe] 37)).heap[w2.heap.size]? = some (.cells #[.string t, .int .i64 oa, .int .i64 oe] 37) := heap_new _ _
              have s3 := b3.size
              have z3 := QZ.out
              obtain ⟨e8, f8, w8, ra, o8, g8⟩ := Ses.push ⟨t, oa, oe⟩ (SO.out.below b3) (by omega) (by rw [HM.out]; omega) hqq 23
              have hge : ∀ j, (Value.slice e M.length f).ownBlock = some j → wo.heap.size ≤ j := fun j hj => (World.ownsRow.lt SO.out j hj).1
              have hz0 := HZ.out
              have bq : Below wo.heap.size wr w8 := (b3.mono z3).grown g8 (by omega) hge
              refine ⟨e8, f8, w8, ra, o8, World.ownsRow.kept (PO.out.below b3) g8 ?_, ?_, ?_, ?_, ?_⟩
              · cases hb : (Value.slice a L.length c).ownBlock with
                | none => exact .inl rfl
                | some j => exact .inr (fun e => by have h1 := HB2.out j hb; have h2 := hge j e.symm; omega)
              · exact (bq.block _ (by omega)).trans QX.out
              · exact (bq.block _ (by omega)).trans QR.out
              · exact QB.out.trans (bq.mono (by omega))
              · have := bq.size; omega)
            clear hso hpo hqx hqr qbel hqz hin bx hM
            go_upto_region 18 with (fail)
            go_upto_region 19 with (go_at_call 7; (refine (SH.out _ _).mono ?_); rintro z w2 ⟨⟨t1, rfl, ht1⟩, rfl⟩)
            have hz2 : (wr.alloc (.cells #[.string t1, .int .i64 oa, .int .i64 oe] 37)).heap.size = wr.heap.size + 1 := by simp
            obtain ⟨e8, f8, w8, ra, o8, po8, qx8, qr8, qb8, qz8⟩ := QP.out t1 _ rfl
            rw [hz2] at ra
            have RA := Lib.hid ra
            have O8 := Lib.hid o8
            have PO8 := Lib.hid po8
            have QX8 := Lib.hid qx8
            have QR8 := Lib.hid qr8
            have QB8 := Lib.hid qb8
            have QZ8 := Lib.hid qz8
            obtain ⟨⟨v0, v1⟩, vf⟩ := pcell_of qx8
            have hzw : W.heap.size + 3 ≤ wr.heap.size := Nat.le_trans HZ.out QZ.out
            obtain ⟨⟨k0, k1⟩, kf⟩ := pcell_of ((Lib.alloc_old wr (.cells #[.string t1, .int .i64 oa, .int .i64 oe] 37) _ (by omega)).trans QX.out)
            obtain ⟨s0, s1, s2⟩ := Ses.box wr ⟨t1, oa, oe⟩
            unfold Ses.R.obj at s0 s1 s2
            simp only at s0 s1 s2
            clear ra o8 po8 qx8 qr8 qb8 qz8 q0 q1 q2 xf
            generalize hwA : wr.alloc (.cells #[.string t1, .int .i64 oa, .int .i64 oe] 37) = wA at *
            rw [← hz2] at RA
            clear hwA hz2
            go_wp2_with (at_builtin; refine Lib.wpList_append_run _ rfl _ _ _ _ rfl _ _ rfl rfl _ _ RA.out ?_)
            go_roundw
            case rel => exact ⟨k + 1, M ++ [⟨t1, oa, oe⟩], e8, f8, by omega, by omega, by go_num, by simp [HM.out], Ses.owns.apart (b := W.heap.size + 2) O8.out (by have := HZ.out; omega) _, Per.owns.apart (b := W.heap.size + 2) PO8.out (by omega) _, by rw [List.length_append]; exact pbox_snd QX8.out _, (heap_setCell_other _ _ _ _ (by show _ ≠ W.heap.size + 1 + 1; omega)).trans QR8.out, QB8.out.setCell (by show _ ≤ W.heap.size + 1 + 1; omega) _, by simpa using QZ8.out⟩
            case measure => simp [intOf]; omega
          · obtain ⟨⟨y0, y1⟩, yf⟩ := pcell_of (pbox_set hqr (.slice a L.length c) (.slice e M.length f))
            obtain ⟨⟨z0, z1⟩, zf⟩ := pcell_of hqr
            have FIN : Hid (pown ((wr.setCell ⟨W.heap.size + 1, 0, none⟩ (.slice a L.length c)).setCell ⟨W.heap.size + 1, 1, none⟩ (.slice e M.length f)) W.heap.size (.agg #[.slice a L.length c, .slice e M.length f]) ⟨L, M⟩ ∧ Sz ⟨L, M⟩ ∧ Below W.heap.size W ((wr.setCell ⟨W.heap.size + 1, 0, none⟩ (.slice a L.length c)).setCell ⟨W.heap.size + 1, 1, none⟩ (.slice e M.length f))) := Lib.hid (by
              have hz := HZ.out
              have hpw : pown wr W.heap.size (.agg #[.slice a L.length c, .slice e M.length f]) ⟨L, M⟩ := ⟨a, c, e, f, rfl, Per.owns.mono hpo (by omega), Ses.owns.mono hso (by omega)⟩
              exact ⟨pown.apart hpw hqr _ _, ⟨by show L.length ≤ 13; rw [HL.out]; exact hn13, by show M.length ≤ 17; rw [HM.out]; exact hk17, SM.out⟩, ((BB.out _ qbel).setCell (p := ⟨W.heap.size + 1, 0, none⟩) (by show _ ≤ W.heap.size + 1; omega) _).setCell (p := ⟨W.heap.size + 1, 1, none⟩) (by show _ ≤ W.heap.size + 1; omega) _⟩)
            clear hso hpo hqx hqr qbel hqz hM
            by_cases hC : k < len'
            · have hC' : (k : Int) < len' := by omega
              have hD' : ¬ ((k : Int) < 17) := by omega
              clear hC hCD
              go_wp2_with fail
              refine bodyPost_ret (v := .agg #[.slice a L.length c, .slice e M.length f]) ?_ rfl ⟨_, rfl, ⟨L, M⟩, FIN.out.2.1, FIN.out.1, FIN.out.2.2⟩
              simp [results, Tryz.results5, go_sem, y0, y1]
            · have hC' : ¬ ((k : Int) < len') := by omega
              clear hC hCD
              go_wp2_with fail
              refine bodyPost_ret (v := .agg #[.slice a L.length c, .slice e M.length f]) ?_ rfl ⟨_, rfl, ⟨L, M⟩, FIN.out.2.1, FIN.out.1, FIN.out.2.2⟩
              simp [results, Tryz.results5, go_sem, y0, y1]
      · have hA' : ¬ ((n : Int) < len) := by omega
        clear hA hAB
        go_wp2_with fail
        have HB2 : Hid (∀ j, (Value.slice a L.length c).ownBlock = some j → j < wr.heap.size) := Lib.hid (fun j e => (World.ownsRow.lt HO.out j e).2)
        obtain ⟨wo, hwo⟩ : ∃ wo, wo = wr := ⟨_, rfl⟩
        subst hwo
        go_loopw [7] (fun i wr => ∃ (k : Nat) (M : List Ses.R) (e : Option Addr) (f : Nat), k ≤ 17 ∧ k ≤ len' ∧ i = .int .i64 k ∧ M.length = k ∧ Ses.owns wr wo.heap.size (.slice e M.length f) M ∧ Per.owns wr (W.heap.size + 3) (.slice a L.length c) L ∧ wr.heap[W.heap.size + 2]? = some (pobj (.slice a L.length c) (.slice e M.length f)) ∧ wr.heap[W.heap.size + 1]? = some (pobj (.slice none 0 0) (.slice none 0 0)) ∧ Below (W.heap.size + 1) (W.alloc (.cells #[.slice a0 len cap, .slice a1 len' cap'] 25)) wr ∧ wo.heap.size ≤ wr.heap.size) (fun i _ => len' - (intOf i).toNat)
        case atStart => exact ⟨0, [], none, 0, by omega, Nat.zero_le _, rfl, rfl, Ses.owns.nil _ _, HO.out, HX.out, HR.out, WB.out, Nat.le_refl _⟩
        case round =>
          obtain ⟨k, M, e, f, hk17, hkl, rfl, hM, hso, hpo, hqx, hqr, qbel, hqz⟩ := hrel
          have SO := Lib.hid hso
          have PO := Lib.hid hpo
          have QX := Lib.hid hqx
          have QR := Lib.hid hqr
          have QB := Lib.hid qbel
          have HM := Lib.hid hM
          have QZ := Lib.hid hqz
          obtain ⟨e0, e1⟩ := PX.out _ qbel
          obtain ⟨⟨g0, g1⟩, gf⟩ := pcell_of hqx
          by_cases hCD : k < len' ∧ k < 17
          · obtain ⟨hC, hD⟩ := hCD
            have hC' : (k : Int) < len' := by omega
            have hD' : (k : Int) < 17 := by omega
            have hk0' : (0 : Int) ≤ k := by omega
            obtain ⟨b, off, o, rfl, hb0, hin⟩ := HSS.out k hC
            obtain ⟨m0, m1, m2⟩ := (hin.below (BB.out _ qbel) hb0).get
            have N0 := Lib.hid (heap_new wr o.obj)
            have T0 := Lib.hid (fun t => sbox_one N0.out t)
            have bx := (Below.refl wr.heap.size wr).alloc (Nat.le_refl _) o.obj
            have XF := Lib.hid (fun j => Ses.box_free wr o j)
            obtain ⟨q0, q1, q2⟩ := Ses.box wr o
            have xf := XF.out
            obtain ⟨od, oa, oe⟩ := o
            unfold Ses.R.obj at N0 bx XF q0 q1 q2 xf T0
            simp only at *
            have BXH := Lib.hid bx
            have QP : Hid (∀ t w2, w2 = wr.alloc (.cells #[.string t, .int .i64 oa, .int .i64 oe] 37) → ∃ e8 f8 w8, (Builtin.append_ #[23, 23] 23 #[.slice e M.length f, .slice (some ⟨w2.heap.size, 0, none⟩) 1 1]).run Tryz.prog (w2.alloc (.cells #[.string t, .int .i64 oa, .int .i64 oe] 37)) = .ok (.slice e8 (M ++ [(⟨t, oa, oe⟩ : Ses.R)]).length f8) w8 ∧ Ses.owns w8 wo.heap.size (.slice e8 (M ++ [(⟨t, oa, oe⟩ : Ses.R)]).length f8) (M ++ [(⟨t, oa, oe⟩ : Ses.R)]) ∧ Per.owns w8 (W.heap.size + 3) (.slice a L.length c) L ∧ w8.heap[W.heap.size + 2]? = some (pobj (.slice a L.length c) (.slice e M.length f)) ∧ w8.heap[W.heap.size + 1]? = some (pobj (.slice none 0 0) (.slice none 0 0)) ∧ Below (W.heap.size + 1) (W.alloc (.cells #[.slice a0 len cap, .slice (some ⟨b, off, none⟩) len' cap'] 25)) w8 ∧ wo.heap.size ≤ w8.heap.size) := Lib.hid (fun t w2 hw2 => by
              have hzz : W.heap.size + 3 ≤ wr.heap.size := Nat.le_trans HZ.out QZ.out
              have b2 : Below wr.heap.size wr w2 := by rw [hw2]; exact (Below.refl _ _).alloc (Nat.le_refl _) _
              have b3 : Below wr.heap.size wr (w2.alloc (.cells #[.string t, .int .i64 oa, .int .i64 oe] 37)) := b2.alloc b2.size _
              have hqq : (w2.alloc (.cells #[.string t, .int .i64 oa, .int .i64 oe] 37)).heap[w2.heap.size]? = some (.cells #[.string t, .int .i64 oa, .int .i64 oe] 37) := heap_new _ _
              have s3 := b3.size
              have z3 := QZ.out
              obtain ⟨e8, f8, w8, ra, o8, g8⟩ := Ses.push ⟨t, oa, oe⟩ (SO.out.below b3) (by omega) (by rw [HM.out]; omega) hqq 23
              have hge : ∀ j, (Value.slice e M.length f).ownBlock = some j → wo.heap.size ≤ j := fun j hj => (World.ownsRow.lt SO.out j hj).1
              have hz0 := HZ.out
              have bq : Below wo.heap.size wr w8 := (b3.mono z3).grown g8 (by omega) hge
              refine ⟨e8, f8, w8, ra, o8, World.ownsRow.kept (PO.out.below b3) g8 ?_, ?_, ?_, ?_, ?_⟩
              · cases hb : (Value.slice a L.length c).ownBlock with
                | none => exact .inl rfl
                | some j => exact .inr (fun e => by have h1 := HB2.out j hb; have h2 := hge j e.symm; omega)
              · exact (bq.block _ (by omega)).trans QX.out
              · exact (bq.block _ (by omega)).trans QR.out
              · exact QB.out.trans (bq.mono (by omega))
              · have := bq.size; omega)
            clear hso hpo hqx hqr qbel hqz hin bx hM
            go_upto_region 18 with (fail)
            go_upto_region 19 with (go_at_call 7; (refine (SH.out _ _).mono ?_); rintro z w2 ⟨⟨t1, rfl, ht1⟩, rfl⟩)
            have hz2 : (wr.alloc (.cells #[.string t1, .int .i64 oa, .int .i64 oe] 37)).heap.size = wr.heap.size + 1 := by simp
            obtain ⟨e8, f8, w8, ra, o8, po8, qx8, qr8, qb8, qz8⟩ := QP.out t1 _ rfl
            rw [hz2] at ra
            have RA := Lib.hid ra
            have O8 := Lib.hid o8
            have PO8 := Lib.hid po8
            have QX8 := Lib.hid qx8
            have QR8 := Lib.hid qr8
            have QB8 := Lib.hid qb8
            have QZ8 := Lib.hid qz8
            obtain ⟨⟨v0, v1⟩, vf⟩ := pcell_of qx8
            have hzw : W.heap.size + 3 ≤ wr.heap.size := Nat.le_trans HZ.out QZ.out
            obtain ⟨⟨k0, k1⟩, kf⟩ := pcell_of ((Lib.alloc_old wr (.cells #[.string t1, .int .i64 oa, .int .i64 oe] 37) _ (by omega)).trans QX.out)
            obtain ⟨s0, s1, s2⟩ := Ses.box wr ⟨t1, oa, oe⟩
            unfold Ses.R.obj at s0 s1 s2
            simp only at s0 s1 s2
            clear ra o8 po8 qx8 qr8 qb8 qz8 q0 q1 q2 xf
            generalize hwA : wr.alloc (.cells #[.string t1, .int .i64 oa, .int .i64 oe] 37) = wA at *
            rw [← hz2] at RA
            clear hwA hz2
            go_wp2_with (at_builtin; refine Lib.wpList_append_run _ rfl _ _ _ _ rfl _ _ rfl rfl _ _ RA.out ?_)
            go_roundw
            case rel => exact ⟨k + 1, M ++ [⟨t1, oa, oe⟩], e8, f8, by omega, by omega, by go_num, by simp [HM.out], Ses.owns.apart (b := W.heap.size + 2) O8.out (by have := HZ.out; omega) _, Per.owns.apart (b := W.heap.size + 2) PO8.out (by omega) _, by rw [List.length_append]; exact pbox_snd QX8.out _, (heap_setCell_other _ _ _ _ (by show _ ≠ W.heap.size + 1 + 1; omega)).trans QR8.out, QB8.out.setCell (by show _ ≤ W.heap.size + 1 + 1; omega) _, by simpa using QZ8.out⟩
            case measure => simp [intOf]; omega
          · obtain ⟨⟨y0, y1⟩, yf⟩ := pcell_of (pbox_set hqr (.slice a L.length c) (.slice e M.length f))
            obtain ⟨⟨z0, z1⟩, zf⟩ := pcell_of hqr
            have FIN : Hid (pown ((wr.setCell ⟨W.heap.size + 1, 0, none⟩ (.slice a L.length c)).setCell ⟨W.heap.size + 1, 1, none⟩ (.slice e M.length f)) W.heap.size (.agg #[.slice a L.length c, .slice e M.length f]) ⟨L, M⟩ ∧ Sz ⟨L, M⟩ ∧ Below W.heap.size W ((wr.setCell ⟨W.heap.size + 1, 0, none⟩ (.slice a L.length c)).setCell ⟨W.heap.size + 1, 1, none⟩ (.slice e M.length f))) := Lib.hid (by
              have hz := HZ.out
              have hpw : pown wr W.heap.size (.agg #[.slice a L.length c, .slice e M.length f]) ⟨L, M⟩ := ⟨a, c, e, f, rfl, Per.owns.mono hpo (by omega), Ses.owns.mono hso (by omega)⟩
              exact ⟨pown.apart hpw hqr _ _, ⟨by show L.length ≤ 13; rw [HL.out]; exact hn13, by show M.length ≤ 17; rw [HM.out]; exact hk17, SM.out⟩, ((BB.out _ qbel).setCell (p := ⟨W.heap.size + 1, 0, none⟩) (by show _ ≤ W.heap.size + 1; omega) _).setCell (p := ⟨W.heap.size + 1, 1, none⟩) (by show _ ≤ W.heap.size + 1; omega) _⟩)
            clear hso hpo hqx hqr qbel hqz hM
            by_cases hC : k < len'
            · have hC' : (k : Int) < len' := by omega
              have hD' : ¬ ((k : Int) < 17) := by omega
              clear hC hCD
              go_wp2_with fail
              refine bodyPost_ret (v := .agg #[.slice a L.length c, .slice e M.length f]) ?_ rfl ⟨_, rfl, ⟨L, M⟩, FIN.out.2.1, FIN.out.1, FIN.out.2.2⟩
              simp [results, Tryz.results5, go_sem, y0, y1]
            · have hC' : ¬ ((k : Int) < len') := by omega
              clear hC hCD
              go_wp2_with fail
              refine bodyPost_ret (v := .agg #[.slice a L.length c, .slice e M.length f]) ?_ rfl ⟨_, rfl, ⟨L, M⟩, FIN.out.2.1, FIN.out.1, FIN.out.2.2⟩
              simp [results, Tryz.results5, go_sem, y0, y1]
end Go.Proofs.YtkihleecjgoipaaGreatDoor
