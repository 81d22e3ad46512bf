/- The reference's people: sessions, with, walked. -/
import Derived.Test.YtkihleecjgoipaaGreatDoorMg11
import Derived.Test.YtkihleecjgoipaaGreatDoorPpI
import Derived.Deep.DeepCutAuto
import Derived.Deep.CutBlock
namespace Go.Proofs.YtkihleecjgoipaaGreatDoor
open Go.RowKit Go.Maps Go.Proofs.YtkihleecjgoipaaGreatDoor.Rw

theorem filt_take {α : Type} (L : List α) (P : α → Bool) (k : Nat) (hk : k < L.length) (x : α) (hx : L[k] = x) : (L.take (k + 1)).filter P = if P x = true then (L.take k).filter P ++ [x] else (L.take k).filter P := by
  rw [List.take_add_one, List.getElem?_eq_getElem hk, hx, Option.toList_some, List.filter_append]
  split
  · rename_i h
    rw [List.filter_cons_of_pos h, List.filter_nil]
  · rename_i h
    rw [List.filter_cons_of_neg h, List.filter_nil, List.append_nil]
def lastsF (acc now : Int) (s : Ses.R) : Bool := !decide (s.acc = acc) && decide (now < s.exp)
set_option maxHeartbeats 4000000 in
set_option maxRecDepth 100000 in
theorem sessions16_any {B : Nat} {v : Value} {p : Ppl} {w : World} (hown : pown w B v p) (lim : few p) (acc now : Int) :
    Calls Tryz.prog 42 #[v, .int .i64 acc, .int .i64 now] w fun r w' => ∃ a2 c2, r = .returned (.slice a2 (p.ss.filter (lastsF acc now)).length c2) ∧ Ses.owns w' w.heap.size (.slice a2 (p.ss.filter (lastsF acc now)).length c2) (p.ss.filter (lastsF acc now)) ∧ Below w.heap.size w w' := by
  obtain ⟨a, c, a', c', rfl, o1, o2⟩ := hown
  obtain ⟨lim1, lim2⟩ := lim
  obtain ⟨L, S⟩ := p
  simp only at *
  have b1 : Below w.heap.size w (w.alloc (pobj (.slice a L.length c) (.slice a' S.length c'))) := (Below.refl _ _).alloc (Nat.le_refl _) _
  have z1 : (w.alloc (pobj (.slice a L.length c) (.slice a' S.length c'))).heap.size = w.heap.size + 1 := by simp
  obtain ⟨n, hn⟩ : ∃ n, S.length = n := ⟨_, rfl⟩
  have HN := Lib.hid hn
  have FT := Lib.hid (fun k hk x hx => filt_take S (lastsF acc now) k hk x hx)
  have FL : Hid (∀ k, ((S.take k).filter (lastsF acc now)).length ≤ n) := Lib.hid (fun k => by
    have h1 := List.length_filter_le (lastsF acc now) (S.take k)
    rw [List.length_take] at h1
    omega)
  have FE : Hid ((S.take n).filter (lastsF acc now) = S.filter (lastsF acc now)) := Lib.hid (by rw [← hn, List.take_length])
  have PX : Hid (∀ w2, Below (w.heap.size + 1) (w.alloc (pobj (.slice a L.length c) (.slice a' S.length c'))) w2 → w2.cell? ⟨w.heap.size, 0, none⟩ = some (.slice a L.length c) ∧ w2.cell? ⟨w.heap.size, 1, none⟩ = some (.slice a' S.length c')) := Lib.hid (fun w2 b => pbox_later _ _ (Nat.lt_succ_self _) b)
  have OW : Hid (∀ w2, Below (w.heap.size + 1) (w.alloc (pobj (.slice a L.length c) (.slice a' S.length c'))) w2 → Ses.owns w2 B (.slice a' S.length c') S) := Lib.hid (fun w2 b => o2.below (b1.trans (b.mono (by omega))))
  have BB : Hid (∀ w2, Below (w.heap.size + 1) (w.alloc (pobj (.slice a L.length c) (.slice a' S.length c'))) w2 → Below w.heap.size w w2 ∧ w.heap.size + 1 ≤ w2.heap.size) := Lib.hid (fun w2 b => ⟨b1.trans (b.mono (by omega)), by have := b.size; omega⟩)
  generalize hFF : S.filter (lastsF acc now) = FF at *
  have LF : Hid (∀ s : Ses.R, lastsF acc now s = (!decide (s.acc = acc) && decide (now < s.exp))) := Lib.hid (fun _ => rfl)
  generalize lastsF acc now = F at *
  rw [hn] at PX OW BB lim2
  clear o1 o2 b1 z1 hn hFF
  obtain ⟨x0, x1⟩ := PX.out _ (Below.refl _ _)
  unfold pobj at *
  go_enter Tryz.func42, Tryz.ntmps42
  rw [HN.out]
  go_wp2_with fail
  obtain ⟨w1, hw1⟩ : ∃ w1, w.alloc (.cells #[.slice a L.length c, .slice a' n c'] 25) = w1 := ⟨_, rfl⟩
  simp only [hw1] at *
  clear hw1
  go_loopw [7, 8] (fun out i wr => ∃ (k : Nat) (a7 : Option Addr) (c7 : Nat), k ≤ n ∧ i = .int .i64 k ∧ out = .slice a7 ((S.take k).filter F).length c7 ∧ Ses.owns wr (w.heap.size + 1) (.slice a7 ((S.take k).filter F).length c7) ((S.take k).filter F) ∧ Below (w.heap.size + 1) w1 wr) (fun _ i _ => n - (intOf i).toNat)
  case atStart => exact ⟨0, none, 0, Nat.zero_le _, rfl, rfl, Ses.owns.nil _ _, Below.refl _ _⟩
  case round =>
    obtain ⟨k, a7, c7, hk, rfl, rfl, ho, hbr⟩ := hrel
    have OO := Lib.hid ho
    have WB := Lib.hid hbr
    obtain ⟨p0, p1⟩ := PX.out _ hbr
    by_cases hkn : k < n
    · have hkn' : (k : Int) < n := by omega
      have hk0 : (0 : Int) ≤ k := by omega
      have hks : k < S.length := by rw [HN.out]; exact hkn
      obtain ⟨g, rfl, hg1, hg2, m0, m1, m2⟩ := (OW.out wr hbr).all k hks
      rw [List.getElem?_eq_getElem hks, Option.getD_some] at m0 m1 m2
      obtain ⟨x, hx⟩ : ∃ x, S[k] = x := ⟨_, rfl⟩
      have HT := Lib.hid (FT.out k hks x hx)
      rw [hx] at m0 m1 m2
      have hl := FL.out k
      clear hx hks
      have hFx := LF.out x
      have ba := hbr.alloc (BB.out _ hbr).2 (.cells #[.string x.dig, .int .i64 x.acc, .int .i64 x.exp] 37)
      have hq : (wr.alloc (.cells #[.string x.dig, .int .i64 x.acc, .int .i64 x.exp] 37)).heap[wr.heap.size]? = some (.cells x.cells.toArray 37) := heap_new wr _
      obtain ⟨a8, c8, w8, ra, o8, g8⟩ := Ses.push x (ho.below ((Below.refl wr.heap.size wr).alloc (Nat.le_refl _) _)) (by have := (BB.out _ ba).2; omega) (by omega) hq 23
      have B8 := Lib.hid (ba.grown g8 (BB.out _ ba).2 (fun j hj => (World.ownsRow.lt ho j hj).1))
      have RA := Lib.hid ra
      have O8 := Lib.hid o8
      clear ra o8 g8 hq ba ho hbr
      by_cases h1 : x.acc = acc
      · have h1' : (x.acc == acc) = true := by simpa using h1
        have h1n : (x.acc != acc) = false := by simpa using h1
        have HE : Hid ((S.take (k + 1)).filter F = (S.take k).filter F) := Lib.hid (by
          rw [HT.out, hFx, decide_eq_true h1]
          rfl)
        clear h1 hFx HT
        go_wp2_with fail
        go_roundw
        case rel => exact ⟨k + 1, a7, c7, by omega, by go_num, by rw [HE.out], by rw [HE.out]; exact OO.out, WB.out⟩
        case measure => simp [intOf]; omega
      · have h1' : (x.acc == acc) = false := by simpa using h1
        have h1n : (x.acc != acc) = true := by simpa using h1
        by_cases h2 : now < x.exp
        · have HE : Hid ((S.take (k + 1)).filter F = (S.take k).filter F ++ [x]) := Lib.hid (by
            rw [HT.out, hFx, decide_eq_false h1, decide_eq_true h2]
            rfl)
          clear h1 hFx HT
          go_wp2_with (at_builtin; refine Lib.wpList_append_run _ rfl _ _ _ _ rfl _ _ rfl rfl _ _ RA.out ?_)
          go_roundw
          case rel => exact ⟨k + 1, a8, c8, by omega, by go_num, by rw [HE.out, List.length_append]; rfl, by rw [HE.out]; exact O8.out, B8.out⟩
          case measure => simp [intOf]; omega
        · have HE : Hid ((S.take (k + 1)).filter F = (S.take k).filter F) := Lib.hid (by
            rw [HT.out, hFx, decide_eq_false h1, decide_eq_false h2]
            rfl)
          clear h1 hFx HT
          go_wp2_with fail
          go_roundw
          case rel => exact ⟨k + 1, a7, c7, by omega, by go_num, by rw [HE.out], by rw [HE.out]; exact OO.out, WB.out⟩
          case measure => simp [intOf]; omega
    · have hkn' : ¬ ((k : Int) < n) := by omega
      obtain rfl : k = n := by omega
      clear ho hbr
      go_wp2_with fail
      go_ret
      exact ⟨a7, c7, by rw [FE.out]; rfl, by rw [← FE.out]; exact OO.out.mono (by omega), (BB.out _ WB.out).1⟩
set_option maxHeartbeats 4000000 in
set_option maxRecDepth 100000 in
theorem with16_any {B0 : Nat} {v : Value} {p : Ppl} {w : World} (hown : pown w B0 v p) (lim : few p) (hB0 : B0 ≤ w.heap.size) (i : Nat) (hi : i < p.ps.length) (x : Per.R) :
    Calls Tryz.prog 43 #[v, .int .i64 i, x.agg] w fun r w' => ∃ v', r = .returned v' ∧ pown w' B0 v' ⟨p.ps.set i x, p.ss⟩ ∧ Below w.heap.size w w' := by
  obtain ⟨a, c, a', c', rfl, o1, o2⟩ := hown
  obtain ⟨lim1, lim2⟩ := lim
  obtain ⟨L, S⟩ := p
  simp only at *
  have hb1 : Below w.heap.size w (w.alloc (pobj (.slice a L.length c) (.slice a' S.length c'))) := (Below.refl _ _).alloc (Nat.le_refl _) _
  have z1 : (w.alloc (pobj (.slice a L.length c) (.slice a' S.length c'))).heap.size = w.heap.size + 1 := by simp
  have hb2 := hb1.alloc (by omega) x.obj
  have z2 : ((w.alloc (pobj (.slice a L.length c) (.slice a' S.length c'))).alloc x.obj).heap.size = w.heap.size + 2 := by simp
  have hb3 := hb2.alloc (by omega) (pobj (.slice none 0 0) (.slice none 0 0))
  have z3 : (((w.alloc (pobj (.slice a L.length c) (.slice a' S.length c'))).alloc x.obj).alloc (pobj (.slice none 0 0) (.slice none 0 0))).heap.size = w.heap.size + 3 := by simp
  have hb4 := hb3.alloc (by omega) (.cells #[] 34)
  have z4 : ((((w.alloc (pobj (.slice a L.length c) (.slice a' S.length c'))).alloc x.obj).alloc (pobj (.slice none 0 0) (.slice none 0 0))).alloc (.cells #[] 34)).heap.size = w.heap.size + 4 := by simp
  have h0 : ((((w.alloc (pobj (.slice a L.length c) (.slice a' S.length c'))).alloc x.obj).alloc (pobj (.slice none 0 0) (.slice none 0 0))).alloc (.cells #[] 34)).heap[w.heap.size]? = some (pobj (.slice a L.length c) (.slice a' S.length c')) := by
    rw [Lib.alloc_old _ _ _ (by omega), Lib.alloc_old _ _ _ (by omega), Lib.alloc_old _ _ _ (by omega)]; exact heap_new _ _
  have h1 : ((((w.alloc (pobj (.slice a L.length c) (.slice a' S.length c'))).alloc x.obj).alloc (pobj (.slice none 0 0) (.slice none 0 0))).alloc (.cells #[] 34)).heap[w.heap.size + 1]? = some x.obj := by
    rw [Lib.alloc_old _ _ _ (by omega), Lib.alloc_old _ _ _ (by omega), ← z1]; exact heap_new _ _
  have h2 : ((((w.alloc (pobj (.slice a L.length c) (.slice a' S.length c'))).alloc x.obj).alloc (pobj (.slice none 0 0) (.slice none 0 0))).alloc (.cells #[] 34)).heap[w.heap.size + 2]? = some (pobj (.slice none 0 0) (.slice none 0 0)) := by
    rw [Lib.alloc_old _ _ _ (by omega), ← z2]; exact heap_new _ _
  have h3 : ((((w.alloc (pobj (.slice a L.length c) (.slice a' S.length c'))).alloc x.obj).alloc (pobj (.slice none 0 0) (.slice none 0 0))).alloc (.cells #[] 34)).heap[w.heap.size + 3]? = some (.cells #[] 34) := by
    rw [← z3]; exact heap_new _ _
  have h0b : (((w.alloc (pobj (.slice a L.length c) (.slice a' S.length c'))).alloc x.obj).alloc (pobj (.slice none 0 0) (.slice none 0 0))).heap[w.heap.size]? = some (pobj (.slice a L.length c) (.slice a' S.length c')) := by
    rw [Lib.alloc_old _ _ _ (by omega), Lib.alloc_old _ _ _ (by omega)]; exact heap_new _ _
  obtain ⟨a5, c5, w5, ra, o5, g5⟩ := Per.onto (B := w.heap.size + 3) (o1.below hb4) h3 (Nat.le_refl _) (by omega) 22
  have B5 := Lib.hid (hb4.grown g5 (by omega) (fun k hk => by cases hk; omega))
  have k0 := (g5.block w.heap.size (by omega) (by simp)).trans h0
  have k1 := (g5.block (w.heap.size + 1) (by omega) (by simp)).trans h1
  have k2 := (g5.block (w.heap.size + 2) (by omega) (by simp)).trans h2
  have RA := Lib.hid ra
  have O5 := Lib.hid o5
  have S5 := Lib.hid (show w.heap.size + 4 ≤ w5.heap.size by have := g5.size; omega)
  have K0 := Lib.hid k0
  have K1 := Lib.hid k1
  have K2 := Lib.hid k2
  have o2' : Hid (∀ w2, Below w.heap.size w w2 → Ses.owns w2 B0 (.slice a' S.length c') S) := Lib.hid (fun w2 b => o2.below b)
  obtain ⟨⟨t0, t1⟩, tf⟩ := pcell_of k0
  obtain ⟨⟨i0, i1⟩, _⟩ := pcell_of h0
  obtain ⟨⟨j0, j1⟩, _⟩ := pcell_of h0b
  have hin : (i : Int) < L.length := by omega
  have hi0 : (0 : Int) ≤ i := by omega
  clear ra o5 g5 h0 h1 h2 h3 h0b hb1 hb2 hb3 hb4 k0 k1 k2 o1 o2 z1 z2 z3 z4
  obtain ⟨xid, xmail, xver, xsalt, xchk, xvers, xmiss, xlock, xc0, xc1, xc2, xc3, xc4⟩ := x
  unfold pobj Per.R.obj at *
  unfold Per.R.agg
  simp only at *
  go_enter Tryz.func43, Tryz.ntmps43
  go_upto_region 2 with (at_builtin; refine Lib.wpList_append_run _ rfl _ _ _ _ rfl _ _ rfl rfl _ _ RA.out ?_)
  have K06 := heap_setCell_same w5 w.heap.size 0 _ 25 (.slice a5 L.length c5) K0.out
  have K16 := (Below.heap_setCell w5 ⟨w.heap.size, 0, none⟩ (.slice a5 L.length c5) (w.heap.size + 1) (by simp)).trans K1.out
  have K26 := (Below.heap_setCell w5 ⟨w.heap.size, 0, none⟩ (.slice a5 L.length c5) (w.heap.size + 2) (by simp)).trans K2.out
  have O6 : Per.owns _ (w.heap.size + 3) _ L := O5.out.apart (b := w.heap.size) (k := 0) (by omega) (.slice a5 L.length c5)
  have B6 := Lib.hid (B5.out.setCell (p := ⟨w.heap.size, 0, none⟩) (Nat.le_refl _) (.slice a5 L.length c5))
  have OS6 := Lib.hid (o2'.out _ B6.out)
  simp only [List.setIfInBounds_toArray, List.set_cons_zero] at K06
  obtain ⟨w6, hw6⟩ : ∃ w6, w5.setCell ⟨w.heap.size, 0, none⟩ (.slice a5 L.length c5) = w6 := ⟨_, rfl⟩
  rw [hw6] at K06 K16 K26 O6 B6 OS6 ⊢
  have K06' := Lib.hid K06
  have K26' := Lib.hid K26
  obtain ⟨g, rfl, hgl, hgu, m0, m1, m2, m3, m4, m5, m6, m7, m8, m9, m10, m11, m12⟩ := O6.all i hi
  have mf := O6.free
  have O7 := O6.put rfl i hi ⟨xid, xmail, xver, xsalt, xchk, xvers, xmiss, xlock, xc0, xc1, xc2, xc3, xc4⟩
  obtain ⟨⟨p0, p1⟩, _⟩ := pcell_of (v1 := .slice (some ⟨g, 0, none⟩) L.length c5) (v2 := .slice a' S.length c') K06
  obtain ⟨e0, e1, e2, e3, e4, e5, e6, e7, e8, e9, e10, e11, e12⟩ := Per.At.of_heap (m := ⟨xid, xmail, xver, xsalt, xchk, xvers, xmiss, xlock, xc0, xc1, xc2, xc3, xc4⟩) K16
  simp only at e0 e1 e2 e3 e4 e5 e6 e7 e8 e9 e10 e11 e12 O7
  have BP := Per.below_put (o := i * 13) (Below.refl g w6) (Nat.le_refl g) (.int .i64 xid) (.string xmail) (.bool xver) (.string xsalt) (.string xchk) (.int .i64 xvers) (.int .i64 xmiss) (.int .i64 xlock) (.string xc0) (.string xc1) (.string xc2) (.string xc3) (.string xc4)
  have OO7 := Lib.hid O7
  have BP7 := Lib.hid BP
  clear O6 O7 BP K06 K16 K26 hw6 t0 t1 tf
  go_upto_region 3 with fail
  obtain ⟨w7, hw7⟩ : ∃ w7, (((((((((((((w6.setCell ⟨g, i * 13, none⟩ (.int .i64 xid)).setCell ⟨g, i * 13 + 1, none⟩ (.string xmail)).setCell ⟨g, i * 13 + 2, none⟩ (.bool xver)).setCell ⟨g, i * 13 + 3, none⟩ (.string xsalt)).setCell ⟨g, i * 13 + 4, none⟩ (.string xchk)).setCell ⟨g, i * 13 + 5, none⟩ (.int .i64 xvers)).setCell ⟨g, i * 13 + 6, none⟩ (.int .i64 xmiss)).setCell ⟨g, i * 13 + 7, none⟩ (.int .i64 xlock)).setCell ⟨g, i * 13 + 8, none⟩ (.string xc0)).setCell ⟨g, i * 13 + 9, none⟩ (.string xc1)).setCell ⟨g, i * 13 + 10, none⟩ (.string xc2)).setCell ⟨g, i * 13 + 11, none⟩ (.string xc3)).setCell ⟨g, i * 13 + 12, none⟩ (.string xc4)) = w7 := ⟨_, rfl⟩
  rw [hw7] at OO7 BP7 ⊢
  clear hw7
  have K07 := (BP7.out.block w.heap.size (by omega)).trans K06'.out
  have K27 := (BP7.out.block (w.heap.size + 2) (by omega)).trans K26'.out
  obtain ⟨⟨q0, q1⟩, _⟩ := pcell_of (v1 := .slice (some ⟨g, 0, none⟩) L.length c5) (v2 := .slice a' S.length c') K07
  obtain ⟨⟨z0, z1⟩, zf⟩ := pcell_of (v1 := .slice none 0 0) (v2 := .slice none 0 0) K27
  have B7 := Lib.hid (B6.out.trans (BP7.out.mono (by omega)))
  have HK := Lib.hid K27
  clear K07 K27 m0 m1 m2 m3 m4 m5 m6 m7 m8 m9 m10 m11 m12 e0 e1 e2 e3 e4 e5 e6 e7 e8 e9 e10 e11 e12 mf p0 p1
  go_wp2_with fail
  have bx := (B7.out.setCell (p := ⟨w.heap.size + 2, 0, none⟩) (by simp) (.slice (some ⟨g, 0, none⟩) L.length c5)).setCell (p := ⟨w.heap.size + 2, 1, none⟩) (by simp) (.slice a' S.length c')
  refine bodyPost_ret (v := .agg #[.slice (some ⟨g, 0, none⟩) L.length c5, .slice a' S.length c']) ?_ rfl ⟨_, rfl, ?_, bx⟩
  · simp [results, Tryz.f43, go_sem, z0, z1]
  · refine ⟨some ⟨g, 0, none⟩, c5, a', c', by rw [List.length_set], ?_, o2'.out _ bx⟩
    rw [List.length_set]
    exact ((OO7.out.apart (by omega) _).apart (by omega) _).mono (by omega)
end Go.Proofs.YtkihleecjgoipaaGreatDoor
