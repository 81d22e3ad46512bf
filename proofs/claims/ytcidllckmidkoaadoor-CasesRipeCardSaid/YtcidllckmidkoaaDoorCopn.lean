/- cases.open, Apply. -/
import Derived.Test.YtcidllckmidkoaaDoorCapP
import Derived.BigQuiet
namespace Go.Proofs.YtcidllckmidkoaaDoor
open Go.RowKit Go.Maps

def Evn.obj (e : Evn) : Obj := .cells #[.int .i64 e.kind, .int .i64 e.acc, .int .i64 e.pur, .int .i64 e.at_, .int .i64 e.num, .string e.a, .string e.b, .string e.c] 44
theorem ev_box (w : World) (e : Evn) : (w.alloc e.obj).cell? ⟨w.heap.size, 0, none⟩ = some (.int .i64 e.kind) ∧ (w.alloc e.obj).cell? ⟨w.heap.size, 1, none⟩ = some (.int .i64 e.acc) ∧ (w.alloc e.obj).cell? ⟨w.heap.size, 2, none⟩ = some (.int .i64 e.pur) ∧ (w.alloc e.obj).cell? ⟨w.heap.size, 3, none⟩ = some (.int .i64 e.at_) ∧
    (w.alloc e.obj).cell? ⟨w.heap.size, 4, none⟩ = some (.int .i64 e.num) ∧ (w.alloc e.obj).cell? ⟨w.heap.size, 5, none⟩ = some (.string e.a) ∧ (w.alloc e.obj).cell? ⟨w.heap.size, 6, none⟩ = some (.string e.b) ∧ (w.alloc e.obj).cell? ⟨w.heap.size, 7, none⟩ = some (.string e.c) := by
  refine ⟨?_, ?_, ?_, ?_, ?_, ?_, ?_, ?_⟩ <;> rw [Lib.cell_of_heap (heap_new w e.obj)] <;> rfl
theorem ev_later {w w2 : World} (e : Evn) (b : Below (w.alloc e.obj).heap.size (w.alloc e.obj) w2) : w2.cell? ⟨w.heap.size, 0, none⟩ = some (.int .i64 e.kind) ∧ w2.cell? ⟨w.heap.size, 1, none⟩ = some (.int .i64 e.acc) ∧ w2.cell? ⟨w.heap.size, 2, none⟩ = some (.int .i64 e.pur) ∧ w2.cell? ⟨w.heap.size, 3, none⟩ = some (.int .i64 e.at_) ∧
    w2.cell? ⟨w.heap.size, 4, none⟩ = some (.int .i64 e.num) ∧ w2.cell? ⟨w.heap.size, 5, none⟩ = some (.string e.a) ∧ w2.cell? ⟨w.heap.size, 6, none⟩ = some (.string e.b) ∧ w2.cell? ⟨w.heap.size, 7, none⟩ = some (.string e.c) := by
  have hl : w.heap.size < (w.alloc e.obj).heap.size := by simp
  obtain ⟨z0, z1, z2, z3, z4, z5, z6, z7⟩ := ev_box w e
  exact ⟨(b.cell (p := ⟨w.heap.size, 0, none⟩) hl).trans z0, (b.cell (p := ⟨w.heap.size, 1, none⟩) hl).trans z1, (b.cell (p := ⟨w.heap.size, 2, none⟩) hl).trans z2, (b.cell (p := ⟨w.heap.size, 3, none⟩) hl).trans z3, (b.cell (p := ⟨w.heap.size, 4, none⟩) hl).trans z4, (b.cell (p := ⟨w.heap.size, 5, none⟩) hl).trans z5, (b.cell (p := ⟨w.heap.size, 6, none⟩) hl).trans z6, (b.cell (p := ⟨w.heap.size, 7, none⟩) hl).trans z7⟩
theorem left_len (L : List Cas) (e : Evn) : (left L e).length ≤ L.length := List.length_filter_le _ _
set_option maxHeartbeats 8000000 in
set_option maxRecDepth 100000 in
theorem open_any {Bs c : Nat} {a : Option Addr} {L : List Cas} {w : World} (hown : mowns w Bs (.slice a L.length c) L) (lim : L.length ≤ 1000000) (hBs : Bs ≤ w.heap.size) (hr : Rise L) (e : Evn) :
    Calls Tryd.prog 31 #[.slice a L.length c, e.agg] w fun x w' => ∃ a' c', x = .returned (.tuple #[.slice a' (opnR L e).length c', .int .i64 (opnE L e)]) ∧ mowns w' Bs (.slice a' (opnR L e).length c') (opnR L e) ∧ Below w.heap.size w w' := by
  have hb : Below w.heap.size w (w.alloc e.obj) := (Below.refl _ _).alloc (Nat.le_refl _) _
  have hlt : w.heap.size < (w.alloc e.obj).heap.size := by simp
  have CL := Lib.hid (mclone_any (hown.below hb) lim)
  have EV := Lib.hid (fun w2 b => ev_later (w := w) (w2 := w2) e b)
  have DL : Hid (∀ (w2 : World) (a2 : Option Addr) (c2 : Nat), mowns w2 (w.alloc e.obj).heap.size (.slice a2 L.length c2) L → Below (w.alloc e.obj).heap.size (w.alloc e.obj) w2 → Calls Tryd.prog 41 #[.slice a2 L.length c2, .func (.func 42) #[] #[.pointer (some ⟨w.heap.size, 0, none⟩)]] w2 fun x w' => ∃ a' c', x = .returned (.slice a' (left L e).length c') ∧ mowns w' (w.alloc e.obj).heap.size (.slice a' (left L e).length c') (left L e) ∧ Below (w.alloc e.obj).heap.size (w.alloc e.obj) w') := Lib.hid (fun w2 a2 c2 o b =>
    (odel_any o lim e.at_ w.heap.size (ev_later e b).2.2.2.1 hlt b.size).mono fun x w' ⟨a', c', h1, h2, h3⟩ => ⟨a', c', h1, h2, b.trans h3⟩)
  have hll := left_len L e
  have AT : Hid (∀ (w2 : World) (a2 : Option Addr) (c2 : Nat), mowns w2 (w.alloc e.obj).heap.size (.slice a2 (left L e).length c2) (left L e) → Calls Tryd.prog 30 #[.slice a2 (left L e).length c2, .int .i64 e.acc] w2 fun x w' => x = .returned (.tuple #[.int .i64 (plc (left L e) e.acc : Nat), .bool (hasA (left L e) e.acc)]) ∧ Below w2.heap.size w2 w') := Lib.hid (fun w2 a2 c2 o =>
    at_any o (by omega) (hr.sub (left_sub L e)) e.acc)
  have IN : Hid (∀ (w2 : World) (s : Value) (vb : Nat), mowns w2 (w.alloc e.obj).heap.size s (left L e) → w2.heap[vb]? = some (.cells (newC e).cells.toArray 28 (0, 0)) → s.ownBlock ≠ some vb → (w.alloc e.obj).heap.size ≤ w2.heap.size → Calls Tryd.prog 43 #[s, .int .i64 (plc (left L e) e.acc : Nat), .slice (some ⟨vb, 0, none⟩) 1 1] w2 fun x w' => ∃ a' c', x = .returned (.slice a' ((left L e).take (plc (left L e) e.acc) ++ newC e :: (left L e).drop (plc (left L e) e.acc)).length c') ∧ mowns w' (w.alloc e.obj).heap.size (.slice a' ((left L e).take (plc (left L e) e.acc) ++ newC e :: (left L e).drop (plc (left L e) e.acc)).length c') ((left L e).take (plc (left L e) e.acc) ++ newC e :: (left L e).drop (plc (left L e) e.acc)) ∧ w2.grownBy w' s.ownBlock) := Lib.hid (fun w2 s vb o hv hn hB =>
    (insAt_any _ (left L e) (plc (left L e) e.acc) (plc_le _ _) (by omega) _ s w2 vb (newC e) rfl o hv hn hB).mono fun x w' ⟨v', h1, h2, h3, _⟩ => by
      obtain ⟨a', c', rfl, _⟩ := h2.form
      exact ⟨a', c', h1, h2, h3⟩)
  have CK := Lib.hid (fun w => clock_any e.at_ 200 w)
  have OW := Lib.hid hown
  have HB := Lib.hid hb
  have OE : Hid (opnE L e = if e.acc < 1 ∨ 99 < e.acc ∨ e.pur < 1 ∨ 5 < e.pur then 1 else if hasA (left L e) e.acc then 14 else if 8 ≤ (left L e).length then 15 else 0) := Lib.hid rfl
  have OR : Hid (opnR L e = if opnE L e = 0 then (left L e).take (plc (left L e) e.acc) ++ newC e :: (left L e).drop (plc (left L e) e.acc) else L) := Lib.hid rfl
  obtain ⟨nw, hnw⟩ : ∃ nw, newC e = nw := ⟨_, rfl⟩
  have HN : Hid (nw = ⟨e.acc, e.at_, clk e.at_ 200, e.pur, ⟨#[]⟩, ⟨#[]⟩, ⟨#[]⟩, ⟨#[]⟩, ⟨#[]⟩⟩) := Lib.hid (by rw [← hnw]; rfl)
  rw [hnw] at IN OR
  generalize (left L e).take (plc (left L e) e.acc) ++ nw :: (left L e).drop (plc (left L e) e.acc) = nl at *
  have BXN := Lib.hid (fun w3 w2 b => box_later (w := w3) (w2 := w2) nw b)
  rw [HN.out] at BXN
  unfold Cas.obj at BXN
  simp only at BXN
  generalize opnR L e = lr at *
  generalize opnE L e = le at *
  generalize left L e = M at *
  generalize plc M e.acc = pp at *
  generalize hasA M e.acc = hh at *
  generalize clk e.at_ 200 = ck at *
  have EV0 := EV.out _ (Below.refl _ _)
  obtain ⟨y0, y1, y2, y3, y4, y5, y6, y7⟩ := EV0
  unfold Evn.obj at *
  unfold Evn.agg
  clear hown hb hnw
  go_enter Tryd.func31, Tryd.ntmps31
  go_wp2_with (first
    | (go_at_call 34; (with_reducible refine (CL.out).mono ?_); rintro x w2 ⟨a2, c2, rfl, o2, b2⟩; have O2 := Lib.hid o2; have B2 := Lib.hid b2; clear o2 b2)
    | (go_at_call 41; (with_reducible refine (DL.out _ _ _ O2.out B2.out).mono ?_); rintro x w3 ⟨a3, c3, rfl, o3, b3⟩; have O3 := Lib.hid o3; have B3 := Lib.hid b3; clear o3 b3; obtain ⟨e0, e1, e2, e3, e4, e5, e6, e7⟩ := EV.out w3 B3.out)
    | (go_at_call 30; (with_reducible refine (AT.out _ _ _ O3.out).mono ?_); rintro x w4 ⟨rfl, b4⟩; have O4 := Lib.hid (O3.out.below b4); have B4 := Lib.hid (B3.out.trans (b4.mono B3.out.size)); clear b4; obtain ⟨g0, g1, g2, g3, g4, g5, g6, g7⟩ := EV.out w4 B4.out))
  have b5 := below_drew (B4.out.alloc B4.out.size nw.obj)
  have b6 : Below w4.heap.size w4 (w4.alloc nw.obj).drew := below_drew ((Below.refl _ _).alloc (Nat.le_refl _) _)
  have f5 := BXN.out w4 _ (below_drew (Below.refl _ _))
  rw [HN.out] at b5 b6
  unfold Cas.obj at b5 b6
  simp only at b5 b6
  have B5 := Lib.hid b5
  have bn := B4.out.alloc B4.out.size nw.obj
  have on := O4.out.below ((Below.refl _ _).alloc (Nat.le_refl _) nw.obj)
  rw [HN.out] at bn on
  unfold Cas.obj at bn on
  simp only at bn on
  have BN := Lib.hid bn
  have ON := Lib.hid on
  clear bn on
  have B6 := Lib.hid b6
  have O5 := Lib.hid (O4.out.below b6)
  obtain ⟨⟨n0, n1, n2, n3, n4, n5, n6, n7, n8⟩, nf⟩ := f5
  clear b5 b6
  go_region_held3 (fun w' => w'.cell? ⟨w.heap.size, 1, none⟩ = some (.int .i64 e.acc) ∧ w'.cell? ⟨w.heap.size, 2, none⟩ = some (.int .i64 e.pur) ∧ w'.cell? ⟨w.heap.size, 3, none⟩ = some (.int .i64 e.at_))
    (first
      | exact ⟨g1, g2, g3⟩
      | go_keep)
    ((go_at_call 26; (with_reducible refine (CK.out _).mono ?_); rintro x w5 ⟨rfl, rfl⟩))
  all_goals
    have OW6 := OW.out.below (HB.out.trans (B5.out.mono HB.out.size))
    have WB := HB.out.trans (B5.out.mono HB.out.size)
    obtain ⟨k0, k1, k2, k3, k4, k5, k6, k7⟩ := EV.out _ B5.out
    have OW6 := Lib.hid OW6
    have WB := Lib.hid WB
    clear CL DL AT CK EV BXN O2 B2 O3 B3 O4 B4 B6 y0 y1 y2 y3 y4 y5 y6 y7 e0 e1 e2 e3 e4 e5 e6 e7 g0 g1 g2 g3 g4 g5 g6 g7 OW
    by_cases x1 : e.acc < 1
    · as_aux_lemma =>
        have RE : Hid (le = 1) := Lib.hid (by rw [OE.out, if_pos (by omega)])
        have RR : Hid (lr = L) := Lib.hid (by rw [OR.out, RE.out, if_neg (by decide)])
        clear OE OR
        go_wp2_with fail
        go_ret2
        exact ⟨a, c, by rw [RE.out, RR.out]; rfl, by rw [RR.out]; exact OW6.out, WB.out⟩
    · skip
      by_cases x2 : 99 < e.acc
      · as_aux_lemma =>
          have RE : Hid (le = 1) := Lib.hid (by rw [OE.out, if_pos (by omega)])
          have RR : Hid (lr = L) := Lib.hid (by rw [OR.out, RE.out, if_neg (by decide)])
          clear OE OR
          go_wp2_with fail
          go_ret2
          exact ⟨a, c, by rw [RE.out, RR.out]; rfl, by rw [RR.out]; exact OW6.out, WB.out⟩
      · skip
        by_cases x3 : e.pur < 1
        · as_aux_lemma =>
            have RE : Hid (le = 1) := Lib.hid (by rw [OE.out, if_pos (by omega)])
            have RR : Hid (lr = L) := Lib.hid (by rw [OR.out, RE.out, if_neg (by decide)])
            clear OE OR
            go_wp2_with fail
            go_ret2
            exact ⟨a, c, by rw [RE.out, RR.out]; rfl, by rw [RR.out]; exact OW6.out, WB.out⟩
        · skip
          by_cases x4 : 5 < e.pur
          · as_aux_lemma =>
              have RE : Hid (le = 1) := Lib.hid (by rw [OE.out, if_pos (by omega)])
              have RR : Hid (lr = L) := Lib.hid (by rw [OR.out, RE.out, if_neg (by decide)])
              clear OE OR
              go_wp2_with fail
              go_ret2
              exact ⟨a, c, by rw [RE.out, RR.out]; rfl, by rw [RR.out]; exact OW6.out, WB.out⟩
          · skip
            have xx : ¬ (e.acc < 1 ∨ 99 < e.acc ∨ e.pur < 1 ∨ 5 < e.pur) := by omega
            cases hh
            · by_cases x5 : 8 ≤ M.length
              · as_aux_lemma =>
                  have x5' : (8 : Int) ≤ M.length := by omega
                  have RE : Hid (le = 15) := Lib.hid (by rw [OE.out, if_neg xx, if_neg (by decide), if_pos x5])
                  have RR : Hid (lr = L) := Lib.hid (by rw [OR.out, RE.out, if_neg (by decide)])
                  clear OE OR
                  go_wp2_with fail
                  go_ret2
                  exact ⟨a, c, by rw [RE.out, RR.out]; rfl, by rw [RR.out]; exact OW6.out, WB.out⟩
              · skip
                have x5' : ¬ (8 : Int) ≤ M.length := by omega
                have RE : Hid (le = 0) := Lib.hid (by rw [OE.out, if_neg xx, if_neg (by decide), if_neg x5])
                have RR : Hid (lr = nl) := Lib.hid (by rw [OR.out, RE.out, if_pos rfl])
                clear OE OR
                have hz : (w4.alloc (.cells #[.int .i64 e.acc, .int .i64 e.at_, .int .i64 ck, .int .i64 e.pur, .string ⟨#[]⟩, .string ⟨#[]⟩, .string ⟨#[]⟩, .string ⟨#[]⟩, .string ⟨#[]⟩] 28)).heap.size = w4.heap.size + 1 := by simp
                obtain ⟨w5, hw5⟩ : ∃ w5, w4.alloc (.cells #[.int .i64 e.acc, .int .i64 e.at_, .int .i64 ck, .int .i64 e.pur, .string ⟨#[]⟩, .string ⟨#[]⟩, .string ⟨#[]⟩, .string ⟨#[]⟩, .string ⟨#[]⟩] 28) = w5 := ⟨_, rfl⟩
                rw [hw5] at hz
                have b5n := BN.out
                have o5n := ON.out
                rw [hw5] at b5n o5n
                have hnw : (w5.alloc (.cells #[.int .i64 e.acc, .int .i64 e.at_, .int .i64 ck, .int .i64 e.pur, .string ⟨#[]⟩, .string ⟨#[]⟩, .string ⟨#[]⟩, .string ⟨#[]⟩, .string ⟨#[]⟩] 28)).drew.heap[w4.heap.size + 1]? = some (.cells #[.int .i64 e.acc, .int .i64 e.at_, .int .i64 ck, .int .i64 e.pur, .string ⟨#[]⟩, .string ⟨#[]⟩, .string ⟨#[]⟩, .string ⟨#[]⟩, .string ⟨#[]⟩] 28) := by rw [← hz]; exact heap_new w5 _
                have q6 : Below w5.heap.size w5 (w5.alloc (.cells #[.int .i64 e.acc, .int .i64 e.at_, .int .i64 ck, .int .i64 e.pur, .string ⟨#[]⟩, .string ⟨#[]⟩, .string ⟨#[]⟩, .string ⟨#[]⟩, .string ⟨#[]⟩] 28)).drew := below_drew ((Below.refl _ _).alloc (Nat.le_refl _) _)
                have o6 := o5n.below q6
                have b6 := b5n.trans (q6.mono b5n.size)
                have hap : (Value.slice a3 M.length c3).ownBlock ≠ some (w4.heap.size + 1) := fun q => by have := (World.ownsRow.lt o5n _ q).2; omega
                have fin : ∀ w7, (w5.alloc (.cells #[.int .i64 e.acc, .int .i64 e.at_, .int .i64 ck, .int .i64 e.pur, .string ⟨#[]⟩, .string ⟨#[]⟩, .string ⟨#[]⟩, .string ⟨#[]⟩, .string ⟨#[]⟩] 28)).drew.grownBy w7 (Value.slice a3 M.length c3).ownBlock → Below w.heap.size w w7 := fun w7 g => HB.out.trans ((b6.grown g b6.size (fun k hk => (World.ownsRow.lt o6 k hk).1)).mono HB.out.size)
                have IN7 := IN.out _ _ _ o6 (by rw [hnw, HN.out]; rfl) hap b6.size
                rw [← hw5] at IN7 fin
                have FIN := Lib.hid fin
                have IN6 := Lib.hid IN7
                clear fin IN7 hnw hz hap q6 b5n o5n o6 b6 hw5
                go_wp2_with ((go_at_call 43; (with_reducible refine (IN6.out).mono ?_); rintro x w7 ⟨a7, c7, rfl, o7, gr7⟩; have O7 := Lib.hid o7; have G7 := Lib.hid (FIN.out _ gr7); clear o7 gr7))
                go_ret2
                exact ⟨a7, c7, by rw [RE.out, RR.out]; rfl, by rw [RR.out]; exact O7.out.mono (Nat.le_trans hBs (Nat.le_of_lt hlt)), G7.out⟩
            · as_aux_lemma =>
                have RE : Hid (le = 14) := Lib.hid (by rw [OE.out, if_neg xx, if_pos rfl])
                have RR : Hid (lr = L) := Lib.hid (by rw [OR.out, RE.out, if_neg (by decide)])
                clear OE OR
                go_wp2_with fail
                go_ret2
                exact ⟨a, c, by rw [RE.out, RR.out]; rfl, by rw [RR.out]; exact OW6.out, WB.out⟩
end Go.Proofs.YtcidllckmidkoaaDoor
