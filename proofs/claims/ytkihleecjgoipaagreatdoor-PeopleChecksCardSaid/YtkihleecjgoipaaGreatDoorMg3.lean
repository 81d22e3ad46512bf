/- people.Find, By. Written by wip/tools/mkppc.py. -/
import Derived.Test.YtkihleecjgoipaaGreatDoorMg2
section
namespace Go.Proofs.YtkihleecjgoipaaGreatDoor
open Go.RowKit Go.Maps Go.Proofs.YtkihleecjgoipaaGreatDoor.Rw

theorem box1_later {w w2 : World} (v : Value) (T : TypeId) {B : Nat} (hB : w.heap.size < B) (b : Below B (w.alloc (.cells #[v] T)) w2) : w2.cell? ⟨w.heap.size, 0, none⟩ = some v := by
  exact (b.cell (p := ⟨w.heap.size, 0, none⟩) hB).trans (by rw [Lib.cell_of_heap (heap_new w _)]; rfl)
set_option maxHeartbeats 2000000 in
set_option maxRecDepth 100000 in
theorem findc_any (x : Per.R) (id : Int) (g : Nat) (w : World) (hc : w.cell? ⟨g, 0, none⟩ = some (.int .i64 id)) (hg : g < w.heap.size) :
    Calls Tryz.prog 33 #[x.agg, .pointer (some ⟨g, 0, none⟩)] w fun e w' => e = .returned (.bool (decide (x.id = id))) ∧ Below w.heap.size w w' := by
  have hb : Below w.heap.size w (w.alloc x.obj) := (Below.refl _ _).alloc (Nat.le_refl _) _
  obtain ⟨c0, c1, c2, c3, c4, c5, c6, c7, c8, c9, c10, c11, c12⟩ := Per.box w x
  have hc2 := (hb.cell (p := ⟨g, 0, none⟩) hg).trans hc
  have HB := Lib.hid hb
  clear hb
  unfold Per.R.obj at *
  unfold Per.R.agg
  go_enter Tryz.func33, Tryz.ntmps33
  go_wp2_with fail
  go_ret
  exact ⟨ret_bool (by rw [Bool.eq_iff_iff, beq_iff_eq, decide_eq_true_eq]), HB.out⟩
set_option maxHeartbeats 4000000 in
set_option maxRecDepth 100000 in
theorem find_any {B : Nat} {v : Value} {p : Ppl} {w : World} (hown : pown w B v p) (lim : few p) (id : Int) :
    Calls Tryz.prog 14 #[v, .int .i64 id] w fun e w' => e = .returned (.tuple #[(pick p.ps (fun x => decide (x.id = id))).agg, .bool (p.ps.any (fun x => decide (x.id = id)))]) ∧ Below w.heap.size w w' := by
  obtain ⟨a, c, a', c', rfl, o1, o2⟩ := hown
  obtain ⟨lim1, lim2⟩ := lim
  obtain ⟨L, S⟩ := p
  simp only at *
  have b1 : Below w.heap.size w (w.alloc (pobj (.slice a L.length c) (.slice a' S.length c'))) := (Below.refl _ _).alloc (Nat.le_refl _) _
  have b2 := b1.alloc (by simp) (.cells #[.int .i64 id] 3)
  have b3 := b2.alloc (by simp; omega) Per.zero.obj
  have z1 : (w.alloc (pobj (.slice a L.length c) (.slice a' S.length c'))).heap.size = w.heap.size + 1 := by simp
  have z2 : ((w.alloc (pobj (.slice a L.length c) (.slice a' S.length c'))).alloc (.cells #[.int .i64 id] 3)).heap.size = w.heap.size + 1 + 1 := by simp
  have z3 : (((w.alloc (pobj (.slice a L.length c) (.slice a' S.length c'))).alloc (.cells #[.int .i64 id] 3)).alloc Per.zero.obj).heap.size = w.heap.size + 1 + 1 + 1 := by simp
  obtain ⟨x0, x1⟩ := pbox_later (w := w) (w2 := ((w.alloc (pobj (.slice a L.length c) (.slice a' S.length c'))).alloc (.cells #[.int .i64 id] 3)).alloc Per.zero.obj) (.slice a L.length c) (.slice a' S.length c') (B := w.heap.size + 1) (Nat.lt_succ_self _) (((Below.refl _ _).alloc (by omega) _).alloc (by omega) _)
  have xi := box1_later (w := w.alloc (pobj (.slice a L.length c) (.slice a' S.length c'))) (w2 := ((w.alloc (pobj (.slice a L.length c) (.slice a' S.length c'))).alloc (.cells #[.int .i64 id] 3)).alloc Per.zero.obj) (.int .i64 id) 3 (B := w.heap.size + 2) (by omega) ((Below.refl _ _).alloc (by omega) _)
  rw [z1] at xi
  have BX0 := fun w2 b => Per.box_later (w := (w.alloc (pobj (.slice a L.length c) (.slice a' S.length c'))).alloc (.cells #[.int .i64 id] 3)) (w2 := w2) Per.zero b
  simp only [z2] at BX0
  have BX := Lib.hid BX0
  clear BX0
  have ON := Lib.hid (one_any (B := B) (p := ⟨L, S⟩) (w := (((w.alloc (pobj (.slice a L.length c) (.slice a' S.length c'))).alloc (.cells #[.int .i64 id] 3)).alloc Per.zero.obj)) ⟨a, c, a', c', rfl, o1.below b3, o2.below b3⟩ ⟨lim1, lim2⟩ (fun x => decide (x.id = id)) 33 (.pointer (some ⟨w.heap.size + 1, 0, none⟩)) (fun args w => by rfl) (fun x w2 b => findc_any x id _ w2 ((b.cell (p := ⟨w.heap.size + 1, 0, none⟩) (show w.heap.size + 1 < _ by omega)).trans xi) (by have := b.size; omega)))
  have HB := Lib.hid b3
  generalize pick L (fun x => decide (x.id = id)) = y at *
  generalize L.any (fun x => decide (x.id = id)) = q at *
  clear o1 o2 b1 b2 b3 z1 z2 z3
  unfold Per.R.agg at *
  unfold pobj Per.zero Per.R.obj at *
  simp only at *
  go_enter Tryz.func14, Tryz.ntmps14
  go_wp2_with ((go_at_call 32; (with_reducible refine (ON.out).mono ?_); rintro e w2 ⟨rfl, b2⟩; obtain ⟨⟨y0, y1, y2, y3, y4, y5, y6, y7, y8, y9, y10, y11, y12⟩, yf⟩ := BX.out w2 b2; have B2 := Lib.hid (HB.out.trans (b2.mono HB.out.size)); clear b2))
  refine bodyPost_ret (v := .tuple #[y.agg, .bool q]) ?_ rfl ⟨rfl, ?_⟩
  · simp [results, Tryz.f14, go_sem, Per.R.agg, y0, y1, y2, y3, y4, y5, y6, y7, y8, y9, y10, y11, y12]
  · exact Per.below_put (o := 0) B2.out (by first | omega | simp) _ _ _ _ _ _ _ _ _ _ _ _ _
set_option maxHeartbeats 2000000 in
set_option maxRecDepth 100000 in
theorem byc_any (x : Per.R) (m : ByteArray) (g : Nat) (w : World) (hc : w.cell? ⟨g, 0, none⟩ = some (.string m)) (hg : g < w.heap.size) :
    Calls Tryz.prog 65 #[x.agg, .pointer (some ⟨g, 0, none⟩)] w fun e w' => e = .returned (.bool (decide (x.mail = m))) ∧ Below w.heap.size w w' := by
  have hb : Below w.heap.size w (w.alloc x.obj) := (Below.refl _ _).alloc (Nat.le_refl _) _
  obtain ⟨c0, c1, c2, c3, c4, c5, c6, c7, c8, c9, c10, c11, c12⟩ := Per.box w x
  have hc2 := (hb.cell (p := ⟨g, 0, none⟩) hg).trans hc
  have HB := Lib.hid hb
  clear hb
  unfold Per.R.obj at *
  unfold Per.R.agg
  go_enter Tryz.func65, Tryz.ntmps65
  go_wp2_with fail
  go_ret
  exact ⟨ret_bool (eqS_dec _ _), HB.out⟩
set_option maxHeartbeats 4000000 in
set_option maxRecDepth 100000 in
theorem by_any {B : Nat} {v : Value} {p : Ppl} {w : World} (hown : pown w B v p) (lim : few p) (m : ByteArray) :
    Calls Tryz.prog 49 #[v, .string m] w fun e w' => e = .returned (.tuple #[(pick p.ps (fun x => decide (x.mail = m))).agg, .bool (p.ps.any (fun x => decide (x.mail = m)))]) ∧ Below w.heap.size w w' := by
  obtain ⟨a, c, a', c', rfl, o1, o2⟩ := hown
  obtain ⟨lim1, lim2⟩ := lim
  obtain ⟨L, S⟩ := p
  simp only at *
  have b1 : Below w.heap.size w (w.alloc (pobj (.slice a L.length c) (.slice a' S.length c'))) := (Below.refl _ _).alloc (Nat.le_refl _) _
  have b2 := b1.alloc (by simp) (.cells #[.string m] 9)
  have b3 := b2.alloc (by simp; omega) Per.zero.obj
  have z1 : (w.alloc (pobj (.slice a L.length c) (.slice a' S.length c'))).heap.size = w.heap.size + 1 := by simp
  have z2 : ((w.alloc (pobj (.slice a L.length c) (.slice a' S.length c'))).alloc (.cells #[.string m] 9)).heap.size = w.heap.size + 1 + 1 := by simp
  have z3 : (((w.alloc (pobj (.slice a L.length c) (.slice a' S.length c'))).alloc (.cells #[.string m] 9)).alloc Per.zero.obj).heap.size = w.heap.size + 1 + 1 + 1 := by simp
  obtain ⟨x0, x1⟩ := pbox_later (w := w) (w2 := ((w.alloc (pobj (.slice a L.length c) (.slice a' S.length c'))).alloc (.cells #[.string m] 9)).alloc Per.zero.obj) (.slice a L.length c) (.slice a' S.length c') (B := w.heap.size + 1) (Nat.lt_succ_self _) (((Below.refl _ _).alloc (by omega) _).alloc (by omega) _)
  have xi := box1_later (w := w.alloc (pobj (.slice a L.length c) (.slice a' S.length c'))) (w2 := ((w.alloc (pobj (.slice a L.length c) (.slice a' S.length c'))).alloc (.cells #[.string m] 9)).alloc Per.zero.obj) (.string m) 9 (B := w.heap.size + 2) (by omega) ((Below.refl _ _).alloc (by omega) _)
  rw [z1] at xi
  have BX0 := fun w2 b => Per.box_later (w := (w.alloc (pobj (.slice a L.length c) (.slice a' S.length c'))).alloc (.cells #[.string m] 9)) (w2 := w2) Per.zero b
  simp only [z2] at BX0
  have BX := Lib.hid BX0
  clear BX0
  have ON := Lib.hid (one_any (B := B) (p := ⟨L, S⟩) (w := (((w.alloc (pobj (.slice a L.length c) (.slice a' S.length c'))).alloc (.cells #[.string m] 9)).alloc Per.zero.obj)) ⟨a, c, a', c', rfl, o1.below b3, o2.below b3⟩ ⟨lim1, lim2⟩ (fun x => decide (x.mail = m)) 65 (.pointer (some ⟨w.heap.size + 1, 0, none⟩)) (fun args w => by rfl) (fun x w2 b => byc_any x m _ w2 ((b.cell (p := ⟨w.heap.size + 1, 0, none⟩) (show w.heap.size + 1 < _ by omega)).trans xi) (by have := b.size; omega)))
  have HB := Lib.hid b3
  generalize pick L (fun x => decide (x.mail = m)) = y at *
  generalize L.any (fun x => decide (x.mail = m)) = q at *
  clear o1 o2 b1 b2 b3 z1 z2 z3
  unfold Per.R.agg at *
  unfold pobj Per.zero Per.R.obj at *
  simp only at *
  go_enter Tryz.func49, Tryz.ntmps49
  go_wp2_with ((go_at_call 32; (with_reducible refine (ON.out).mono ?_); rintro e w2 ⟨rfl, b2⟩; obtain ⟨⟨y0, y1, y2, y3, y4, y5, y6, y7, y8, y9, y10, y11, y12⟩, yf⟩ := BX.out w2 b2; have B2 := Lib.hid (HB.out.trans (b2.mono HB.out.size)); clear b2))
  refine bodyPost_ret (v := .tuple #[y.agg, .bool q]) ?_ rfl ⟨rfl, ?_⟩
  · simp [results, Tryz.f49, go_sem, Per.R.agg, y0, y1, y2, y3, y4, y5, y6, y7, y8, y9, y10, y11, y12]
  · exact Per.below_put (o := 0) B2.out (by first | omega | simp) _ _ _ _ _ _ _ _ _ _ _ _ _
end Go.Proofs.YtkihleecjgoipaaGreatDoor
end
/- people.Next; the closures over sessions. Written by wip/tools/mkppd.py. -/
section
namespace Go.Proofs.YtkihleecjgoipaaGreatDoor
open Go.RowKit Go.Maps Go.Proofs.YtkihleecjgoipaaGreatDoor.Rw

def small (p : Ppl) : Prop := ∀ x ∈ p.ps, 0 ≤ x.id ∧ x.id ≤ 1000 ∧ 0 ≤ x.miss ∧ x.miss ≤ 1000 ∧ 0 ≤ x.vers ∧ x.vers ≤ 1099511627776
theorem small.at {p : Ppl} (h : small p) {k : Nat} (hk : k < p.ps.length) : 0 ≤ (p.ps[k]?.getD Per.zero).id ∧ (p.ps[k]?.getD Per.zero).id ≤ 1000 ∧ 0 ≤ (p.ps[k]?.getD Per.zero).miss ∧ (p.ps[k]?.getD Per.zero).miss ≤ 1000 ∧ 0 ≤ (p.ps[k]?.getD Per.zero).vers ∧ (p.ps[k]?.getD Per.zero).vers ≤ 1099511627776 := by
  rw [List.getElem?_eq_getElem hk]
  exact h _ (List.getElem_mem hk)
set_option maxHeartbeats 2000000 in
set_option maxRecDepth 100000 in
theorem next_any {B : Nat} {v : Value} {p : Ppl} {w : World} (hown : pown w B v p) (lim : few p) (hs : small p) :
    Calls Tryz.prog 50 #[v] w fun e w' => e = .returned (.int .i64 (nextN p)) ∧ Below w.heap.size w w' := by
  obtain ⟨a, c, a', c', rfl, o1, o2⟩ := hown
  obtain ⟨lim1, lim2⟩ := lim
  have hb : Below w.heap.size w (w.alloc (pobj (.slice a p.ps.length c) (.slice a' p.ss.length c'))) := (Below.refl _ _).alloc (Nat.le_refl _) _
  obtain ⟨x0, x1⟩ := pbox w (.slice a p.ps.length c) (.slice a' p.ss.length c')
  by_cases h0 : p.ps.length = 0
  · have NN : Hid (nextN p = 1) := Lib.hid (by unfold nextN; rw [if_pos h0])
    have h0' : ((p.ps.length : Nat) : Int) = 0 := by omega
    generalize nextN p = r at *
    rw [h0] at hb x0 ⊢
    have HB := Lib.hid hb
    clear o1 o2 hb h0 h0'
    unfold pobj at *
    go_enter Tryz.func50, Tryz.ntmps50
    go_wp2_with fail
    go_ret
    exact ⟨ret_int NN.out.symm, HB.out⟩
  · have hk : p.ps.length - 1 < p.ps.length := by omega
    have hsm := hs.at hk
    obtain ⟨g, rfl, _, _, m0, m1, m2, m3, m4, m5, m6, m7, m8, m9, m10, m11, m12⟩ := (o1.below hb).all _ hk
    have NN : Hid (nextN p = (p.ps[p.ps.length - 1]?.getD Per.zero).id + 1) := Lib.hid (by unfold nextN; rw [if_neg h0])
    generalize p.ps[p.ps.length - 1]?.getD Per.zero = x at *
    generalize nextN p = r at *
    obtain ⟨n, hn⟩ : ∃ n, p.ps.length = n + 1 := ⟨p.ps.length - 1, by omega⟩
    rw [hn] at x0 m0 m1 m2 m3 m4 m5 m6 m7 m8 m9 m10 m11 m12 hb lim1 ⊢
    rw [Nat.add_sub_cancel] at m0
    have hz : ¬ ((n + 1 : Nat) : Int) = 0 := by omega
    have e1 : IntKind.i64.wrap (((n + 1 : Nat) : Int) - 1) = n := by rw [IntKind.wrap_i64] <;> omega
    have hw : IntKind.i64.wrap (x.id + 1) = x.id + 1 := by rw [IntKind.wrap_i64] <;> omega
    have hn0 : (0 : Int) ≤ n := by omega
    have hn1 : (n : Int) < ((n + 1 : Nat) : Int) := by omega
    have HB := Lib.hid hb
    clear o1 o2 hb h0 hn hk hs m1 m2 m3 m4 m5 m6 m7 m8 m9 m10 m11 m12
    unfold pobj at *
    go_enter Tryz.func50, Tryz.ntmps50
    go_wp2_with fail
    go_ret
    exact ⟨ret_int (by rw [NN.out]), HB.out⟩
set_option maxHeartbeats 2000000 in
set_option maxRecDepth 100000 in
theorem sesc1_any (x : Ses.R) (ev : Evn) (g : Nat) (w : World) (hc : EvAt w g ev) (hg : g < w.heap.size) :
    Calls Tryz.prog 53 #[x.agg, .pointer (some ⟨g, 0, none⟩)] w fun e w' => e = .returned (.bool (decide (x.dig = ev.c))) ∧ Below w.heap.size w w' := by
  have hb : Below w.heap.size w (w.alloc x.obj) := (Below.refl _ _).alloc (Nat.le_refl _) _
  obtain ⟨c0, c1, c2⟩ := Ses.box w x
  obtain ⟨z0, z1, z2, z3, z4, z5, z6, z7⟩ := hc.below hb hg
  have HB := Lib.hid hb
  clear hb
  unfold Ses.R.obj at *
  unfold Ses.R.agg
  go_enter Tryz.func53, Tryz.ntmps53
  go_wp2_with fail
  go_ret
  exact ⟨ret_bool (eqS_dec _ _), HB.out⟩
set_option maxHeartbeats 2000000 in
set_option maxRecDepth 100000 in
theorem sesc2_any (x : Ses.R) (ev : Evn) (g : Nat) (w : World) (hc : EvAt w g ev) (hg : g < w.heap.size) :
    Calls Tryz.prog 56 #[x.agg, .pointer (some ⟨g, 0, none⟩)] w fun e w' => e = .returned (.bool (decide (x.exp ≤ ev.at_))) ∧ Below w.heap.size w w' := by
  have hb : Below w.heap.size w (w.alloc x.obj) := (Below.refl _ _).alloc (Nat.le_refl _) _
  obtain ⟨c0, c1, c2⟩ := Ses.box w x
  obtain ⟨z0, z1, z2, z3, z4, z5, z6, z7⟩ := hc.below hb hg
  have HB := Lib.hid hb
  clear hb
  unfold Ses.R.obj at *
  unfold Ses.R.agg
  go_enter Tryz.func56, Tryz.ntmps56
  go_wp2_with fail
  go_ret
  exact ⟨ret_bool (rfl), HB.out⟩
set_option maxHeartbeats 2000000 in
set_option maxRecDepth 100000 in
theorem revc_any (x : Ses.R) (id : Int) (g : Nat) (w : World) (hc : w.cell? ⟨g, 0, none⟩ = some (.int .i64 id)) (hg : g < w.heap.size) :
    Calls Tryz.prog 57 #[x.agg, .pointer (some ⟨g, 0, none⟩)] w fun e w' => e = .returned (.bool (decide (x.acc = id))) ∧ Below w.heap.size w w' := by
  have hb : Below w.heap.size w (w.alloc x.obj) := (Below.refl _ _).alloc (Nat.le_refl _) _
  obtain ⟨c0, c1, c2⟩ := Ses.box w x
  have hc2 := (hb.cell (p := ⟨g, 0, none⟩) hg).trans hc
  have HB := Lib.hid hb
  clear hb
  unfold Ses.R.obj at *
  unfold Ses.R.agg
  go_enter Tryz.func57, Tryz.ntmps57
  go_wp2_with fail
  go_ret
  exact ⟨ret_bool (by rw [Bool.eq_iff_iff, beq_iff_eq, decide_eq_true_eq]), HB.out⟩
end Go.Proofs.YtkihleecjgoipaaGreatDoor
end
/- people's functions that write into one person of a row: password, missed, moved, contact. -/
section
namespace Go.Proofs.YtkihleecjgoipaaGreatDoor
open Go.RowKit Go.Maps Go.Proofs.YtkihleecjgoipaaGreatDoor.Rw

set_option maxHeartbeats 2000000 in
set_option maxRecDepth 100000 in
theorem password_any {B c g n : Nat} {ms : List Per.R} {w : World} (o : Per.owns w B (.slice (some ⟨g, 0, none⟩) n c) ms) (i : Nat) (hi : i < ms.length) (x : Per.R) (hx : ms[i]?.getD Per.zero = x) (hv : 0 ≤ x.vers ∧ x.vers ≤ 1099511627776) (s k : ByteArray) :
    Calls Tryz.prog 58 #[.pointer (some ⟨g, i * 13, none⟩), .string s, .string k] w fun e w' => e = .returned (.int .i64 (pasE s k)) ∧ Per.owns w' B (.slice (some ⟨g, 0, none⟩) n c) (ms.set i (pasF x s k)) ∧ w.grownBy w' (some g) := by
  have K := Lib.hid (fun w => key_any s k w)
  obtain ⟨g', hg', _, _, m0, m1, m2, m3, m4, m5, m6, m7, m8, m9, m10, m11, m12⟩ := o.all i hi
  cases hg'
  rw [hx] at m0 m1 m2 m3 m4 m5 m6 m7 m8 m9 m10 m11 m12
  have kf := o.free
  have E : Hid (pasE s k = if keyB s k = true then 0 else 1) := Lib.hid rfl
  have F : Hid (pasF x s k = if keyB s k = true then { x with salt := s, chk := k, vers := min (x.vers + 1) 1099511627776, miss := 0, lock := 0 } else x) := Lib.hid rfl
  have O := Lib.hid o
  have HX := Lib.hid hx
  have hsame : ms.set i x = ms := by
    rw [← hx, List.getElem?_eq_getElem hi]
    simp
  have HS := Lib.hid hsame
  generalize pasE s k = r at *
  generalize pasF x s k = y at *
  clear o hsame
  cases hq : keyB s k
  · rw [hq] at K E F
    clear hq hx
    go_enter Tryz.func58, Tryz.ntmps58
    go_wp2_with (go_at_call 46; (with_reducible refine (K.out _).mono ?_); rintro e w2 ⟨rfl, rfl⟩)
    go_ret
    exact ⟨ret_int (by rw [E.out]; rfl), by rw [F.out, if_neg (by decide), HS.out]; exact O.out, grown_refl _ _⟩
  · rw [hq] at K E F
    have hw : IntKind.i64.wrap (x.vers + 1) = x.vers + 1 := by rw [IntKind.wrap_i64] <;> omega
    obtain ⟨vv, hvv⟩ : ∃ vv, min (x.vers + 1) 1099511627776 = vv := ⟨_, rfl⟩
    rw [hvv] at F
    have h1 := O.out.put1 i 3 hi (by omega) (.string s) { x with salt := s } (by rw [hx]; rfl)
    have h2 := h1.put1 i 4 (by simpa using hi) (by omega) (.string k) { x with salt := s, chk := k } (by rw [Per.set_at _ _ _ hi]; rfl)
    rw [List.set_set] at h2
    have h3 := h2.put1 i 5 (by simpa using hi) (by omega) (.int .i64 vv) { x with salt := s, chk := k, vers := vv } (by rw [Per.set_at _ _ _ hi]; rfl)
    rw [List.set_set] at h3
    have h4 := h3.put1 i 6 (by simpa using hi) (by omega) (.int .i64 0) { x with salt := s, chk := k, vers := vv, miss := 0 } (by rw [Per.set_at _ _ _ hi]; rfl)
    rw [List.set_set] at h4
    have h5 := h4.put1 i 7 (by simpa using hi) (by omega) (.int .i64 0) { x with salt := s, chk := k, vers := vv, miss := 0, lock := 0 } (by rw [Per.set_at _ _ _ hi]; rfl)
    rw [List.set_set] at h5
    have G := Lib.hid (World.grownBy.trans (World.grownBy.trans (World.grownBy.trans (World.grownBy.trans (grown_set w g (i * 13 + 3) (.string s)) (grown_set _ g (i * 13 + 4) (.string k))) (grown_set _ g (i * 13 + 5) (.int .i64 vv))) (grown_set _ g (i * 13 + 6) (.int .i64 0))) (grown_set _ g (i * 13 + 7) (.int .i64 0)))
    have O5 := Lib.hid h5
    have hm : IntKind.i64.wrap (x.vers + 1) = x.vers + 1 := hw
    clear hq hx h1 h2 h3 h4 h5
    go_enter Tryz.func58, Tryz.ntmps58
    go_wp2_with (go_at_call 46; (with_reducible refine (K.out _).mono ?_); rintro e w2 ⟨rfl, rfl⟩)
    go_ret
    exact ⟨ret_int (by rw [E.out]; rfl), by rw [F.out, if_pos trivial]; subst hvv; exact O5.out, by subst hvv; exact G.out⟩
set_option maxHeartbeats 2000000 in
set_option maxRecDepth 100000 in
theorem missed_any {B c g n : Nat} {ms : List Per.R} {w : World} (o : Per.owns w B (.slice (some ⟨g, 0, none⟩) n c) ms) (i : Nat) (hi : i < ms.length) (x : Per.R) (hx : ms[i]?.getD Per.zero = x) (hv : 0 ≤ x.miss ∧ x.miss ≤ 1000) (now : Int) :
    Calls Tryz.prog 59 #[.pointer (some ⟨g, i * 13, none⟩), .int .i64 now] w fun e w' => e = .returned (.tuple #[]) ∧ Per.owns w' B (.slice (some ⟨g, 0, none⟩) n c) (ms.set i (missF x now)) ∧ w.grownBy w' (some g) := by
  have CK := Lib.hid (fun w => clock_any now 100 w)
  obtain ⟨g', hg', _, _, m0, m1, m2, m3, m4, m5, m6, m7, m8, m9, m10, m11, m12⟩ := o.all i hi
  cases hg'
  rw [hx] at m6 m7
  have kf := o.free
  have F : Hid (missF x now = if 5 ≤ x.miss + 1 then { x with miss := 0, lock := clk now 100 } else { x with miss := x.miss + 1 }) := Lib.hid rfl
  have hw : IntKind.i64.wrap (x.miss + 1) = x.miss + 1 := by rw [IntKind.wrap_i64] <;> omega
  generalize missF x now = y at *
  generalize clk now 100 = ck at *
  have h1 := o.put1 i 6 hi (by omega) (.int .i64 (x.miss + 1)) { x with miss := x.miss + 1 } (by rw [hx]; rfl)
  have h2 := h1.put1 i 6 (by simpa using hi) (by omega) (.int .i64 0) { x with miss := 0 } (by rw [Per.set_at _ _ _ hi]; rfl)
  rw [List.set_set] at h2
  have h3 := h2.put1 i 7 (by simpa using hi) (by omega) (.int .i64 ck) { x with miss := 0, lock := ck } (by rw [Per.set_at _ _ _ hi]; rfl)
  rw [List.set_set] at h3
  have G1 := Lib.hid (grown_set w g (i * 13 + 6) (.int .i64 (x.miss + 1)))
  have G := Lib.hid (World.grownBy.trans (World.grownBy.trans (grown_set w g (i * 13 + 6) (.int .i64 (x.miss + 1))) (grown_set _ g (i * 13 + 6) (.int .i64 0))) (grown_set _ g (i * 13 + 7) (.int .i64 ck)))
  have O1 := Lib.hid h1
  have O3 := Lib.hid h3
  clear hx h1 h2 h3 o m0 m1 m2 m3 m4 m5 m8 m9 m10 m11 m12
  by_cases hq : 5 ≤ x.miss + 1
  · go_enter Tryz.func59, Tryz.ntmps59
    go_wp2_with (go_at_call 67; (with_reducible refine (CK.out _).mono ?_); rintro e w2 ⟨rfl, q⟩; have q2 := q.symm; subst q2)
    go_end0
    exact ⟨rfl, by rw [F.out, if_pos hq]; exact O3.out, G.out⟩
  · go_enter Tryz.func59, Tryz.ntmps59
    go_wp2_with fail
    go_end0
    exact ⟨rfl, by rw [F.out, if_neg (by omega)]; exact O1.out, G1.out⟩
end Go.Proofs.YtkihleecjgoipaaGreatDoor
end
