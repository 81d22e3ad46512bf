/- people.Find, By. Written by wip/tools/mkppc.py. -/
import Derived.Test.YtkihleecjgoipaaDoorPpB
namespace Go.Proofs.YtkihleecjgoipaaDoor
open Go.RowKit Go.Maps Go.Proofs.YtkihleecjgoipaaDoor.Rw

theorem box1_later {w w2 : World} (v : Value) (T : TypeId) {B : Nat} (hB : w.heap.size < B) (b : Below B (w.alloc (.cells #[v] T)) w2) : w2.cell? ⟨w.heap.size, 0, none⟩ = some v := by
  exact (b.cell (p := ⟨w.heap.size, 0, none⟩) hB).trans (by rw [Lib.cell_of_heap (heap_new w _)]; rfl)
set_option maxHeartbeats 2000000 in
set_option maxRecDepth 100000 in
theorem findc_any (x : Per.R) (id : Int) (g : Nat) (w : World) (hc : w.cell? ⟨g, 0, none⟩ = some (.int .i64 id)) (hg : g < w.heap.size) :
    Calls Tryd.prog 32 #[x.agg, .pointer (some ⟨g, 0, none⟩)] w fun e w' => e = .returned (.bool (decide (x.id = id))) ∧ Below w.heap.size w w' := by
  have hb : Below w.heap.size w (w.alloc x.obj) := (Below.refl _ _).alloc (Nat.le_refl _) _
  obtain ⟨c0, c1, c2, c3, c4, c5, c6, c7, c8, c9, c10, c11, c12⟩ := Per.box w x
  have hc2 := (hb.cell (p := ⟨g, 0, none⟩) hg).trans hc
  have HB := Lib.hid hb
  clear hb
  unfold Per.R.obj at *
  unfold Per.R.agg
  go_enter Tryd.func32, Tryd.ntmps32
  go_wp2_with fail
  go_ret
  exact ⟨ret_bool (by rw [Bool.eq_iff_iff, beq_iff_eq, decide_eq_true_eq]), HB.out⟩
set_option maxHeartbeats 4000000 in
set_option maxRecDepth 100000 in
theorem find_any {B : Nat} {v : Value} {p : Ppl} {w : World} (hown : pown w B v p) (lim : few p) (id : Int) :
    Calls Tryd.prog 12 #[v, .int .i64 id] w fun e w' => e = .returned (.tuple #[(pick p.ps (fun x => decide (x.id = id))).agg, .bool (p.ps.any (fun x => decide (x.id = id)))]) ∧ Below w.heap.size w w' := by
  obtain ⟨a, c, a', c', rfl, o1, o2⟩ := hown
  obtain ⟨lim1, lim2⟩ := lim
  obtain ⟨L, S⟩ := p
  simp only at *
  have b1 : Below w.heap.size w (w.alloc (pobj (.slice a L.length c) (.slice a' S.length c'))) := (Below.refl _ _).alloc (Nat.le_refl _) _
  have b2 := b1.alloc (by simp) (.cells #[.int .i64 id] 3)
  have b3 := b2.alloc (by simp; omega) Per.zero.obj
  have z1 : (w.alloc (pobj (.slice a L.length c) (.slice a' S.length c'))).heap.size = w.heap.size + 1 := by simp
  have z2 : ((w.alloc (pobj (.slice a L.length c) (.slice a' S.length c'))).alloc (.cells #[.int .i64 id] 3)).heap.size = w.heap.size + 1 + 1 := by simp
  have z3 : (((w.alloc (pobj (.slice a L.length c) (.slice a' S.length c'))).alloc (.cells #[.int .i64 id] 3)).alloc Per.zero.obj).heap.size = w.heap.size + 1 + 1 + 1 := by simp
  obtain ⟨x0, x1⟩ := pbox_later (w := w) (w2 := ((w.alloc (pobj (.slice a L.length c) (.slice a' S.length c'))).alloc (.cells #[.int .i64 id] 3)).alloc Per.zero.obj) (.slice a L.length c) (.slice a' S.length c') (B := w.heap.size + 1) (Nat.lt_succ_self _) (((Below.refl _ _).alloc (by omega) _).alloc (by omega) _)
  have xi := box1_later (w := w.alloc (pobj (.slice a L.length c) (.slice a' S.length c'))) (w2 := ((w.alloc (pobj (.slice a L.length c) (.slice a' S.length c'))).alloc (.cells #[.int .i64 id] 3)).alloc Per.zero.obj) (.int .i64 id) 3 (B := w.heap.size + 2) (by omega) ((Below.refl _ _).alloc (by omega) _)
  rw [z1] at xi
  have BX0 := fun w2 b => Per.box_later (w := (w.alloc (pobj (.slice a L.length c) (.slice a' S.length c'))).alloc (.cells #[.int .i64 id] 3)) (w2 := w2) Per.zero b
  simp only [z2] at BX0
  have BX := Lib.hid BX0
  clear BX0
  have ON := Lib.hid (one_any (B := B) (p := ⟨L, S⟩) (w := (((w.alloc (pobj (.slice a L.length c) (.slice a' S.length c'))).alloc (.cells #[.int .i64 id] 3)).alloc Per.zero.obj)) ⟨a, c, a', c', rfl, o1.below b3, o2.below b3⟩ ⟨lim1, lim2⟩ (fun x => decide (x.id = id)) 32 (.pointer (some ⟨w.heap.size + 1, 0, none⟩)) (fun args w => by rfl) (fun x w2 b => findc_any x id _ w2 ((b.cell (p := ⟨w.heap.size + 1, 0, none⟩) (show w.heap.size + 1 < _ by omega)).trans xi) (by have := b.size; omega)))
  have HB := Lib.hid b3
  generalize pick L (fun x => decide (x.id = id)) = y at *
  generalize L.any (fun x => decide (x.id = id)) = q at *
  clear o1 o2 b1 b2 b3 z1 z2 z3
  unfold Per.R.agg at *
  unfold pobj Per.zero Per.R.obj at *
  simp only at *
  go_enter Tryd.func12, Tryd.ntmps12
  go_wp2_with ((go_at_call 31; (with_reducible refine (ON.out).mono ?_); rintro e w2 ⟨rfl, b2⟩; obtain ⟨⟨y0, y1, y2, y3, y4, y5, y6, y7, y8, y9, y10, y11, y12⟩, yf⟩ := BX.out w2 b2; have B2 := Lib.hid (HB.out.trans (b2.mono HB.out.size)); clear b2))
  refine bodyPost_ret (v := .tuple #[y.agg, .bool q]) ?_ rfl ⟨rfl, ?_⟩
  · simp [results, Tryd.f12, go_sem, Per.R.agg, y0, y1, y2, y3, y4, y5, y6, y7, y8, y9, y10, y11, y12]
  · exact Per.below_put (o := 0) B2.out (by first | omega | simp) _ _ _ _ _ _ _ _ _ _ _ _ _
set_option maxHeartbeats 2000000 in
set_option maxRecDepth 100000 in
theorem byc_any (x : Per.R) (m : ByteArray) (g : Nat) (w : World) (hc : w.cell? ⟨g, 0, none⟩ = some (.string m)) (hg : g < w.heap.size) :
    Calls Tryd.prog 42 #[x.agg, .pointer (some ⟨g, 0, none⟩)] w fun e w' => e = .returned (.bool (decide (x.mail = m))) ∧ Below w.heap.size w w' := by
  have hb : Below w.heap.size w (w.alloc x.obj) := (Below.refl _ _).alloc (Nat.le_refl _) _
  obtain ⟨c0, c1, c2, c3, c4, c5, c6, c7, c8, c9, c10, c11, c12⟩ := Per.box w x
  have hc2 := (hb.cell (p := ⟨g, 0, none⟩) hg).trans hc
  have HB := Lib.hid hb
  clear hb
  unfold Per.R.obj at *
  unfold Per.R.agg
  go_enter Tryd.func42, Tryd.ntmps42
  go_wp2_with fail
  go_ret
  exact ⟨ret_bool (eqS_dec _ _), HB.out⟩
set_option maxHeartbeats 4000000 in
set_option maxRecDepth 100000 in
theorem by_any {B : Nat} {v : Value} {p : Ppl} {w : World} (hown : pown w B v p) (lim : few p) (m : ByteArray) :
    Calls Tryd.prog 21 #[v, .string m] w fun e w' => e = .returned (.tuple #[(pick p.ps (fun x => decide (x.mail = m))).agg, .bool (p.ps.any (fun x => decide (x.mail = m)))]) ∧ Below w.heap.size w w' := by
  obtain ⟨a, c, a', c', rfl, o1, o2⟩ := hown
  obtain ⟨lim1, lim2⟩ := lim
  obtain ⟨L, S⟩ := p
  simp only at *
  have b1 : Below w.heap.size w (w.alloc (pobj (.slice a L.length c) (.slice a' S.length c'))) := (Below.refl _ _).alloc (Nat.le_refl _) _
  have b2 := b1.alloc (by simp) (.cells #[.string m] 9)
  have b3 := b2.alloc (by simp; omega) Per.zero.obj
  have z1 : (w.alloc (pobj (.slice a L.length c) (.slice a' S.length c'))).heap.size = w.heap.size + 1 := by simp
  have z2 : ((w.alloc (pobj (.slice a L.length c) (.slice a' S.length c'))).alloc (.cells #[.string m] 9)).heap.size = w.heap.size + 1 + 1 := by simp
  have z3 : (((w.alloc (pobj (.slice a L.length c) (.slice a' S.length c'))).alloc (.cells #[.string m] 9)).alloc Per.zero.obj).heap.size = w.heap.size + 1 + 1 + 1 := by simp
  obtain ⟨x0, x1⟩ := pbox_later (w := w) (w2 := ((w.alloc (pobj (.slice a L.length c) (.slice a' S.length c'))).alloc (.cells #[.string m] 9)).alloc Per.zero.obj) (.slice a L.length c) (.slice a' S.length c') (B := w.heap.size + 1) (Nat.lt_succ_self _) (((Below.refl _ _).alloc (by omega) _).alloc (by omega) _)
  have xi := box1_later (w := w.alloc (pobj (.slice a L.length c) (.slice a' S.length c'))) (w2 := ((w.alloc (pobj (.slice a L.length c) (.slice a' S.length c'))).alloc (.cells #[.string m] 9)).alloc Per.zero.obj) (.string m) 9 (B := w.heap.size + 2) (by omega) ((Below.refl _ _).alloc (by omega) _)
  rw [z1] at xi
  have BX0 := fun w2 b => Per.box_later (w := (w.alloc (pobj (.slice a L.length c) (.slice a' S.length c'))).alloc (.cells #[.string m] 9)) (w2 := w2) Per.zero b
  simp only [z2] at BX0
  have BX := Lib.hid BX0
  clear BX0
  have ON := Lib.hid (one_any (B := B) (p := ⟨L, S⟩) (w := (((w.alloc (pobj (.slice a L.length c) (.slice a' S.length c'))).alloc (.cells #[.string m] 9)).alloc Per.zero.obj)) ⟨a, c, a', c', rfl, o1.below b3, o2.below b3⟩ ⟨lim1, lim2⟩ (fun x => decide (x.mail = m)) 42 (.pointer (some ⟨w.heap.size + 1, 0, none⟩)) (fun args w => by rfl) (fun x w2 b => byc_any x m _ w2 ((b.cell (p := ⟨w.heap.size + 1, 0, none⟩) (show w.heap.size + 1 < _ by omega)).trans xi) (by have := b.size; omega)))
  have HB := Lib.hid b3
  generalize pick L (fun x => decide (x.mail = m)) = y at *
  generalize L.any (fun x => decide (x.mail = m)) = q at *
  clear o1 o2 b1 b2 b3 z1 z2 z3
  unfold Per.R.agg at *
  unfold pobj Per.zero Per.R.obj at *
  simp only at *
  go_enter Tryd.func21, Tryd.ntmps21
  go_wp2_with ((go_at_call 31; (with_reducible refine (ON.out).mono ?_); rintro e w2 ⟨rfl, b2⟩; obtain ⟨⟨y0, y1, y2, y3, y4, y5, y6, y7, y8, y9, y10, y11, y12⟩, yf⟩ := BX.out w2 b2; have B2 := Lib.hid (HB.out.trans (b2.mono HB.out.size)); clear b2))
  refine bodyPost_ret (v := .tuple #[y.agg, .bool q]) ?_ rfl ⟨rfl, ?_⟩
  · simp [results, Tryd.f21, go_sem, Per.R.agg, y0, y1, y2, y3, y4, y5, y6, y7, y8, y9, y10, y11, y12]
  · exact Per.below_put (o := 0) B2.out (by first | omega | simp) _ _ _ _ _ _ _ _ _ _ _ _ _
end Go.Proofs.YtkihleecjgoipaaDoor
