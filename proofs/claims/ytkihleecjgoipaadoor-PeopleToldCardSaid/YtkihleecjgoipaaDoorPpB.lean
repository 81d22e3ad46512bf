/- people.one, Find, By, Next. -/
import Derived.Test.YtkihleecjgoipaaDoorPpA
namespace Go.Proofs.YtkihleecjgoipaaDoor
open Go.RowKit Go.Maps Go.Proofs.YtkihleecjgoipaaDoor.Rw

/-- The first that P answers; the zero person, if there is none. -/
def pick (L : List Per.R) (P : Per.R → Bool) : Per.R := L[L.findIdx P]?.getD Per.zero
theorem pick_none {L : List Per.R} {P : Per.R → Bool} (h : ¬ L.findIdx P < L.length) : pick L P = Per.zero := by
  unfold pick
  rw [List.getElem?_eq_none (by omega)]
  rfl
theorem any_pos (L : List Per.R) (P : Per.R → Bool) : L.any P = decide (L.findIdx P < L.length) := by
  rw [any_idx]
  unfold idx
  by_cases h : L.findIdx P < L.length
  · rw [if_pos h, decide_eq_true h, decide_eq_true (by omega)]
  · rw [if_neg h, decide_eq_false h, decide_eq_false (by omega)]
def pobj (v1 v2 : Value) : Obj := .cells #[v1, v2] 27
theorem pbox (w : World) (v1 v2 : Value) : (w.alloc (pobj v1 v2)).cell? ⟨w.heap.size, 0, none⟩ = some v1 ∧ (w.alloc (pobj v1 v2)).cell? ⟨w.heap.size, 1, none⟩ = some v2 := by
  constructor <;> rw [Lib.cell_of_heap (heap_new w (pobj v1 v2))] <;> rfl
theorem pbox_later {w w2 : World} (v1 v2 : Value) {B : Nat} (hB : w.heap.size < B) (b : Below B (w.alloc (pobj v1 v2)) w2) : w2.cell? ⟨w.heap.size, 0, none⟩ = some v1 ∧ w2.cell? ⟨w.heap.size, 1, none⟩ = some v2 := by
  obtain ⟨h1, h2⟩ := pbox w v1 v2
  exact ⟨(b.cell (p := ⟨w.heap.size, 0, none⟩) hB).trans h1, (b.cell (p := ⟨w.heap.size, 1, none⟩) hB).trans h2⟩
set_option maxHeartbeats 4000000 in
set_option maxRecDepth 100000 in
theorem one_any {B : Nat} {v : Value} {p : Ppl} {w : World} (hown : pown w B v p) (lim : few p) (P : Per.R → Bool) (f : Nat) (cp : Value) (hf : ∀ (args : Array Value) (w : World), (callFunc f args).run Tryd.prog w = .ok (.enter f args) w)
    (hP : ∀ (x : Per.R) (w2 : World), Below w.heap.size w w2 → Calls Tryd.prog f #[x.agg, cp] w2 fun e w' => e = .returned (.bool (P x)) ∧ Below w2.heap.size w2 w') :
    Calls Tryd.prog 31 #[v, .func (.func f) #[] #[cp]] w fun e w' => e = .returned (.tuple #[(pick p.ps P).agg, .bool (p.ps.any P)]) ∧ Below w.heap.size w w' := by
  obtain ⟨a, c, a', c', rfl, o1, o2⟩ := hown
  obtain ⟨lim1, lim2⟩ := lim
  obtain ⟨L, S⟩ := p
  simp only at *
  have hb1 : Below w.heap.size w (w.alloc (pobj (.slice a L.length c) (.slice a' S.length c'))) := (Below.refl _ _).alloc (Nat.le_refl _) _
  have hb2 : Below w.heap.size w ((w.alloc (pobj (.slice a L.length c) (.slice a' S.length c'))).alloc Per.zero.obj) := hb1.alloc (by simp) _
  have hz : (w.alloc (pobj (.slice a L.length c) (.slice a' S.length c'))).heap.size = w.heap.size + 1 := by simp
  have hz2 : ((w.alloc (pobj (.slice a L.length c) (.slice a' S.length c'))).alloc Per.zero.obj).heap.size = w.heap.size + 1 + 1 := by simp
  have IX := Lib.hid (Per.idx_any1 (o1.below hb2) (by omega) P f cp hf (fun x w2 b => hP x w2 (hb2.trans (b.mono hb2.size))))
  have HB := Lib.hid hb2
  have BX0 := fun w2 b => Per.box_later (w := w.alloc (pobj (.slice a L.length c) (.slice a' S.length c'))) (w2 := w2) Per.zero b
  simp only [hz] at BX0
  have BX := Lib.hid BX0
  clear BX0
  have PX : Hid (∀ w2, Below ((w.alloc (pobj (.slice a L.length c) (.slice a' S.length c'))).alloc Per.zero.obj).heap.size ((w.alloc (pobj (.slice a L.length c) (.slice a' S.length c'))).alloc Per.zero.obj) w2 → w2.cell? ⟨w.heap.size, 0, none⟩ = some (.slice a L.length c) ∧ w2.cell? ⟨w.heap.size, 1, none⟩ = some (.slice a' S.length c')) := Lib.hid (fun w2 b =>
    pbox_later _ _ (B := w.heap.size + 1) (Nat.lt_succ_self _) (((Below.refl _ _).alloc (by omega) Per.zero.obj).trans (b.mono (by omega))))
  have OW := Lib.hid (fun w2 b => (o1.below hb2).below (w' := w2) b)
  have AP := Lib.hid (any_pos L P)
  have PK : Hid (pick L P = L[L.findIdx P]?.getD Per.zero) := Lib.hid rfl
  have PN := Lib.hid (fun h => pick_none (L := L) (P := P) h)
  obtain ⟨i0, i1⟩ := PX.out _ (Below.refl _ _)
  unfold pobj at *
  unfold Per.zero Per.R.obj at IX HB BX PX OW hb2 hz2 i0 i1
  simp only at IX HB BX PX OW hb2 hz2 i0 i1
  clear o1 o2 hP hb1 hb2
  by_cases hq : L.findIdx P < L.length
  · have hi : idx L P = (L.findIdx P : Nat) := by unfold idx; rw [if_pos hq]
    rw [hi] at IX
    have HA : Hid (L.any P = true) := Lib.hid (by rw [AP.out, decide_eq_true hq])
    rw [HA.out, PK.out]
    clear AP hi PN PK HA
    generalize L.findIdx P = k at *
    obtain ⟨x, hx⟩ : ∃ x, L[k]?.getD Per.zero = x := ⟨_, rfl⟩
    have MM := Lib.hid (fun w2 b => (OW.out w2 b).all k hq)
    rw [hx] at MM ⊢
    have hkn : (k : Int) < L.length := by omega
    clear hx
    go_enter Tryd.func31, Tryd.ntmps31
    go_wp2_with (go_at_call 23; (with_reducible refine (IX.out).mono ?_); rintro e w2 ⟨rfl, b2⟩; obtain ⟨⟨y0, y1, y2, y3, y4, y5, y6, y7, y8, y9, y10, y11, y12⟩, yf⟩ := BX.out w2 b2; obtain ⟨x0, x1⟩ := PX.out w2 b2; obtain ⟨g, rfl, _, _, m0, m1, m2, m3, m4, m5, m6, m7, m8, m9, m10, m11, m12⟩ := MM.out w2 b2; have B2 := Lib.hid (HB.out.trans (b2.mono HB.out.size)); clear b2)
    refine bodyPost_ret (v := .tuple #[x.agg, .bool true]) ?_ rfl ⟨rfl, ?_⟩
    · simp [results, Tryd.f31, go_sem, Per.R.agg, y0, y1, y2, y3, y4, y5, y6, y7, y8, y9, y10, y11, y12]
    · exact Per.below_put (o := 0) B2.out (by simp) _ _ _ _ _ _ _ _ _ _ _ _ _
  · have hi : idx L P = -1 := by unfold idx; rw [if_neg hq]
    rw [hi] at IX
    have HA : Hid (L.any P = false) := Lib.hid (by rw [AP.out, decide_eq_false hq])
    rw [HA.out, PN.out hq]
    clear AP hi PN PK HA OW
    generalize L.findIdx P = k at *
    go_enter Tryd.func31, Tryd.ntmps31
    go_wp2_with (go_at_call 23; (with_reducible refine (IX.out).mono ?_); rintro e w2 ⟨rfl, b2⟩; obtain ⟨⟨y0, y1, y2, y3, y4, y5, y6, y7, y8, y9, y10, y11, y12⟩, yf⟩ := BX.out w2 b2; obtain ⟨x0, x1⟩ := PX.out w2 b2; have B2 := Lib.hid (HB.out.trans (b2.mono HB.out.size)); clear b2)
    refine bodyPost_ret (v := .tuple #[Per.zero.agg, .bool false]) ?_ rfl ⟨rfl, ?_⟩
    · simp [results, Tryd.f31, go_sem, Per.R.agg, Per.zero, y0, y1, y2, y3, y4, y5, y6, y7, y8, y9, y10, y11, y12]
    · exact Per.below_put (o := 0) B2.out (by simp) _ _ _ _ _ _ _ _ _ _ _ _ _
end Go.Proofs.YtkihleecjgoipaaDoor
