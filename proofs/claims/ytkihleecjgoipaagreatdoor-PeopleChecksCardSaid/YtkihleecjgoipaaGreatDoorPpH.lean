/- people.change, of one person, as Apply uses it. -/
import Derived.Test.YtkihleecjgoipaaGreatDoorMg4
namespace Go.Proofs.YtkihleecjgoipaaGreatDoor
open Go.RowKit Go.Maps Go.Proofs.YtkihleecjgoipaaGreatDoor.Rw

theorem pcell_of {w : World} {g : Nat} {v1 v2 : Value} (h : w.heap[g]? = some (pobj v1 v2)) : (w.cell? ⟨g, 0, none⟩ = some v1 ∧ w.cell? ⟨g, 1, none⟩ = some v2) ∧ ∀ j, w.frozen? ⟨g, j, none⟩ = false := by
  refine ⟨⟨?_, ?_⟩, fun j => frozen_of_row _ _ _ _ _ h⟩ <;> rw [Lib.cell_of_heap h] <;> rfl
def chgR (p : Ppl) (i : Nat) (e : Evn) : Ppl := if doesE p (p.ps[i]?.getD Per.zero) e = 0 then ⟨p.ps.set i (doesF p (p.ps[i]?.getD Per.zero) e), p.ss⟩ else p
set_option maxHeartbeats 4000000 in
set_option maxRecDepth 100000 in
theorem change_any {B0 : Nat} {w : World} {v : Value} {p : Ppl} (hown : pown w B0 v p) (lim : few p) (hsm : small p) (hB0 : B0 ≤ w.heap.size) (i : Nat) (hi : i < p.ps.length) (e : Evn) (hs : e.a.size ≤ 4000000000) (hm : ML w) (gp ge : Nat)
    (hp : ∃ s1 s2, v = .agg #[s1, s2] ∧ w.cell? ⟨gp, 0, none⟩ = some s1 ∧ w.cell? ⟨gp, 1, none⟩ = some s2) (he : EvAt w ge e) (hgp : gp < w.heap.size) (hge : ge < w.heap.size) :
    Calls Tryz.prog 29 #[v, .int .i64 i, .func (.func 30) #[] #[.pointer (some ⟨gp, 0, none⟩), .pointer (some ⟨ge, 0, none⟩)]] w fun r w' => ∃ v', r = .returned (.tuple #[v', .int .i64 (doesE p (p.ps[i]?.getD Per.zero) e)]) ∧ pown w' B0 v' (chgR p i e) ∧ Below w.heap.size w w' := by
  have hsx := hsm.at hi
  have CE : Hid (chgR p i e = if doesE p (p.ps[i]?.getD Per.zero) e = 0 then ⟨p.ps.set i (doesF p (p.ps[i]?.getD Per.zero) e), p.ss⟩ else p) := Lib.hid rfl
  obtain ⟨a, c, a', c', rfl, o1, o2⟩ := hown
  obtain ⟨s1, s2, hv, hc1, hc2⟩ := hp
  simp only [Value.agg.injEq, Array.mk.injEq, List.cons.injEq, and_true] at hv
  obtain ⟨rfl, rfl⟩ := hv
  obtain ⟨lim1, lim2⟩ := lim
  obtain ⟨L, S⟩ := p
  simp only at *
  have hb1 : Below w.heap.size w (w.alloc (pobj (.slice a L.length c) (.slice a' S.length c'))) := (Below.refl _ _).alloc (Nat.le_refl _) _
  have hb2 := hb1.alloc (by simp) (pobj (.slice none 0 0) (.slice none 0 0))
  have z1 : (w.alloc (pobj (.slice a L.length c) (.slice a' S.length c'))).heap.size = w.heap.size + 1 := by simp
  have z2 : ((w.alloc (pobj (.slice a L.length c) (.slice a' S.length c'))).alloc (pobj (.slice none 0 0) (.slice none 0 0))).heap.size = w.heap.size + 1 + 1 := by simp
  have h0 : ((w.alloc (pobj (.slice a L.length c) (.slice a' S.length c'))).alloc (pobj (.slice none 0 0) (.slice none 0 0))).heap[w.heap.size]? = some (pobj (.slice a L.length c) (.slice a' S.length c')) := by
    rw [Lib.alloc_old _ _ _ (by omega)]; exact heap_new _ _
  have h1 : ((w.alloc (pobj (.slice a L.length c) (.slice a' S.length c'))).alloc (pobj (.slice none 0 0) (.slice none 0 0))).heap[w.heap.size + 1]? = some (pobj (.slice none 0 0) (.slice none 0 0)) := by
    rw [← z1]; exact heap_new _ _
  obtain ⟨⟨i0, i1⟩, _⟩ := pcell_of h0
  obtain ⟨w2, hw2⟩ : ∃ w2, (w.alloc (pobj (.slice a L.length c) (.slice a' S.length c'))).alloc (pobj (.slice none 0 0) (.slice none 0 0)) = w2 := ⟨_, rfl⟩
  have CL : Hid (Calls Tryz.prog 51 #[.slice a L.length c] ((w.alloc (pobj (.slice a L.length c) (.slice a' S.length c'))).alloc (pobj (.slice none 0 0) (.slice none 0 0))) fun r w' => ∃ g2 c2, r = .returned (.slice (some ⟨g2, 0, none⟩) L.length c2) ∧ w.heap.size + 2 ≤ g2 ∧ g2 < w'.heap.size ∧ Per.owns w' (w.heap.size + 2) (.slice (some ⟨g2, 0, none⟩) L.length c2) L ∧ Below (w.heap.size + 2) ((w.alloc (pobj (.slice a L.length c) (.slice a' S.length c'))).alloc (pobj (.slice none 0 0) (.slice none 0 0))) w') := Lib.hid (by
    refine (Per.clone_any (o1.below hb2) (by omega)).mono fun r w' ⟨a2, c2, q1, q2, q3⟩ => ?_
    rw [z2] at q2 q3
    obtain ⟨g2, rfl, hg, hl, _⟩ := q2.all i hi
    exact ⟨g2, c2, q1, hg, hl, q2, q3⟩)
  have HOW : Hid (∀ w2 g2 c2, Below w.heap.size w w2 → Per.owns w2 (w.heap.size + 2) (.slice (some ⟨g2, 0, none⟩) L.length c2) L → Calls Tryz.prog 30 #[.pointer (some ⟨g2, i * 13, none⟩), .pointer (some ⟨gp, 0, none⟩), .pointer (some ⟨ge, 0, none⟩)] w2 fun r w' => r = .returned (.int .i64 (doesE ⟨L, S⟩ (L[i]?.getD Per.zero) e)) ∧ Per.owns w' (w.heap.size + 2) (.slice (some ⟨g2, 0, none⟩) L.length c2) (L.set i (doesF ⟨L, S⟩ (L[i]?.getD Per.zero) e)) ∧ w2.grownBy w' (some g2)) := Lib.hid (fun w2 g2 c2 b q =>
    how_any q i hi _ rfl ⟨hsx.2.2.2.2.1, hsx.2.2.2.2.2⟩ ⟨hsx.2.2.1, hsx.2.2.2.1⟩ (s1 := .slice a L.length c) (s2 := .slice a' S.length c') (p := ⟨L, S⟩) (B0 := B0) ⟨a, c, a', c', rfl, o1.below b, o2.below b⟩ ⟨lim1, lim2⟩ e hs (hm.below b) gp ge
      ⟨(b.cell (p := ⟨gp, 0, none⟩) hgp).trans hc1, (b.cell (p := ⟨gp, 1, none⟩) hgp).trans hc2⟩ (he.below b hge))
  have HB := Lib.hid hb2
  have PX : Hid (∀ w3 w4 g2, Below (w.heap.size + 2) ((w.alloc (pobj (.slice a L.length c) (.slice a' S.length c'))).alloc (pobj (.slice none 0 0) (.slice none 0 0))) w3 → w3.grownBy w4 (some g2) → w.heap.size + 2 ≤ g2 → (w4.cell? ⟨w.heap.size, 0, none⟩ = some (.slice a L.length c) ∧ w4.cell? ⟨w.heap.size, 1, none⟩ = some (.slice a' S.length c') ∧ ∀ j, w4.frozen? ⟨w.heap.size, j, none⟩ = false) ∧ (w4.cell? ⟨w.heap.size + 1, 0, none⟩ = some (.slice none 0 0) ∧ w4.cell? ⟨w.heap.size + 1, 1, none⟩ = some (.slice none 0 0) ∧ ∀ j, w4.frozen? ⟨w.heap.size + 1, j, none⟩ = false)) := Lib.hid (fun w3 w4 g2 b gr hg => by
    have s3 := b.size
    rw [z2] at s3
    have b4 := b.trans (grown_below gr hg (by omega))
    have e0 := (b4.block w.heap.size (by omega)).trans h0
    have e1 := (b4.block (w.heap.size + 1) (by omega)).trans h1
    obtain ⟨⟨y0, y1⟩, yf⟩ := pcell_of e0
    obtain ⟨⟨u0, u1⟩, uf⟩ := pcell_of e1
    exact ⟨⟨y0, y1, yf⟩, u0, u1, uf⟩)
  have BF : Hid (∀ w3 w4 g2, Below (w.heap.size + 2) ((w.alloc (pobj (.slice a L.length c) (.slice a' S.length c'))).alloc (pobj (.slice none 0 0) (.slice none 0 0))) w3 → w3.grownBy w4 (some g2) → w.heap.size + 2 ≤ g2 → Below w.heap.size w w4) := Lib.hid (fun w3 w4 g2 b gr hg => by
    have s3 := b.size
    rw [z2] at s3
    exact hb2.trans ((b.trans (grown_below gr hg (by omega))).mono (by omega)))
  have OW1 := Lib.hid o1
  have OW2 := Lib.hid o2
  have hin : (i : Int) < L.length := by omega
  have hi0 : (0 : Int) ≤ i := by omega
  have HL : Hid ((L.set i (doesF ⟨L, S⟩ (L[i]?.getD Per.zero) e)).length = L.length) := Lib.hid (List.length_set ..)
  generalize chgR ⟨L, S⟩ i e = cr at *
  generalize doesE ⟨L, S⟩ (L[i]?.getD Per.zero) e = r at *
  generalize L.set i (doesF ⟨L, S⟩ (L[i]?.getD Per.zero) e) = L2 at *
  have HB3 : Hid (∀ w3, Below (w.heap.size + 2) ((w.alloc (pobj (.slice a L.length c) (.slice a' S.length c'))).alloc (pobj (.slice none 0 0) (.slice none 0 0))) w3 → Below w.heap.size w w3) := Lib.hid (fun w3 b => hb2.trans (b.mono (by omega)))
  clear o1 o2 hb1 hb2 z1 z2 h0 h1 hw2 hsx hsm hm he hc1 hc2 w2
  unfold pobj at *
  by_cases hr : r = 0
  · subst hr
    have CR : Hid (cr = ⟨L2, S⟩) := Lib.hid (by rw [CE.out, if_pos rfl])
    clear CE
    go_enter Tryz.func29, Tryz.ntmps29
    go_wp2_with (first
      | (go_at_call 51; (with_reducible refine (CL.out).mono ?_); rintro z w3 ⟨g2, c2, rfl, hg2, hl2, q3, b3⟩; have Q3 := Lib.hid q3; have B3 := Lib.hid b3; have G2 := Lib.hid hg2; clear q3 b3 hg2; obtain ⟨⟨y0, y1, yf⟩, u0, u1, uf⟩ := PX.out _ _ _ B3.out (grown_refl _ _) G2.out)
      | (go_at_call 30; (refine (HOW.out _ _ _ (HB3.out _ B3.out) Q3.out).mono ?_); rintro z w4 ⟨rfl, o4, g4⟩; obtain ⟨⟨t0, t1, tf⟩, k0, k1, kf⟩ := PX.out _ _ _ B3.out g4 G2.out; have B4 := Lib.hid (BF.out _ _ _ B3.out g4 G2.out); have O4 := Lib.hid o4; clear o4 g4))
    refine bodyPost_ret (v := .tuple #[.agg #[.slice (some ⟨g2, 0, none⟩) L.length c2, .slice a' S.length c'], .int .i64 0]) ?_ rfl ⟨_, rfl, ?_, ?_⟩
    · simp [results, Tryz.f29, go_sem, k0, k1]
    · rw [CR.out]
      have bx : Below w.heap.size w ((w4.setCell ⟨w.heap.size + 1, 0, none⟩ (.slice (some ⟨g2, 0, none⟩) L.length c2)).setCell ⟨w.heap.size + 1, 1, none⟩ (.slice a' S.length c')) := (B4.out.setCell (by simp) _).setCell (by simp) _
      refine ⟨some ⟨g2, 0, none⟩, c2, a', c', by rw [HL.out], ?_, OW2.out.below bx⟩
      rw [HL.out]
      exact ((O4.out.apart (by omega) _).apart (by omega) _).mono (by omega)
    · exact (B4.out.setCell (by simp) _).setCell (by simp) _
  · have hr' : (r == 0) = false := beq_eq_false_iff_ne.2 hr
    have CR : Hid (cr = ⟨L, S⟩) := Lib.hid (by rw [CE.out, if_neg hr])
    clear CE
    go_enter Tryz.func29, Tryz.ntmps29
    go_wp2_with (first
      | (go_at_call 51; (with_reducible refine (CL.out).mono ?_); rintro z w3 ⟨g2, c2, rfl, hg2, hl2, q3, b3⟩; have Q3 := Lib.hid q3; have B3 := Lib.hid b3; have G2 := Lib.hid hg2; clear q3 b3 hg2; obtain ⟨⟨y0, y1, yf⟩, u0, u1, uf⟩ := PX.out _ _ _ B3.out (grown_refl _ _) G2.out)
      | (go_at_call 30; (refine (HOW.out _ _ _ (HB3.out _ B3.out) Q3.out).mono ?_); rintro z w4 ⟨rfl, o4, g4⟩; obtain ⟨⟨t0, t1, tf⟩, k0, k1, kf⟩ := PX.out _ _ _ B3.out g4 G2.out; have B4 := Lib.hid (BF.out _ _ _ B3.out g4 G2.out); have O4 := Lib.hid o4; clear o4 g4))
    refine bodyPost_ret (v := .tuple #[.agg #[.slice a L.length c, .slice a' S.length c'], .int .i64 r]) ?_ rfl ⟨_, rfl, ?_, ?_⟩
    · simp [results, Tryz.f29, go_sem, k0, k1]
    · rw [CR.out]
      have bx : Below w.heap.size w ((w4.setCell ⟨w.heap.size + 1, 0, none⟩ (.slice a L.length c)).setCell ⟨w.heap.size + 1, 1, none⟩ (.slice a' S.length c')) := (B4.out.setCell (by simp) _).setCell (by simp) _
      exact ⟨a, c, a', c', rfl, OW1.out.below bx, OW2.out.below bx⟩
    · exact (B4.out.setCell (by simp) _).setCell (by simp) _
end Go.Proofs.YtkihleecjgoipaaGreatDoor
