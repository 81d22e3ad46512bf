/- people.Session. Written by wip/tools/mkpps.py. -/
import Derived.Test.YtkihleecjgoipaaDoorPpK
namespace Go.Proofs.YtkihleecjgoipaaDoor
open Go.RowKit Go.Maps Go.Proofs.YtkihleecjgoipaaDoor.Rw

def spick (L : List Ses.R) (P : Ses.R → Bool) : Ses.R := L[L.findIdx P]?.getD Ses.zero
theorem spick_none {L : List Ses.R} {P : Ses.R → Bool} (h : ¬ L.findIdx P < L.length) : spick L P = Ses.zero := by
  unfold spick
  rw [List.getElem?_eq_none (by omega)]
  rfl
theorem sany_pos (L : List Ses.R) (P : Ses.R → Bool) : L.any P = decide (L.findIdx P < L.length) := by
  rw [any_idx]
  unfold idx
  by_cases h : L.findIdx P < L.length
  · rw [if_pos h, decide_eq_true h, decide_eq_true (by omega)]
  · rw [if_neg h, decide_eq_false h, decide_eq_false (by omega)]
def lives (d : ByteArray) (now : Int) (s : Ses.R) : Bool := decide (s.dig = d) && decide (now < s.exp)
def SB (w : World) (s1 s2 : Value) (d : ByteArray) (now : Int) : World := (((w.alloc (pobj s1 s2)).alloc (.cells #[.string d] 9)).alloc (.cells #[.int .i64 now] 2)).alloc Ses.zero.obj
theorem SB_size (w : World) (s1 s2 : Value) (d : ByteArray) (now : Int) : (SB w s1 s2 d now).heap.size = w.heap.size + 4 := by simp [SB]
theorem SB_below (w : World) (s1 s2 : Value) (d : ByteArray) (now : Int) : Below w.heap.size w (SB w s1 s2 d now) := by
  unfold SB
  exact ((((Below.refl _ _).alloc (Nat.le_refl _) _).alloc (by simp) _).alloc (by simp; omega) _).alloc (by simp; omega) _
theorem SB_at {w w2 : World} (s1 s2 : Value) (d : ByteArray) (now : Int) (b : Below (w.heap.size + 4) (SB w s1 s2 d now) w2) :
    (w2.cell? ⟨w.heap.size, 0, none⟩ = some s1 ∧ w2.cell? ⟨w.heap.size, 1, none⟩ = some s2) ∧ w2.cell? ⟨w.heap.size + 1, 0, none⟩ = some (.string d) ∧ w2.cell? ⟨w.heap.size + 2, 0, none⟩ = some (.int .i64 now) ∧ Ses.At w2 (w.heap.size + 3) Ses.zero ∧ ∀ j, w2.frozen? ⟨w.heap.size + 3, j, none⟩ = false := by
  have z1 : (w.alloc (pobj s1 s2)).heap.size = w.heap.size + 1 := by simp
  have z2 : ((w.alloc (pobj s1 s2)).alloc (.cells #[.string d] 9)).heap.size = w.heap.size + 2 := by simp
  have z3 : (((w.alloc (pobj s1 s2)).alloc (.cells #[.string d] 9)).alloc (.cells #[.int .i64 now] 2)).heap.size = w.heap.size + 3 := by simp
  have h0 : (SB w s1 s2 d now).heap[w.heap.size]? = some (pobj s1 s2) := by
    unfold SB; rw [Lib.alloc_old _ _ _ (by omega), Lib.alloc_old _ _ _ (by omega), Lib.alloc_old _ _ _ (by omega)]; exact heap_new _ _
  have h1 : (SB w s1 s2 d now).heap[w.heap.size + 1]? = some (.cells #[.string d] 9) := by
    unfold SB; rw [Lib.alloc_old _ _ _ (by omega), Lib.alloc_old _ _ _ (by omega), ← z1]; exact heap_new _ _
  have h2 : (SB w s1 s2 d now).heap[w.heap.size + 2]? = some (.cells #[.int .i64 now] 2) := by
    unfold SB; rw [Lib.alloc_old _ _ _ (by omega), ← z2]; exact heap_new _ _
  have h3 : (SB w s1 s2 d now).heap[w.heap.size + 3]? = some Ses.zero.obj := by
    unfold SB; rw [← z3]; exact heap_new _ _
  have k3 := (b.block _ (by omega)).trans h3
  exact ⟨(pcell_of ((b.block _ (by omega)).trans h0)).1, by rw [Lib.cell_of_heap ((b.block _ (by omega)).trans h1)]; rfl, by rw [Lib.cell_of_heap ((b.block _ (by omega)).trans h2)]; rfl, Ses.At.of_heap k3, fun j => frozen_of_row _ _ j _ _ k3⟩
set_option maxHeartbeats 4000000 in
set_option maxRecDepth 100000 in
theorem psession_any {B : Nat} {v : Value} {p : Ppl} {w : World} (hown : pown w B v p) (lim : few p) (d : ByteArray) (now : Int) :
    Calls Tryd.prog 14 #[v, .string d, .int .i64 now] w fun e w' => e = .returned (.tuple #[(spick p.ss (lives d now)).agg, .bool (p.ss.any (lives d now))]) ∧ Below w.heap.size w w' := by
  obtain ⟨a, c, a', c', rfl, o1, o2⟩ := hown
  obtain ⟨lim1, lim2⟩ := lim
  obtain ⟨L, S⟩ := p
  simp only at *
  have z4 := SB_size w (.slice a L.length c) (.slice a' S.length c') d now
  have b4 := SB_below w (.slice a L.length c) (.slice a' S.length c') d now
  have AT := Lib.hid (fun w2 b => SB_at (w := w) (w2 := w2) (.slice a L.length c) (.slice a' S.length c') d now b)
  have BB : Hid (∀ w2, Below (w.heap.size + 4) (SB w (.slice a L.length c) (.slice a' S.length c') d now) w2 → Below w.heap.size w w2) := Lib.hid (fun w2 b => b4.trans (b.mono (by omega)))
  have IX : Hid (Calls Tryd.prog 33 #[.slice a' S.length c', .func (.func 34) #[] #[.pointer (some ⟨w.heap.size + 1, 0, none⟩), .pointer (some ⟨w.heap.size + 2, 0, none⟩)]] (SB w (.slice a L.length c) (.slice a' S.length c') d now) fun r w' => r = .returned (.int .i64 (idx S (lives d now))) ∧ Below (w.heap.size + 4) (SB w (.slice a L.length c) (.slice a' S.length c') d now) w') := Lib.hid (by
    have h := Ses.idx_any2 (o2.below b4) (by omega) (lives d now) 34 (.pointer (some ⟨w.heap.size + 1, 0, none⟩)) (.pointer (some ⟨w.heap.size + 2, 0, none⟩)) (fun args w => by rfl) (fun x w2 b => by
      rw [z4] at b
      obtain ⟨_, k1, k2, _⟩ := AT.out w2 b
      have hs := b.size
      exact Sesc_any x d now (w.heap.size + 1) (w.heap.size + 2) w2 k1 k2 (by omega) (by omega))
    rwa [z4] at h)
  have AP := Lib.hid (sany_pos S (lives d now))
  have PK : Hid (spick S (lives d now) = S[S.findIdx (lives d now)]?.getD Ses.zero) := Lib.hid rfl
  have PN := Lib.hid (fun h => spick_none (L := S) (P := lives d now) h)
  have OW := Lib.hid o2
  obtain ⟨⟨i0, i1⟩, i2, i3, ⟨t0, t1, t2⟩, tf⟩ := AT.out _ (Below.refl _ _)
  clear o1 o2 b4 z4
  by_cases hq : S.findIdx (lives d now) < S.length
  · have hi : idx S (lives d now) = (S.findIdx (lives d now) : Nat) := by unfold idx; rw [if_pos hq]
    rw [hi] at IX
    rw [AP.out, decide_eq_true hq, PK.out]
    clear AP hi PN PK
    generalize S.findIdx (lives d now) = k at *
    obtain ⟨x, hx⟩ : ∃ x, S[k]?.getD Ses.zero = x := ⟨_, rfl⟩
    have MM := Lib.hid (fun w2 (b : Below w.heap.size w w2) => (OW.out.below b).all k hq)
    rw [hx] at MM ⊢
    have hkn : (k : Int) < S.length := by omega
    have hk0 : (0 : Int) ≤ k := by omega
    clear hx
    unfold SB pobj Ses.zero Ses.R.obj at *
    simp only at *
    go_enter Tryd.func14, Tryd.ntmps14
    go_wp2_with (go_at_call 33; (with_reducible refine (IX.out).mono ?_); rintro e w2 ⟨rfl, b2⟩; obtain ⟨⟨j0, j1⟩, _, _, ⟨y0, y1, y2⟩, yf⟩ := AT.out w2 b2; obtain ⟨g, rfl, _, _, m0, m1, m2⟩ := MM.out w2 (BB.out _ b2); have B2 := Lib.hid (BB.out _ b2); clear b2)
    refine bodyPost_ret (v := .tuple #[x.agg, .bool true]) ?_ rfl ⟨rfl, ?_⟩
    · simp [results, Tryd.f14, go_sem, Ses.R.agg, y0, y1, y2]
    · exact Ses.below_put (o := 0) B2.out (by first | omega | simp) _ _ _
  · have hi : idx S (lives d now) = -1 := by unfold idx; rw [if_neg hq]
    rw [hi] at IX
    rw [AP.out, decide_eq_false hq, PN.out hq]
    clear AP hi PN PK OW
    generalize S.findIdx (lives d now) = k at *
    unfold SB pobj Ses.zero Ses.R.obj at *
    simp only at *
    go_enter Tryd.func14, Tryd.ntmps14
    go_wp2_with (go_at_call 33; (with_reducible refine (IX.out).mono ?_); rintro e w2 ⟨rfl, b2⟩; obtain ⟨⟨j0, j1⟩, _, _, ⟨y0, y1, y2⟩, yf⟩ := AT.out w2 b2; have B2 := Lib.hid (BB.out _ b2); clear b2)
    refine bodyPost_ret (v := .tuple #[(Ses.R.mk ⟨#[]⟩ 0 0).agg, .bool false]) ?_ rfl ⟨rfl, ?_⟩
    · simp [results, Tryd.f14, go_sem, Ses.R.agg, y0, y1, y2]
    · exact Ses.below_put (o := 0) B2.out (by first | omega | simp) _ _ _
end Go.Proofs.YtkihleecjgoipaaDoor
