/- Failed's closure: one message's attempt more, in its place. -/
import Derived.Test.YtleobnfmbhobgaaDoorMidx
import Derived.BigRegion
namespace Go.Proofs.YtleobnfmbhobgaaDoor
open Go.RowKit Go.Maps

/-- A message that failed once more. -/
def failM (m : Msg) (now : Int) : Msg := { m with att := IntKind.i64.wrap (m.att + 1), due := clk now (dly (IntKind.i64.wrap (m.att + 1))), dead := gone (IntKind.i64.wrap (m.att + 1)) }

set_option maxHeartbeats 8000000 in
set_option maxRecDepth 100000 in
theorem failc_run (g i n cap B : Nat) (x now : Int) (dd : Int) (bb : Bool) (w : World) (hi : i < n) (hcell : w.cell? ⟨g, i * 6 + 3, none⟩ = some (.int .i64 x)) (h4 : w.cell? ⟨g, i * 6 + 4, none⟩ = some (.int .i64 dd)) (h5 : w.cell? ⟨g, i * 6 + 5, none⟩ = some (.bool bb)) (hB : w.cell? ⟨B, 0, none⟩ = some (.int .i64 now)) (hne : B ≠ g)
    (hf3 : w.frozen? ⟨g, i * 6 + 3, none⟩ = false) (hf4 : w.frozen? ⟨g, i * 6 + 4, none⟩ = false) (hf5 : w.frozen? ⟨g, i * 6 + 5, none⟩ = false) (y : Int) (hy : IntKind.i64.wrap (x + 1) = y) :
    Calls Tryd.prog 22 #[.slice (some ⟨g, 0, none⟩) n cap, .int .i64 i, .pointer (some ⟨B, 0, none⟩)] w fun e w' => e = .returned (.slice (some ⟨g, 0, none⟩) n cap) ∧ ∃ q, w' = (((w.setCell ⟨g, i * 6 + 3, none⟩ (.int .i64 y)).setCell ⟨g, i * 6 + 4, none⟩ (.int .i64 (clk now (dly y)))).setCell ⟨g, i * 6 + 5, none⟩ (.bool (gone y))).drewN q := by
  have hy2 : y ≤ 9223372036854775807 := by rw [← hy, IntKind.wrap_i64]; omega
  have NX := Lib.hid (fun w => rnext_any now y hy2 w)
  have DX := Lib.hid (fun w => rdead_any y w)
  generalize clk now (dly y) = dn at *
  generalize gone y = gn at *
  have k3 : (w.setCell ⟨g, i * 6 + 3, none⟩ (.int .i64 y)).cell? ⟨g, i * 6 + 3, none⟩ = some (.int .i64 y) := World.cell?_setCell_same' _ _ _ (by rw [hcell]; rfl)
  have hi' : (i : Int) < n := by omega
  go_enter Tryd.func22, Tryd.ntmps22
  go_wp2_with fail
  have kB : (w.setCell ⟨g, i * 6 + 3, none⟩ (.int .i64 y)).cell? ⟨B, 0, none⟩ = some (.int .i64 now) := (World.cell?_of_block (Below.heap_setCell w ⟨g, i * 6 + 3, none⟩ _ B hne)).trans hB
  have k4 : (w.setCell ⟨g, i * 6 + 3, none⟩ (.int .i64 y)).cell? ⟨g, i * 6 + 4, none⟩ = some (.int .i64 dd) := (World.cell?_setCell_other w ⟨g, i * 6 + 3, none⟩ _ _ (fun e => by simp at e)).trans h4
  have k5 : (w.setCell ⟨g, i * 6 + 3, none⟩ (.int .i64 y)).cell? ⟨g, i * 6 + 5, none⟩ = some (.bool bb) := (World.cell?_setCell_other w ⟨g, i * 6 + 3, none⟩ _ _ (fun e => by simp at e)).trans h5
  have f4 : (w.setCell ⟨g, i * 6 + 3, none⟩ (.int .i64 y)).frozen? ⟨g, i * 6 + 4, none⟩ = false := by rw [World.frozen?_setCell]; exact hf4
  have f5 : (w.setCell ⟨g, i * 6 + 3, none⟩ (.int .i64 y)).frozen? ⟨g, i * 6 + 5, none⟩ = false := by rw [World.frozen?_setCell]; exact hf5
  clear hcell h4 h5 hB hf3 hf4 hf5
  generalize hw1 : w.setCell ⟨g, i * 6 + 3, none⟩ (.int .i64 y) = w1 at *
  have HW := Lib.hid hw1
  clear hw1
  go_region_with (first | (go_at_call 23; (with_reducible refine (NX.out _).mono ?_); rintro e w2 ⟨rfl, rfl⟩) | (go_at_call 24; (with_reducible refine (DX.out _).mono ?_); rintro e w2 ⟨rfl, rfl⟩))
  all_goals go_wp2_with fail
  all_goals go_ret
  all_goals (refine ⟨rfl, ?_⟩)
  all_goals (rw [HW.out]; exact ⟨1, rfl⟩)
/-- A cell stored in a row of one's own. -/
theorem ownsRow_put {w : World} {B size n cap g k : Nat} {xs : List Value} {T : TypeId} (h : w.ownsRow B T size (.slice (some ⟨g, 0, none⟩) n cap) n xs) (hk : k < xs.length) (v : Value) : (w.setCell ⟨g, k, none⟩ v).ownsRow B T size (.slice (some ⟨g, 0, none⟩) n cap) n (xs.set k v) := by
  refine ⟨by rw [List.length_set]; exact h.1, ?_⟩
  rcases h.2 with ⟨e1, _⟩ | ⟨g', cap', cur, e1, r1, r2, r3, r4, r5, r6⟩
  · simp at e1
  · cases e1
    refine .inr ⟨g, cap, cur.setIfInBounds k v, rfl, r1, heap_setCell_same w g k cur T v r2, r3, r4, by simpa using r5, ?_⟩
    have hk2 : k < n * size := by rw [← h.1]; exact hk
    rw [← r6, Array.toList_setIfInBounds, List.take_set]
theorem mset_flat : ∀ (ms : List Msg) (i : Nat) (m' : Msg), i < ms.length → (ms[i]?.getD noMsg).id = m'.id → (ms[i]?.getD noMsg).dest = m'.dest → (ms[i]?.getD noMsg).body = m'.body →
    (((mflat ms).set (i * 6 + 3) (.int .i64 m'.att)).set (i * 6 + 4) (.int .i64 m'.due)).set (i * 6 + 5) (.bool m'.dead) = mflat (ms.set i m')
  | [], i, m', h, _, _, _ => by simp at h
  | m :: ms, 0, m', h, h1, h2, h3 => by
    simp only [List.getElem?_cons_zero, Option.getD_some] at h1 h2 h3
    simp only [List.set_cons_zero, mflat_cons, Msg.cells, h1, h2, h3, Nat.zero_mul, Nat.zero_add, List.cons_append, List.nil_append, List.set_cons_succ]
  | m :: ms, i + 1, m', h, h1, h2, h3 => by
    have ih := mset_flat ms i m' (by simpa using h) (by simpa using h1) (by simpa using h2) (by simpa using h3)
    rw [List.set_cons_succ, mflat_cons, mflat_cons, ← ih]
    have hl : m.cells.length = 6 := rfl
    rw [List.set_append_right _ _ (by omega), List.set_append_right _ _ (by omega), List.set_append_right _ _ (by omega)]
    rw [hl, show (i + 1) * 6 + 3 - 6 = i * 6 + 3 by omega, show (i + 1) * 6 + 4 - 6 = i * 6 + 4 by omega, show (i + 1) * 6 + 5 - 6 = i * 6 + 5 by omega]
theorem mowns.free {w : World} {B c g : Nat} {n : Nat} {ms : List Msg} (h : mowns w B (.slice (some ⟨g, 0, none⟩) n c) ms) (j : Nat) : w.frozen? ⟨g, j, none⟩ = false := by
  rcases h.2 with ⟨e1, e2⟩ | ⟨g', cap, cur, e1, r1, r2, r⟩
  · cases e1
  · cases e1
    simp [World.frozen?, r2]

theorem failc_any {Bs g n cap : Nat} {ms : List Msg} {w : World} (hown : mowns w Bs (.slice (some ⟨g, 0, none⟩) n cap) ms) (hn : ms.length = n) (i : Nat) (hi : i < ms.length) (B : Nat) (now : Int) (hB : w.cell? ⟨B, 0, none⟩ = some (.int .i64 now)) (hne : B ≠ g) :
    Calls Tryd.prog 22 #[.slice (some ⟨g, 0, none⟩) n cap, .int .i64 i, .pointer (some ⟨B, 0, none⟩)] w fun e w' => e = .returned (.slice (some ⟨g, 0, none⟩) n cap) ∧ mowns w' Bs (.slice (some ⟨g, 0, none⟩) n cap) (ms.set i (failM (ms[i]?.getD noMsg) now)) ∧ w.grownBy w' (some g) := by
  subst hn
  obtain ⟨g', e1, hg1, hg2, m0, m1, m2, m3, m4, m5⟩ := hown.six i hi
  cases e1
  refine (failc_run g i ms.length cap B _ now _ _ w hi m3 m4 m5 hB hne (hown.free _) (hown.free _) (hown.free _) _ rfl).mono ?_
  rintro e w' ⟨rfl, q, rfl⟩
  have hfl := mflat_len ms
  have a1 := ownsRow_put hown (k := i * 6 + 3) (by omega) (.int .i64 (failM (ms[i]?.getD noMsg) now).att)
  have a2 := ownsRow_put a1 (k := i * 6 + 4) (by rw [List.length_set]; omega) (.int .i64 (failM (ms[i]?.getD noMsg) now).due)
  have a3 := ownsRow_put a2 (k := i * 6 + 5) (by rw [List.length_set, List.length_set]; omega) (.bool (failM (ms[i]?.getD noMsg) now).dead)
  rw [mset_flat ms i (failM (ms[i]?.getD noMsg) now) hi rfl rfl rfl] at a3
  have gs : ∀ (w : World) (k : Nat) (v : Value), w.grownBy (w.setCell ⟨g, k, none⟩ v) (some g) := fun w k v => ⟨rfl, rfl, rfl, by simp, fun j _ hj => heap_setCell_other w ⟨g, k, none⟩ j v (fun e => hj (by rw [e]))⟩
  refine ⟨rfl, ?_, ?_⟩
  · unfold mowns
    rw [List.length_set]
    exact a3
  · have g3 := World.grownBy.trans (World.grownBy.trans (gs w (i * 6 + 3) (.int .i64 (failM (ms[i]?.getD noMsg) now).att)) (gs _ (i * 6 + 4) (.int .i64 (failM (ms[i]?.getD noMsg) now).due))) (gs _ (i * 6 + 5) (.bool (failM (ms[i]?.getD noMsg) now).dead))
    exact ⟨g3.os, g3.tape, g3.output, g3.size, g3.block⟩
end Go.Proofs.YtleobnfmbhobgaaDoor
