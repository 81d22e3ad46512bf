/- Clone, Under, Box, Count of a carrier. -/
import Derived.Test.YtdoghnpmbpomcaaHand
namespace Go.Proofs.Ytdoghnpmbpomcaa
open Go.RowKit Go.Maps

theorem slice_not_nil (a : Addr) (n c : Nat) (w : World) : (binOp .eql 37 (.slice (some a) n c) (.slice none 0 0)).run Try.prog w = .ok (.bool false) w := by kernel_rfl
theorem slice_nil (n c : Nat) (w : World) : (binOp .eql 37 (.slice none n c) (.slice none 0 0)).run Try.prog w = .ok (.bool true) w := by kernel_rfl

set_option maxHeartbeats 2000000 in
set_option maxRecDepth 100000 in
theorem clone_any {B : Nat} {ls : List Ltr} {v : Value} {w : World} (hown : owns w B v ls) (lim : ls.length ≤ 1000000) :
    Calls Try.prog 28 #[v] w fun e w' => ∃ a' c', e = .returned (.slice a' ls.length c') ∧ owns w' w.heap.size (.slice a' ls.length c') ls ∧ w.grownBy w' none := by
  rcases hown.2 with ⟨e1, e2⟩ | ⟨g, cap, cur, e1, r1, r2, r3, r4, r5, r6⟩
  · subst e1
    have hls : ls = [] := List.eq_nil_of_length_eq_zero e2
    subst hls
    have hq := slice_nil 0 0
    go_enter Try.func28, Try.ntmps28
    go_wp2_with fail
    go_ret
    exact ⟨none, 0, rfl, World.ownsRow_nil _ _ _ _, World.grownBy.refl _ _⟩
  · subst e1
    have hq := slice_not_nil ⟨g, 0, none⟩ ls.length cap
    obtain ⟨i0, hi, hz0, hz1, hz2⟩ := info_parts infoLetter
    have hlen := flat_len ls
    have hown2 : (w.alloc (.cells #[] 40)).ownsRow B 40 4 (.slice (some ⟨g, 0, none⟩) ls.length cap) ls.length (flat ls) := World.ownsRow.alloc hown _
    have hcs := World.ownsRow.cells hown2 (g := g) rfl
    have hmade : (w.alloc (.cells #[] 40)).ownsRow w.heap.size 40 4 (.slice (some ⟨w.heap.size, 0, none⟩) 0 0) 0 [] := World.ownsRow_made w #[] 0 (Nat.le_refl _) (Nat.zero_le _) rfl
    obtain ⟨v', w', ra, ro, rg, _, rat⟩ := run_append_own_at (P := Try.prog) (w.alloc (.cells #[] 40)) w.heap.size 37 37 40 i0 _ 4 48 Try.underlying37 hi hz0 hz1 hz2 rfl (by decide) (.slice (some ⟨w.heap.size, 0, none⟩) 0 0) 0 [] hmade ⟨g, 0, none⟩ ls.length cap (flat ls) hlen hcs (flat_one ls) (by unfold maxLen; omega) (by omega) (by simp)
    have hf : ∃ a' c', v' = .slice a' ls.length c' := by
      rcases ro.2 with ⟨e1, e2⟩ | ⟨g', cap', cur', e1, r⟩
      · exact ⟨none, 0, by rw [e1]; congr 1; omega⟩
      · exact ⟨_, cap', by rw [e1]; congr 1; omega⟩
    obtain ⟨a', c', rfl⟩ := hf
    have fin : owns w' w.heap.size (.slice a' ls.length c') ls ∧ w.grownBy w' none := by
      refine ⟨by unfold owns; simpa using ro, ?_⟩
      have s1 := rg.size
      simp at s1
      refine ⟨rg.os, rg.tape, rg.output, by omega, fun k hk _ => ?_⟩
      rw [rg.block k (by simp; omega) (by simp [Value.ownBlock]; omega)]
      exact Lib.alloc_old w _ k hk
    clear hown hown2 hcs hmade ro rg rat r1 r2 r3 r4 r5 r6 hlen
    have RA := Lib.hid ra
    clear ra
    go_enter Try.func28, Try.ntmps28
    go_wp2_with (at_builtin; refine Lib.wpList_append_run _ rfl _ _ _ _ rfl _ _ rfl rfl _ _ RA.out ?_)
    go_ret
    exact ⟨a', c', rfl, fin⟩

/-- The row under way, and the row of a box, of a carrier. -/
theorem Car.under {h N : Nat} {S : Nat → Prop} {us : List Ltr} {G : ByteArray → List Ltr} {C : Nat → Nat} {w : World} (c : Car h S N us G C w) : ∃ vu, w.heap[h + 1 + 1]? = some (.cells #[vu, .map (some h), .map (some (h + 1))] 62 (0, 0)) ∧ owns w (h + 3) vu us := by
  obtain ⟨vu, F, D, Dc, h1, h2, _⟩ := c
  exact ⟨vu, h1, h2⟩
theorem Car.box {h N : Nat} {S : Nat → Prop} {us : List Ltr} {G : ByteArray → List Ltr} {C : Nat → Nat} {w : World} (c : Car h S N us G C w) (s : ByteArray) (hs : s.size ≤ maxLen) : ∃ v, (Instr.lookup 59 (.map (some h)) (.string s) false).run Try.prog w = .ok v w ∧ owns w (h + 3) v (G s) := by
  obtain ⟨vu, F, D, Dc, h1, h2, h3, h4, h5, h6, h7, h8, h9, h10, h11, h12⟩ := c
  exact ⟨F s, look_row h8 h9 s hs, h3 s⟩
theorem Car.tally {h N : Nat} {S : Nat → Prop} {us : List Ltr} {G : ByteArray → List Ltr} {C : Nat → Nat} {w : World} (c : Car h S N us G C w) (i : Nat) (hi : i < 2 ^ 64) : (Instr.lookup 60 (.map (some (h + 1))) (.int .u64 i) false).run Try.prog w = .ok (.int .i64 (C i)) w := by
  obtain ⟨vu, F, D, Dc, h1, h2, h3, h4, h5, h6, h7, h8, h9, h10, h11, h12⟩ := c
  obtain ⟨c, hrun, hat, _⟩ := h10.lookup_int keyU64 Try.underlying60 Try.underlying3 (zeroInt _) (keyOf_int_mk (P := Try.prog) (k := 26) Try.underlying26 (wf_u64 hi))
  have hc : c = (C i : Int) := by
    rw [h11 i hi] at hat
    injection hat with e
    injection e with _ e
    exact e.symm
  rw [← hc]
  exact hrun

set_option maxRecDepth 100000 in
theorem under_any {h N : Nat} {S : Nat → Prop} {us : List Ltr} {G : ByteArray → List Ltr} {C : Nat → Nat} {w : World} (c : Car h S N us G C w) (lim : us.length ≤ 1000000) :
    Calls Try.prog 13 #[.pointer (some ⟨h + 1 + 1, 0, none⟩)] w fun e w' => ∃ a' c', e = .returned (.slice a' us.length c') ∧ owns w' w.heap.size (.slice a' us.length c') us ∧ w.grownBy w' none := by
  obtain ⟨vu, st, hown⟩ := c.under
  have x0 := (three_cells st).1
  have CL := Lib.hid (clone_any hown lim)
  clear hown st c
  go_enter Try.func13, Try.ntmps13
  go_wp2_with (go_at_call 28; (with_reducible refine (CL.out).mono ?_); rintro e w' ⟨a', c', rfl, o', g'⟩)
  go_ret
  exact ⟨a', c', rfl, o', g'⟩
set_option maxRecDepth 100000 in
theorem box_any {h N : Nat} {S : Nat → Prop} {us : List Ltr} {G : ByteArray → List Ltr} {C : Nat → Nat} {w : World} (c : Car h S N us G C w) (s : ByteArray) (hs : s.size ≤ maxLen) (lim : (G s).length ≤ 1000000) :
    Calls Try.prog 14 #[.pointer (some ⟨h + 1 + 1, 0, none⟩), .string s] w fun e w' => ∃ a' c', e = .returned (.slice a' (G s).length c') ∧ owns w' w.heap.size (.slice a' (G s).length c') (G s) ∧ w.grownBy w' none := by
  obtain ⟨vu, st, _⟩ := c.under
  have x1 := (three_cells st).2.1
  obtain ⟨v, hl, hown⟩ := c.box s hs
  have CL := Lib.hid (clone_any hown lim)
  clear hown st c
  go_enter Try.func14, Try.ntmps14
  go_wp2_with (go_at_call 28; (with_reducible refine (CL.out).mono ?_); rintro e w' ⟨a', c', rfl, o', g'⟩)
  go_ret
  exact ⟨a', c', rfl, o', g'⟩
set_option maxRecDepth 100000 in
theorem count_any {h N : Nat} {S : Nat → Prop} {us : List Ltr} {G : ByteArray → List Ltr} {C : Nat → Nat} {w : World} (c : Car h S N us G C w) (i : Nat) (hi : i < 2 ^ 64) :
    Calls Try.prog 15 #[.pointer (some ⟨h + 1 + 1, 0, none⟩), .int .u64 i] w fun e w' => e = .returned (.int .i64 (C i)) ∧ w' = w := by
  obtain ⟨vu, st, _⟩ := c.under
  have x2 := (three_cells st).2.2.1
  have hl := c.tally i hi
  clear st c
  go_enter Try.func15, Try.ntmps15
  go_wp2_with fail
  go_ret
  exact ⟨rfl, rfl⟩
end Go.Proofs.Ytdoghnpmbpomcaa
