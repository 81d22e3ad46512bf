/- Rows of cases: what they hold; slices.Clone. -/
import Derived.Test.YtcidllckmidkoaaDoorAddr3
import Derived.Test.YtcidllckmidkoaaDoorWWords
import Derived.Maps.AppendAt
import Derived.Maps.OwnSet
import Derived.Deep.RegionLaw
import Derived.Laws.OwnMore
import Derived.Lib.AppendZeros
namespace Go.Proofs.YtcidllckmidkoaaDoor
open Go.RowKit Go.Maps Go.Proofs.YtcidllckmidkoaaDoorW.PrintWords

structure Cas where
  acc : Int
  opened : Int
  ripe : Int
  quorum : Int
  v0 : ByteArray
  v1 : ByteArray
  v2 : ByteArray
  v3 : ByteArray
  v4 : ByteArray
def Cas.cells (l : Cas) : List Value := [.int .i64 l.acc, .int .i64 l.opened, .int .i64 l.ripe, .int .i64 l.quorum, .string l.v0, .string l.v1, .string l.v2, .string l.v3, .string l.v4]
def Cas.agg (l : Cas) : Value := .agg #[.int .i64 l.acc, .int .i64 l.opened, .int .i64 l.ripe, .int .i64 l.quorum, .string l.v0, .string l.v1, .string l.v2, .string l.v3, .string l.v4]
def Cas.obj (l : Cas) : Obj := .cells #[.int .i64 l.acc, .int .i64 l.opened, .int .i64 l.ripe, .int .i64 l.quorum, .string l.v0, .string l.v1, .string l.v2, .string l.v3, .string l.v4] 28
def noCas : Cas := ⟨0, 0, 0, 0, ⟨#[]⟩, ⟨#[]⟩, ⟨#[]⟩, ⟨#[]⟩, ⟨#[]⟩⟩
def mflat (ls : List Cas) : List Value := ls.flatMap Cas.cells
theorem mflat_nil : mflat [] = [] := rfl
theorem mflat_cons (l : Cas) (ls : List Cas) : mflat (l :: ls) = l.cells ++ mflat ls := by simp [mflat]
theorem mflat_append (a b : List Cas) : mflat (a ++ b) = mflat a ++ mflat b := by simp [mflat]
theorem mflat_len : ∀ ls : List Cas, (mflat ls).length = ls.length * 9
  | [] => rfl
  | l :: ls => by rw [mflat_cons, List.length_append, mflat_len ls]; simp [Cas.cells]; omega
theorem mflat_drop : ∀ (k : Nat) (ls : List Cas), (mflat ls).drop (k * 9) = mflat (ls.drop k)
  | 0, ls => by simp
  | k + 1, [] => by simp [mflat_nil]
  | k + 1, l :: ls => by
    rw [mflat_cons, List.drop_succ_cons, ← mflat_drop k ls, show (k + 1) * 9 = l.cells.length + k * 9 by simp [Cas.cells]; omega, List.drop_append, Nat.add_sub_cancel_left, List.drop_eq_nil_of_le (Nat.le_add_right _ _), List.nil_append]
theorem mflat_take : ∀ (k : Nat) (ls : List Cas), (mflat ls).take (k * 9) = mflat (ls.take k)
  | 0, ls => by simp [mflat_nil]
  | k + 1, [] => by simp [mflat_nil]
  | k + 1, l :: ls => by
    rw [mflat_cons, List.take_succ_cons, mflat_cons, ← mflat_take k ls, show (k + 1) * 9 = l.cells.length + k * 9 by simp [Cas.cells]; omega, List.take_append, Nat.add_sub_cancel_left, List.take_of_length_le (Nat.le_add_right _ _)]
theorem mflat_at : ∀ (i j : Nat) (ls : List Cas) (l : Cas), ls[i]? = some l → j < 9 → (mflat ls)[i * 9 + j]? = l.cells[j]?
  | 0, j, [], l, h, _ => by simp at h
  | 0, j, l' :: ls, l, h, hj => by
    simp at h
    subst h
    rw [mflat_cons, List.getElem?_append_left (by simp [Cas.cells]; omega)]
    simp
  | i + 1, j, [], l, h, _ => by simp at h
  | i + 1, j, l' :: ls, l, h, hj => by
    rw [mflat_cons, List.getElem?_append_right (by simp [Cas.cells]; omega)]
    rw [show (i + 1) * 9 + j - l'.cells.length = i * 9 + j by simp [Cas.cells]; omega]
    exact mflat_at i j ls l (by simpa using h) hj
theorem cells_one (l : Cas) : ∀ u ∈ l.cells, u.oneCell' = true := by
  intro u hl
  simp [Cas.cells] at hl
  rcases hl with rfl | rfl | rfl | rfl | rfl | rfl | rfl | rfl | rfl <;> rfl
theorem mflat_one (ls : List Cas) : ∀ u ∈ mflat ls, u.oneCell' = true := by
  intro u hu
  obtain ⟨l, _, hl⟩ := List.mem_flatMap.1 hu
  exact cells_one l u hl

/-- The messages ms lie in the row that the slice v owns, from block B on. -/
def mowns (w : World) (B : Nat) (v : Value) (ms : List Cas) : Prop := w.ownsRow B 28 9 v ms.length (mflat ms)
theorem mowns.below {w w' : World} {B : Nat} {v : Value} {ms : List Cas} (h : mowns w B v ms) (b : Below w.heap.size w w') : mowns w' B v ms := by
  have hg : w.grownBy w' none := ⟨b.os, b.tape, b.output, b.size, fun k hk _ => b.block k hk⟩
  refine World.ownsRow.kept h hg ?_
  cases hb : v.ownBlock with
  | none => exact .inl rfl
  | some g => exact .inr (by simp)
theorem mowns.mono {w : World} {B B' : Nat} {v : Value} {ms : List Cas} (h : mowns w B v ms) (hB : B' ≤ B) : mowns w B' v ms := by
  refine ⟨h.1, ?_⟩
  rcases h.2 with x | ⟨g, cap, cur, e1, r1, r⟩
  · exact .inl x
  · exact .inr ⟨g, cap, cur, e1, Nat.le_trans hB r1, r⟩
theorem mowns.form {w : World} {B : Nat} {v : Value} {ms : List Cas} (h : mowns w B v ms) : ∃ a c, v = .slice a ms.length c ∧ ms.length ≤ c ∧ c ≤ 9223372036854775807 := by
  rcases h.2 with ⟨e1, e2⟩ | ⟨g, cap, cur, e1, r⟩
  · exact ⟨none, 0, by rw [e1, e2], by omega, by omega⟩
  · exact ⟨some ⟨g, 0, none⟩, cap, e1, r.2.2.1, by have := r.2.2.2.1; unfold maxLen at this; exact this⟩
/-- Each message's six cells. -/
theorem mowns.at {w : World} {B c : Nat} {a : Option Addr} {n : Nat} {ms : List Cas} (h : mowns w B (.slice a n c) ms) : ∀ j, j < ms.length → ∃ g, a = some ⟨g, 0, none⟩ ∧ B ≤ g ∧ g < w.heap.size ∧ ∀ i v, (ms[j]?.getD noCas).cells[i]? = some v → w.cell? ⟨g, j * 9 + i, none⟩ = some v := fun j hj => by
  rcases h.2 with ⟨e1, e2⟩ | ⟨g, cap, cur, e1, r⟩
  · omega
  · cases e1
    have hg1 : ms[j]? = some ms[j] := List.getElem?_eq_getElem hj
    have hlt := (World.ownsRow.lt h g rfl)
    refine ⟨g, rfl, hlt.1, hlt.2, fun i v hv => ?_⟩
    rw [hg1] at hv
    have hi : i < 9 := by
      rcases Nat.lt_or_ge i 9 with x | x
      · exact x
      · rw [List.getElem?_eq_none (by simp [Cas.cells]; omega)] at hv
        cases hv
    have e1 := World.ownsRow.cells h (g := g) rfl (j * 9 + i) v (by rw [mflat_at j i ms ms[j] hg1 hi]; exact hv)
    have e2 : ∀ (b o j : Nat), (⟨b, o, none⟩ : Addr).add j = ⟨b, o + j, none⟩ := fun b o j => by
      unfold Addr.add
      split
      · rename_i h; subst h; rfl
      · rfl
    rwa [e2, Nat.zero_add] at e1
theorem mowns.nine {w : World} {B c : Nat} {a : Option Addr} {n : Nat} {ms : List Cas} (h : mowns w B (.slice a n c) ms) (j : Nat) (hj : j < ms.length) : ∃ g, a = some ⟨g, 0, none⟩ ∧ B ≤ g ∧ g < w.heap.size ∧ w.cell? ⟨g, j * 9, none⟩ = some (.int .i64 (ms[j]?.getD noCas).acc) ∧ w.cell? ⟨g, j * 9 + 1, none⟩ = some (.int .i64 (ms[j]?.getD noCas).opened) ∧ w.cell? ⟨g, j * 9 + 2, none⟩ = some (.int .i64 (ms[j]?.getD noCas).ripe) ∧ w.cell? ⟨g, j * 9 + 3, none⟩ = some (.int .i64 (ms[j]?.getD noCas).quorum) ∧ w.cell? ⟨g, j * 9 + 4, none⟩ = some (.string (ms[j]?.getD noCas).v0) ∧ w.cell? ⟨g, j * 9 + 5, none⟩ = some (.string (ms[j]?.getD noCas).v1) ∧ w.cell? ⟨g, j * 9 + 6, none⟩ = some (.string (ms[j]?.getD noCas).v2) ∧ w.cell? ⟨g, j * 9 + 7, none⟩ = some (.string (ms[j]?.getD noCas).v3) ∧ w.cell? ⟨g, j * 9 + 8, none⟩ = some (.string (ms[j]?.getD noCas).v4) := by
  obtain ⟨g, e1, e2, e3, e4⟩ := h.at j hj
  exact ⟨g, e1, e2, e3, e4 0 _ rfl, e4 1 _ rfl, e4 2 _ rfl, e4 3 _ rfl, e4 4 _ rfl, e4 5 _ rfl, e4 6 _ rfl, e4 7 _ rfl, e4 8 _ rfl⟩

theorem infoMsg : (Tryd.prog.info? 28).map (fun i => (i.zero, i.size, i.bytes)) = some (some (.agg #[.int .i64 0, .int .i64 0, .int .i64 0, .int .i64 0, .string ⟨#[]⟩, .string ⟨#[]⟩, .string ⟨#[]⟩, .string ⟨#[]⟩, .string ⟨#[]⟩]), 9, 112) := by kernel_rfl
theorem mslice_not_nil (a : Addr) (n c : Nat) (w : World) : (binOp .eql 22 (.slice (some a) n c) (.slice none 0 0)).run Tryd.prog w = .ok (.bool false) w := by kernel_rfl
theorem mslice_nil (n c : Nat) (w : World) : (binOp .eql 22 (.slice none n c) (.slice none 0 0)).run Tryd.prog w = .ok (.bool true) w := by kernel_rfl
theorem grown_bel {w w' : World} {row : Option Nat} (g : w.grownBy w' row) (h : ∀ k, row = some k → w.heap.size ≤ k) : Below w.heap.size w w' :=
  ⟨g.os, g.tape, g.output, g.size, fun k hk => g.block k hk (fun e => by have := h k e.symm; omega)⟩

set_option maxHeartbeats 2000000 in
set_option maxRecDepth 100000 in
theorem mclone_any {B : Nat} {ls : List Cas} {v : Value} {w : World} (hown : mowns w B v ls) (lim : ls.length ≤ 1000000) :
    Calls Tryd.prog 34 #[v] w fun e w' => ∃ a' c', e = .returned (.slice a' ls.length c') ∧ mowns w' w.heap.size (.slice a' ls.length c') ls ∧ Below w.heap.size w w' := by
  rcases hown.2 with ⟨e1, e2⟩ | ⟨g, cap, cur, e1, r1, r2, r3, r4, r5, r6⟩
  · subst e1
    have hls : ls = [] := List.eq_nil_of_length_eq_zero e2
    subst hls
    have hq := mslice_nil 0 0
    go_enter Tryd.func34, Tryd.ntmps34
    go_wp2_with fail
    go_ret
    exact ⟨none, 0, rfl, World.ownsRow_nil _ _ _ _, Below.refl _ _⟩
  · subst e1
    have hq := mslice_not_nil ⟨g, 0, none⟩ ls.length cap
    obtain ⟨i0, hi, hz0, hz1, hz2⟩ := info_parts infoMsg
    have hlen := mflat_len ls
    have hown2 : (w.alloc (.cells #[] 28)).ownsRow B 28 9 (.slice (some ⟨g, 0, none⟩) ls.length cap) ls.length (mflat ls) := World.ownsRow.alloc hown _
    have hcs := World.ownsRow.cells hown2 (g := g) rfl
    have hmade : (w.alloc (.cells #[] 28)).ownsRow w.heap.size 28 9 (.slice (some ⟨w.heap.size, 0, none⟩) 0 0) 0 [] := World.ownsRow_made w #[] 0 (Nat.le_refl _) (Nat.zero_le _) rfl
    obtain ⟨v', w', ra, ro, rg, _, rat⟩ := run_append_own_at (P := Tryd.prog) (w.alloc (.cells #[] 28)) w.heap.size 22 22 28 i0 _ 9 112 Tryd.underlying22 hi hz0 hz1 hz2 rfl (by decide) (.slice (some ⟨w.heap.size, 0, none⟩) 0 0) 0 [] hmade ⟨g, 0, none⟩ ls.length cap (mflat ls) hlen hcs (mflat_one ls) (by unfold maxLen; omega) (by omega) (by simp)
    have hf : ∃ a' c', v' = .slice a' ls.length c' := by
      rcases ro.2 with ⟨e1, e2⟩ | ⟨g', cap', cur', e1, r⟩
      · exact ⟨none, 0, by rw [e1]; congr 1; omega⟩
      · exact ⟨_, cap', by rw [e1]; congr 1; omega⟩
    obtain ⟨a', c', rfl⟩ := hf
    have fin : mowns w' w.heap.size (.slice a' ls.length c') ls ∧ Below w.heap.size w w' := by
      refine ⟨by unfold mowns; simpa using ro, ?_⟩
      have s1 := rg.size
      simp at s1
      refine ⟨rg.os, rg.tape, rg.output, by omega, fun k hk => ?_⟩
      rw [rg.block k (by simp; omega) (by simp [Value.ownBlock]; omega)]
      exact Lib.alloc_old w _ k hk
    clear hown hown2 hcs hmade ro rg rat r1 r2 r3 r4 r5 r6 hlen
    have RA := Lib.hid ra
    clear ra
    go_enter Tryd.func34, Tryd.ntmps34
    go_wp2_with (at_builtin; refine Lib.wpList_append_run _ rfl _ _ _ _ rfl _ _ rfl rfl _ _ RA.out ?_)
    go_ret
    exact ⟨a', c', rfl, fin⟩
end Go.Proofs.YtcidllckmidkoaaDoor
