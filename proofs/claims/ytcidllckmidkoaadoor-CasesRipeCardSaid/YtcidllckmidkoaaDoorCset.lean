/- One case of a row put anew: nine cells; one contact put anew. -/
import Derived.Test.YtcidllckmidkoaaDoorCcnt
namespace Go.Proofs.YtcidllckmidkoaaDoor
open Go.RowKit Go.Maps

theorem ownsRow_put {w : World} {B size n cap g k : Nat} {xs : List Value} {T : TypeId} (h : w.ownsRow B T size (.slice (some ⟨g, 0, none⟩) n cap) n xs) (hk : k < xs.length) (v : Value) : (w.setCell ⟨g, k, none⟩ v).ownsRow B T size (.slice (some ⟨g, 0, none⟩) n cap) n (xs.set k v) := by
  refine ⟨by rw [List.length_set]; exact h.1, ?_⟩
  rcases h.2 with ⟨e1, _⟩ | ⟨g', cap', cur, e1, r1, r2, r3, r4, r5, r6⟩
  · simp at e1
  · cases e1
    refine .inr ⟨g, cap, cur.setIfInBounds k v, rfl, r1, heap_setCell_same w g k cur T v r2, r3, r4, by simpa using r5, ?_⟩
    have hk2 : k < n * size := by rw [← h.1]; exact hk
    rw [← r6, Array.toList_setIfInBounds, List.take_set]
theorem cset_flat : ∀ (ms : List Cas) (i : Nat) (m' : Cas), i < ms.length → (((((((((mflat ms).set (i * 9) (.int .i64 m'.acc)).set (i * 9 + 1) (.int .i64 m'.opened)).set (i * 9 + 2) (.int .i64 m'.ripe)).set (i * 9 + 3) (.int .i64 m'.quorum)).set (i * 9 + 4) (.string m'.v0)).set (i * 9 + 5) (.string m'.v1)).set (i * 9 + 6) (.string m'.v2)).set (i * 9 + 7) (.string m'.v3)).set (i * 9 + 8) (.string m'.v4) = mflat (ms.set i m')
  | [], i, m', h => by simp at h
  | m :: ms, 0, m', h => by
    simp only [List.set_cons_zero, mflat_cons, Cas.cells, Nat.zero_mul, Nat.zero_add, List.cons_append, List.nil_append, List.set_cons_succ]
  | m :: ms, i + 1, m', h => by
    have ih := cset_flat ms i m' (by simpa using h)
    rw [List.set_cons_succ, mflat_cons, mflat_cons, ← ih]
    have hl : m.cells.length = 9 := rfl
    rw [List.set_append_right _ _ (by omega), List.set_append_right _ _ (by omega), List.set_append_right _ _ (by omega), List.set_append_right _ _ (by omega), List.set_append_right _ _ (by omega), List.set_append_right _ _ (by omega), List.set_append_right _ _ (by omega), List.set_append_right _ _ (by omega), List.set_append_right _ _ (by omega)]
    rw [hl, show (i + 1) * 9 - 9 = i * 9 by omega, show (i + 1) * 9 + 1 - 9 = i * 9 + 1 by omega, show (i + 1) * 9 + 2 - 9 = i * 9 + 2 by omega, show (i + 1) * 9 + 3 - 9 = i * 9 + 3 by omega, show (i + 1) * 9 + 4 - 9 = i * 9 + 4 by omega, show (i + 1) * 9 + 5 - 9 = i * 9 + 5 by omega, show (i + 1) * 9 + 6 - 9 = i * 9 + 6 by omega, show (i + 1) * 9 + 7 - 9 = i * 9 + 7 by omega, show (i + 1) * 9 + 8 - 9 = i * 9 + 8 by omega]
theorem mowns.free {w : World} {B c g : Nat} {n : Nat} {ms : List Cas} (h : mowns w B (.slice (some ⟨g, 0, none⟩) n c) ms) (j : Nat) : w.frozen? ⟨g, j, none⟩ = false := by
  rcases h.2 with ⟨e1, e2⟩ | ⟨g', cap, cur, e1, r1, r2, r⟩
  · cases e1
  · cases e1
    simp [World.frozen?, r2]
/-- One contact put into its place. -/
def Cas.putV (c : Cas) (k : Nat) (x : ByteArray) : Cas := if k = 0 then { c with v0 := x } else if k = 1 then { c with v1 := x } else if k = 2 then { c with v2 := x } else if k = 3 then { c with v3 := x } else { c with v4 := x }
theorem cset_v : ∀ (ms : List Cas) (i k : Nat) (x : ByteArray), i < ms.length → k < 5 → (mflat ms).set (i * 9 + 4 + k) (.string x) = mflat (ms.set i ((ms[i]?.getD noCas).putV k x))
  | [], i, k, x, h, _ => by simp at h
  | m :: ms, 0, k, x, h, hk => by
    have hc : k = 0 ∨ k = 1 ∨ k = 2 ∨ k = 3 ∨ k = 4 := by omega
    rcases hc with rfl | rfl | rfl | rfl | rfl <;> rfl
  | m :: ms, i + 1, k, x, h, hk => by
    have ih := cset_v ms i k x (by simpa using h) hk
    have hl : m.cells.length = 9 := rfl
    rw [List.set_cons_succ, mflat_cons, mflat_cons, List.getElem?_cons_succ, ← ih, List.set_append_right _ _ (by omega)]
    rw [hl, show (i + 1) * 9 + 4 + k - 9 = i * 9 + 4 + k by omega]
theorem mowns.putV {w : World} {B c g n : Nat} {ms : List Cas} (h : mowns w B (.slice (some ⟨g, 0, none⟩) n c) ms) (hn : ms.length = n) (i k : Nat) (hi : i < ms.length) (hk : k < 5) (x : ByteArray) :
    mowns (w.setCell ⟨g, i * 9 + 4 + k, none⟩ (.string x)) B (.slice (some ⟨g, 0, none⟩) n c) (ms.set i ((ms[i]?.getD noCas).putV k x)) := by
  unfold mowns
  rw [List.length_set, ← cset_v ms i k x hi hk]
  subst hn
  exact ownsRow_put h (by rw [mflat_len]; omega) _
end Go.Proofs.YtcidllckmidkoaaDoor
