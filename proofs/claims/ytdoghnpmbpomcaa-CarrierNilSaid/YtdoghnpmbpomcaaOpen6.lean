/- A struct of six one-cell fields, by value, opened and shut. -/
import Derived.Lib.SmallJoins
import Derived.WalkKit
import Derived.ProofKit
import Derived.OpenShut
namespace Go.Proofs.Ytdoghnpmbpomcaa
open Go Go.Joins Go.ChangeShapes Go.WideShapes Go.RowKit Go.Deep
variable {H : Type} {enc : TypeId × Value → H} {P : Program} {w : World} {base : Nat} {spare : Nat → Bool} {held : Bool}

theorem array6 {α : Type} {cs : Array α} (h : cs.size = 6) : ∃ c0 c1 c2 c3 c4 c5, cs = #[c0, c1, c2, c3, c4, c5] := by
  obtain ⟨l⟩ := cs
  match l, h with
  | [c0, c1, c2, c3, c4, c5], _ => exact ⟨c0, c1, c2, c3, c4, c5, rfl⟩
theorem list6 {α : Type} {l : List α} (h : l.length = 6) : ∃ c0 c1 c2 c3 c4 c5, l = [c0, c1, c2, c3, c4, c5] := by
  match l, h with
  | [c0, c1, c2, c3, c4, c5], _ => exact ⟨c0, c1, c2, c3, c4, c5, rfl⟩

theorem open_agg6 {r : Reach} {b0 : Nat} {t : TypeId} {f0 f1 f2 f3 f4 f5 : Field} {v : Value} {d : DataW H} {p : List MemPlace} (hs : P.underlying t = some (.struct #[f0, f1, f2, f3, f4, f5])) (hone : oneCellFields P #[f0, f1, f2, f3, f4, f5] = true) (hC : P.cellsOf t = 6)
    (hv : Value.okWide P w r b0 t v) (h : DataW.Trod enc P w base spare held t v d p) :
    ∃ (v0 v1 v2 v3 v4 v5 : Value) (y0 y1 y2 y3 y4 y5 : DataW H × List MemPlace) (n : Nat), v = .agg #[v0, v1, v2, v3, v4, v5] ∧ d = .agg [y0.1, y1.1, y2.1, y3.1, y4.1, y5.1] ∧ p = y0.2 ++ (y1.2 ++ (y2.2 ++ (y3.2 ++ (y4.2 ++ y5.2)))) ∧
      DataW.trod enc P w base spare held n f0.type [v0] = some y0 ∧ DataW.trod enc P w base spare held n f1.type [v1] = some y1 ∧ DataW.trod enc P w base spare held n f2.type [v2] = some y2 ∧ DataW.trod enc P w base spare held n f3.type [v3] = some y3 ∧ DataW.trod enc P w base spare held n f4.type [v4] = some y4 ∧ DataW.trod enc P w base spare held n f5.type [v5] = some y5 := by
  obtain ⟨cs, rfl, hsz⟩ := okWide_struct hs hv
  obtain ⟨c0, c1, c2, c3, c4, c5, rfl⟩ := array6 (hsz.trans hC)
  obtain ⟨fuel, hf⟩ := h
  obtain ⟨xs, n, _, hx, hl, hlen, hff⟩ := DataW.trod_struct hs hf
  obtain ⟨y0, y1, y2, y3, y4, y5, rfl⟩ := list6 (by simpa using hlen)
  obtain ⟨o0, k0⟩ := hone_of hone 0 f0 rfl
  obtain ⟨o1, k1⟩ := hone_of hone 1 f1 rfl
  obtain ⟨o2, k2⟩ := hone_of hone 2 f2 rfl
  obtain ⟨o3, k3⟩ := hone_of hone 3 f3 rfl
  obtain ⟨o4, k4⟩ := hone_of hone 4 f4 rfl
  obtain ⟨o5, k5⟩ := hone_of hone 5 f5 rfl
  have h0 := hff 0 f0 rfl
  have h1 := hff 1 f1 rfl
  have h2 := hff 2 f2 rfl
  have h3 := hff 3 f3 rfl
  have h4 := hff 4 f4 rfl
  have h5 := hff 5 f5 rfl
  simp [Value.cells, o0, k0] at h0
  simp [Value.cells, o1, k1] at h1
  simp [Value.cells, o2, k2] at h2
  simp [Value.cells, o3, k3] at h3
  simp [Value.cells, o4, k4] at h4
  simp [Value.cells, o5, k5] at h5
  simp at hx
  exact ⟨c0, c1, c2, c3, c4, c5, y0, y1, y2, y3, y4, y5, n, rfl, hx.1, by simpa using hx.2, h0, h1, h2, h3, h4, h5⟩

theorem shut_agg6 {t : TypeId} {f0 f1 f2 f3 f4 f5 : Field} {v0 v1 v2 v3 v4 v5 : Value} {y0 y1 y2 y3 y4 y5 : DataW H × List MemPlace} (hs : P.underlying t = some (.struct #[f0, f1, f2, f3, f4, f5])) (hone : oneCellFields P #[f0, f1, f2, f3, f4, f5] = true) (hC : P.cellsOf t = 6)
    (t0 : ∃ n, DataW.trod enc P w base spare held n f0.type [v0] = some y0) (t1 : ∃ n, DataW.trod enc P w base spare held n f1.type [v1] = some y1) (t2 : ∃ n, DataW.trod enc P w base spare held n f2.type [v2] = some y2) (t3 : ∃ n, DataW.trod enc P w base spare held n f3.type [v3] = some y3)
    (t4 : ∃ n, DataW.trod enc P w base spare held n f4.type [v4] = some y4) (t5 : ∃ n, DataW.trod enc P w base spare held n f5.type [v5] = some y5) :
    DataW.Trod enc P w base spare held t (.agg #[v0, v1, v2, v3, v4, v5]) (.agg [y0.1, y1.1, y2.1, y3.1, y4.1, y5.1]) (y0.2 ++ (y1.2 ++ (y2.2 ++ (y3.2 ++ (y4.2 ++ y5.2))))) := by
  obtain ⟨n0, t0⟩ := t0
  obtain ⟨n1, t1⟩ := t1
  obtain ⟨n2, t2⟩ := t2
  obtain ⟨n3, t3⟩ := t3
  obtain ⟨n4, t4⟩ := t4
  obtain ⟨n5, t5⟩ := t5
  obtain ⟨o0, k0⟩ := hone_of hone 0 f0 rfl
  obtain ⟨o1, k1⟩ := hone_of hone 1 f1 rfl
  obtain ⟨o2, k2⟩ := hone_of hone 2 f2 rfl
  obtain ⟨o3, k3⟩ := hone_of hone 3 f3 rfl
  obtain ⟨o4, k4⟩ := hone_of hone 4 f4 rfl
  obtain ⟨o5, k5⟩ := hone_of hone 5 f5 rfl
  have a0 := DataW.trod_le (show n0 ≤ n0 + n1 + n2 + n3 + n4 + n5 by omega) t0
  have a1 := DataW.trod_le (show n1 ≤ n0 + n1 + n2 + n3 + n4 + n5 by omega) t1
  have a2 := DataW.trod_le (show n2 ≤ n0 + n1 + n2 + n3 + n4 + n5 by omega) t2
  have a3 := DataW.trod_le (show n3 ≤ n0 + n1 + n2 + n3 + n4 + n5 by omega) t3
  have a4 := DataW.trod_le (show n4 ≤ n0 + n1 + n2 + n3 + n4 + n5 by omega) t4
  have a5 := DataW.trod_le (show n5 ≤ n0 + n1 + n2 + n3 + n4 + n5 by omega) t5
  have ts := trod_struct_mk (enc := enc) (w := w) (base := base) (spare := spare) (held := held) (n := n0 + n1 + n2 + n3 + n4 + n5) (cs := [v0, v1, v2, v3, v4, v5]) (xs := [y0, y1, y2, y3, y4, y5]) hs (by simp [hC]) (by simp [o0, k0, o1, k1, o2, k2, o3, k3, o4, k4, o5, k5, a0, a1, a2, a3, a4, a5])
  exact ⟨_, by simpa [Value.cells] using ts⟩
end Go.Proofs.Ytdoghnpmbpomcaa
