/- A set of strings, kept as a map[string]bool that the call made. -/
import Derived.Test.YtkihleecjgoipaaDoorSmall
import Derived.Maps.OwnSet
import Derived.Maps.AppendAt
import Derived.ProofKit
namespace Go.Proofs.YtkihleecjgoipaaDoor
open Go.RowKit Go.Maps

theorem keyStr : Keyed Tryd.prog 9 := string_keyed Tryd.underlying9
def heldAs (v : Value) : Option (DataW Value × List MemPlace) := some (.held v, [])
theorem zeroBool (w : World) : (zeroValue 4).run Tryd.prog w = .ok (.bool false) w := by kernel_rfl
def inB (s : ByteArray) (l : List ByteArray) : Bool := l.any (fun t => decide (t = s))
theorem inB_iff {s : ByteArray} {l : List ByteArray} : inB s l = true ↔ s ∈ l := by simp [inB]
theorem inB_not {s : ByteArray} {l : List ByteArray} (h : s ∉ l) : inB s l = false := by
  cases q : inB s l
  · rfl
  · exact absurd (inB_iff.1 q) h
/-- Block B is a set, put into at most N times, that holds the strings of seen. -/
def met (w : World) (B N : Nat) (seen : List ByteArray) : Prop :=
  ∃ D : DataW Value, w.ownsMap Tryd.prog 9 heldAs B N D ∧ ∀ s : ByteArray, s.size ≤ maxLen → D.atKey (.string s.data.toList) (.held (.bool false)) = .held (.bool (inB s seen))
set_option maxRecDepth 100000 in
theorem met.look {w : World} {B N : Nat} {seen : List ByteArray} (h : met w B N seen) (s : ByteArray) (hs : s.size ≤ maxLen) :
    (Instr.lookup 73 (.map (some B)) (.string s) false).run Tryd.prog w = .ok (.bool (inB s seen)) w := by
  obtain ⟨D, hB, h9⟩ := h
  obtain ⟨v, ps, hrun, hv⟩ := hB.lookup keyStr Tryd.underlying73 (zeroBool w) (zd := .held (.bool false)) (zp := []) rfl (WideMaps.keyOf_string_mk Tryd.underlying9 hs)
  rw [h9 s hs] at hv
  clear h9
  generalize inB s seen = q at *
  unfold heldAs at hv
  injection hv with e
  injection e with e _
  injection e with e
  subst e
  exact hrun
theorem met.new (w : World) : met (w.alloc (.map #[] 0)) w.heap.size 0 [] := ⟨.map [], World.ownsMap_made w Tryd.prog 9 heldAs, fun _ _ => rfl⟩
theorem met.lt {w : World} {B N : Nat} {seen : List ByteArray} (h : met w B N seen) : B < w.heap.size := by
  obtain ⟨D, hB, _⟩ := h
  exact hB.lt
theorem met.below {w w' : World} {B N : Nat} {seen : List ByteArray} (h : met w B N seen) (b : Below w.heap.size w w') : met w' B N seen := by
  obtain ⟨D, hB, h9⟩ := h
  exact ⟨D, hB.kept (row := none) ⟨b.os, b.tape, b.output, b.size, fun i hi _ => b.block i hi⟩ (by simp), h9⟩
theorem met.alloc {w : World} {B N : Nat} {seen : List ByteArray} (h : met w B N seen) (o : Obj) : met (w.alloc o) B N seen := by
  obtain ⟨D, hB, h9⟩ := h
  exact ⟨D, hB.alloc o, h9⟩
theorem met.drew {w : World} {B N : Nat} {seen : List ByteArray} (h : met w B N seen) : met w.drew B N seen := by
  obtain ⟨D, hB, h9⟩ := h
  exact ⟨D, hB.drew, h9⟩
theorem met.set {w : World} {B N : Nat} {seen : List ByteArray} (h : met w B N seen) {a : Addr} (ha : B ≠ a.block) (u : Value) : met (w.setCell a u) B N seen := by
  obtain ⟨D, hB, h9⟩ := h
  exact ⟨D, hB.setCell ha u, h9⟩
set_option maxRecDepth 100000 in
theorem met.put {w : World} {B N : Nat} {seen : List ByteArray} (h : met w B N seen) (hN : N ≤ 1000000) (s : ByteArray) (hs : s.size ≤ maxLen) :
    ∃ w', (Instr.mapUpdate 73 (.map (some B)) (.string s) (.bool true)).run Tryd.prog w = .ok () w' ∧ met w' B (N + 1) (s :: seen) ∧ w.grownBy w' (some B) := by
  obtain ⟨D, hB, h9⟩ := h
  obtain ⟨w', ru, B4, g4⟩ := hB.update keyStr Tryd.underlying73 (by unfold maxLen; omega) (WideMaps.keyOf_string_mk Tryd.underlying9 hs) (val := .bool true) (d := .held (.bool true)) (ps := []) rfl
  refine ⟨w', ru, ⟨_, B4, fun s' hs' => ?_⟩, g4⟩
  by_cases e : s' = s
  · subst e
    rw [atKey_put_same hB.isMap (by trivial)]
    simp [inB]
  · rw [atKey_put_other (by intro e'; injection e' with e'; exact e (by rcases s with ⟨⟨s⟩⟩; rcases s' with ⟨⟨t⟩⟩; simpa using e')), h9 s' hs']
    unfold inB
    rw [List.any_cons, decide_eq_false (fun q => e q.symm), Bool.false_or]
end Go.Proofs.YtkihleecjgoipaaDoor
