/- The law's example: awake; the calls at a row that a value holds. -/
import Derived.Test.YtleobnfmbhobgaaDoorMake14
namespace Go.Proofs.YtleobnfmbhobgaaDoor
open Go.RowKit Go.Maps

theorem kind_abcd : kindOf abcd = 1 := by decide +kernel
def plus : ByteArray := ⟨#[43, 49, 50, 51, 52, 53, 54, 55, 56]⟩
theorem kind_plus : kindOf plus = 2 := by decide +kernel

theorem post_v {Bs : Nat} {v : Value} {ms : List Msg} {w : World} (h : mowns w Bs v ms) (lim : ms.length ≤ 1000000) (m : Msg) (hs : m.dest.size ≤ 4000000000) (now : Int) (hm : ML w) :
    Calls Tryd.prog 11 #[v, m.agg, .int .i64 now] w fun e w' => ∃ a c, e = .returned (.tuple #[.slice a (postR ms m now).length c, .int .i64 (postE ms m now)]) ∧ Fresh w w' (.slice a (postR ms m now).length c) (postR ms m now) := by
  obtain ⟨a, c, rfl, _⟩ := h.form
  refine (post_any h lim m hs now hm).mono ?_
  rintro e w' ⟨v, rfl, f⟩
  obtain ⟨a', c', rfl, _⟩ := f.1.form
  exact ⟨a', c', rfl, f⟩
theorem failed_v {Bs : Nat} {v : Value} {ms : List Msg} {w : World} (h : mowns w Bs v ms) (lim : ms.length ≤ 1000000) (id : Nat) (now : Int) :
    Calls Tryd.prog 9 #[v, .int .u64 id, .int .i64 now] w fun e w' => ∃ a c, e = .returned (.tuple #[.slice a (failR ms id now).length c, .int .i64 (liveE ms id)]) ∧ Fresh w w' (.slice a (failR ms id now).length c) (failR ms id now) := by
  obtain ⟨a, c, rfl, _⟩ := h.form
  refine (failed_any h lim id now).mono ?_
  rintro e w' ⟨v, rfl, f⟩
  obtain ⟨a', c', rfl, _⟩ := f.1.form
  exact ⟨a', c', rfl, f⟩
theorem taken_v {Bs : Nat} {v : Value} {ms : List Msg} {w : World} (h : mowns w Bs v ms) (lim : ms.length ≤ 1000000) (id : Nat) :
    Calls Tryd.prog 15 #[v, .int .u64 id] w fun e w' => ∃ a c, e = .returned (.tuple #[.slice a (takeR ms id).length c, .int .i64 (liveE ms id)]) ∧ Fresh w w' (.slice a (takeR ms id).length c) (takeR ms id) := by
  obtain ⟨a, c, rfl, _⟩ := h.form
  refine (taken_any h lim id).mono ?_
  rintro e w' ⟨v, rfl, f⟩
  obtain ⟨a', c', rfl, _⟩ := f.1.form
  exact ⟨a', c', rfl, f⟩
theorem due_v {Bs : Nat} {v : Value} {ms : List Msg} {w : World} (h : mowns w Bs v ms) (lim : ms.length ≤ 1000000) (now : Int) :
    Calls Tryd.prog 13 #[v, .int .i64 now] w fun e w' => ∃ a c, e = .returned (.slice a (ms.filter (dueB now)).length c) ∧ Fresh w w' (.slice a (ms.filter (dueB now)).length c) (ms.filter (dueB now)) := by
  obtain ⟨a, c, rfl, _⟩ := h.form
  refine (due_any h lim now).mono ?_
  rintro e w' ⟨v, rfl, f⟩
  obtain ⟨a', c', rfl, _⟩ := f.1.form
  exact ⟨a', c', rfl, f⟩
theorem forget_v {Bs : Nat} {v : Value} {ms : List Msg} {w : World} (h : mowns w Bs v ms) (lim : ms.length ≤ 1000000) :
    Calls Tryd.prog 14 #[v] w fun e w' => ∃ a c, e = .returned (.slice a (ms.filter alvB).length c) ∧ Fresh w w' (.slice a (ms.filter alvB).length c) (ms.filter alvB) := by
  obtain ⟨a, c, rfl, _⟩ := h.form
  refine (forget_any h lim).mono ?_
  rintro e w' ⟨v, rfl, f⟩
  obtain ⟨a', c', rfl, _⟩ := f.1.form
  exact ⟨a', c', rfl, f⟩
theorem deads_v {Bs : Nat} {v : Value} {ms : List Msg} {w : World} (h : mowns w Bs v ms) (lim : ms.length ≤ 1000000) :
    Calls Tryd.prog 18 #[v] w fun e w' => ∃ a c, e = .returned (.slice a (ms.filter dedB).length c) ∧ Fresh w w' (.slice a (ms.filter dedB).length c) (ms.filter dedB) := by
  obtain ⟨a, c, rfl, _⟩ := h.form
  refine (deads_any h lim).mono ?_
  rintro e w' ⟨v, rfl, f⟩
  obtain ⟨a', c', rfl, _⟩ := f.1.form
  exact ⟨a', c', rfl, f⟩
theorem next_v {Bs : Nat} {v : Value} {ms : List Msg} {w : World} (h : mowns w Bs v ms) (lim : ms.length ≤ 1000000) :
    Calls Tryd.prog 20 #[v] w fun e w' => e = .returned (.tuple #[.int .i64 (nextF (ms.filter alvB)).1, .bool (nextF (ms.filter alvB)).2]) ∧ Below w.heap.size w w' := by
  obtain ⟨a, c, rfl, _⟩ := h.form
  exact next_any h lim
theorem mowns_nil (w : World) (B : Nat) : mowns w B (.slice none 0 0) [] := World.ownsRow_nil _ _ _ _
/-- One call behind another. -/
theorem Fresh.then {w w1 w2 : World} {v : Value} {ms : List Msg} (f : Fresh w1 w2 v ms) (b : Below w.heap.size w w1) : mowns w2 w.heap.size v ms ∧ Below w.heap.size w w2 :=
  ⟨f.1.mono b.size, b.trans (f.2.mono b.size)⟩

def mA : Msg := ⟨1, abcd, ⟨#[120]⟩, 0, 0, false⟩
def lA1 : List Msg := postR [] mA 0
def lA2 : List Msg := failR lA1 1 0
def lA3 : List Msg := failR lA2 1 1
theorem eA1 : postE [] mA 0 = 0 := by decide +kernel
theorem eA2 : liveE lA1 1 = 0 := by decide +kernel
theorem eA3 : liveE lA2 1 = 0 := by decide +kernel
theorem eA4 : nextF (lA3.filter alvB) = (3, true) := by decide +kernel
theorem eA5 : lA1.length ≤ 1000000 ∧ lA2.length ≤ 1000000 ∧ lA3.length ≤ 1000000 := by decide +kernel

set_option maxRecDepth 100000 in
set_option maxHeartbeats 2000000 in
theorem awake_any (w : World) (hm : ML w) : Calls Tryd.prog 8 #[] w fun e w' => e = .returned (.bool true) ∧ Below w.heap.size w w' := by
  have P1 : Hid (Calls Tryd.prog 11 #[.slice none 0 0, .agg #[.int .u64 1, .string ⟨#[97, 64, 98, 46, 99, 100]⟩, .string ⟨#[120]⟩, .int .i64 0, .int .i64 0, .bool false], .int .i64 0] w fun e w' => ∃ a n c, e = .returned (.tuple #[.slice a n c, .int .i64 0]) ∧ Fresh w w' (.slice a n c) lA1) := Lib.hid ((post_v (mowns_nil w 0) (by decide) mA (by decide) 0 hm).mono fun e w' ⟨a, c, he, f⟩ => ⟨a, _, c, by rw [he, eA1], f⟩)
  have P2 : Hid (∀ (v : Value) (w1 : World), Fresh w w1 v lA1 → Calls Tryd.prog 9 #[v, .int .u64 1, .int .i64 0] w1 fun e w' => ∃ a n c, e = .returned (.tuple #[.slice a n c, .int .i64 0]) ∧ Fresh w w' (.slice a n c) lA2) := Lib.hid (fun v w1 f => (failed_v f.1 eA5.1 1 0).mono fun e w' ⟨a, c, he, g⟩ => ⟨a, _, c, by rw [he, eA2], g.then f.2⟩)
  have P3 : Hid (∀ (v : Value) (w1 : World), Fresh w w1 v lA2 → Calls Tryd.prog 9 #[v, .int .u64 1, .int .i64 1] w1 fun e w' => ∃ a n c, e = .returned (.tuple #[.slice a n c, .int .i64 0]) ∧ Fresh w w' (.slice a n c) lA3) := Lib.hid (fun v w1 f => (failed_v f.1 eA5.2.1 1 1).mono fun e w' ⟨a, c, he, g⟩ => ⟨a, _, c, by rw [he, eA3], g.then f.2⟩)
  have P4 : Hid (∀ (v : Value) (w1 : World), Fresh w w1 v lA3 → Calls Tryd.prog 20 #[v] w1 fun e w' => e = .returned (.tuple #[.int .i64 3, .bool true]) ∧ Below w.heap.size w w') := Lib.hid (fun v w1 f => (next_v f.1 eA5.2.2).mono fun e w' ⟨he, g⟩ => ⟨by rw [he, eA4], f.2.trans (g.mono f.2.size)⟩)
  go_enter Tryd.func8, Tryd.ntmps8
  go_wp2_with (first
    | (go_at_call 11; (with_reducible refine (P1.out).mono ?_); rintro e w1 ⟨a1, n1, c1, rfl, f1⟩; have F1 := Lib.hid f1; clear f1)
    | (go_at_call 9; (with_reducible refine (P2.out _ _ F1.out).mono ?_); rintro e w2 ⟨a2, n2, c2, rfl, f2⟩; have F2 := Lib.hid f2; clear f2)
    | (go_at_call 9; (with_reducible refine (P3.out _ _ F2.out).mono ?_); rintro e w3 ⟨a3, n3, c3, rfl, f3⟩; have F3 := Lib.hid f3; clear f3)
    | (go_at_call 20; (with_reducible refine (P4.out _ _ F3.out).mono ?_); rintro e w4 ⟨rfl, b4⟩))
  go_ret
  exact ⟨rfl, b4⟩
end Go.Proofs.YtleobnfmbhobgaaDoor
