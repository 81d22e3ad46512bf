/- OutboxRoom: the calls between its steps. -/
import Derived.Test.YtleobnfmbhobgaaDoorInv14
import Derived.Test.YtleobnfmbhobgaaDoorOp14
namespace Go.Proofs.YtleobnfmbhobgaaDoor
open Go.RowKit Go.Maps

set_option maxRecDepth 100000 in
theorem room_any (a : Option Addr) (n c : Nat) (hn : n ≤ 40) (w : World) : Calls Tryd.prog 10 #[.slice a n c] w fun e w' => e = .returned (.int .i64 (40 - (n : Int))) ∧ w' = w := by
  have h1 : (0 : Int) ≤ 40 - (n : Int) := by omega
  go_enter Tryd.func10, Tryd.ntmps10
  go_wp2_with fail
  go_ret
  exact ⟨ret_int (by omega), rfl⟩

/-- What holds between two steps: a row in its place. -/
def RM (W : World) (last : Nat) (L : List Msg) (v : Value) (w : World) : Prop := mowns w W.heap.size v L ∧ Below W.heap.size W w ∧ INV last L
theorem RM.lim {W : World} {last : Nat} {L : List Msg} {v : Value} {w : World} (h : RM W last L v w) : L.length ≤ 1000000 := by have := h.2.2.2.2; omega
theorem RM.later {W : World} {last : Nat} {L : List Msg} {v : Value} {w w' : World} (h : RM W last L v w) (b : Below w.heap.size w w') : RM W last L v w' := ⟨h.1.below b, h.2.1.trans (b.mono h.2.1.size), h.2.2⟩
theorem RM.fresh {W : World} {last last' : Nat} {L L' : List Msg} {v v' : Value} {w w' : World} (h : RM W last L v w) (f : Fresh w w' v' L') (i : INV last' L') : RM W last' L' v' w' := ⟨f.1.mono h.2.1.size, h.2.1.trans (f.2.mono h.2.1.size), i⟩

/-- What message gives. -/
theorem msg_lit (id : Nat) (n : Nat) : (msgL id n).agg = .agg #[.int .u64 id, .string abcd, .string (xs n), .int .i64 7, .int .i64 0, .bool true] := rfl
theorem rm_post {W w : World} {last : Nat} {L : List Msg} {v : Value} (h : RM W last L v w) (hW : ML W) (hl : last ≤ 1000000) (now : Int) (h0 : 0 ≤ now) (h3 : now ≤ 1099511627776) (n : Nat) (hn : 1 ≤ n) (hn2 : n ≤ 80) :
    Calls Tryd.prog 11 #[v, .agg #[.int .u64 ((last : Int) + 1), .string abcd, .string (xs n), .int .i64 7, .int .i64 0, .bool true], .int .i64 now] w fun e w' =>
      ∃ (a : Option Addr) (c last' : Nat) (L' : List Msg), e = .returned (.tuple #[.slice a L'.length c, .int .i64 (if L.length < 40 then 0 else 15)]) ∧ last' = (if L.length < 40 then last + 1 else last) ∧ RM W last' L' (.slice a L'.length c) w' ∧ Below w.heap.size w w' := by
  have hp := inv_post h.2.2 (by omega) n hn hn2 now h0 h3
  have e1 : ((last : Int) + 1) = ((last + 1 : Nat) : Int) := by omega
  rw [e1]
  refine (post_v h.1 h.lim (msgL (last + 1) n) (by show abcd.size ≤ 4000000000; decide) now (hW.below h.2.1)).mono ?_
  rintro e w' ⟨a, c, rfl, f⟩
  by_cases h4 : L.length < 40
  · obtain ⟨q1, q2, q3⟩ := hp.1 h4
    rw [q1] at *
    rw [q2] at f ⊢
    exact ⟨a, c, last + 1, L ++ [postM (msgL (last + 1) n) now], by rw [if_pos h4], by rw [if_pos h4], h.fresh f q3, f.2⟩
  · obtain ⟨q1, q2⟩ := hp.2 h4
    rw [q1] at *
    rw [q2] at f ⊢
    exact ⟨a, c, last, L, by rw [if_neg h4], by rw [if_neg h4], h.fresh f h.2.2, f.2⟩
theorem rm_failed {W w : World} {last : Nat} {L : List Msg} {v : Value} (h : RM W last L v w) (id now : Int) (hid : 0 ≤ id) :
    Calls Tryd.prog 9 #[v, .int .u64 id, .int .i64 now] w fun e w' => ∃ (a : Option Addr) (c : Nat) (L' : List Msg) (er : Int), e = .returned (.tuple #[.slice a L'.length c, .int .i64 er]) ∧ RM W last L' (.slice a L'.length c) w' ∧ Below w.heap.size w w' := by
  obtain ⟨i, rfl⟩ : ∃ i : Nat, id = i := ⟨id.toNat, by omega⟩
  refine (failed_v h.1 h.lim i now).mono ?_
  rintro e w' ⟨a, c, rfl, f⟩
  exact ⟨a, c, _, _, rfl, h.fresh f (inv_fail h.2.2 i now), f.2⟩
theorem rm_due {W w : World} {last : Nat} {L : List Msg} {v : Value} (h : RM W last L v w) (now : Int) :
    Calls Tryd.prog 13 #[v, .int .i64 now] w fun e w' => ∃ (a : Option Addr) (c : Nat), e = .returned (.slice a (L.filter (dueB now)).length c) ∧ mowns w' w.heap.size (.slice a (L.filter (dueB now)).length c) (L.filter (dueB now)) ∧ RM W last L v w' ∧ Below w.heap.size w w' := by
  refine (due_v h.1 h.lim now).mono ?_
  rintro e w' ⟨a, c, rfl, f⟩
  exact ⟨a, c, rfl, f.1, h.later f.2, f.2⟩
theorem rm_forget {W w : World} {last : Nat} {L : List Msg} {v : Value} (h : RM W last L v w) :
    Calls Tryd.prog 14 #[v] w fun e w' => ∃ (a : Option Addr) (c : Nat), e = .returned (.slice a (L.filter alvB).length c) ∧ RM W last (L.filter alvB) (.slice a (L.filter alvB).length c) w' ∧ RM W last L v w' ∧ Below w.heap.size w w' := by
  refine (forget_v h.1 h.lim).mono ?_
  rintro e w' ⟨a, c, rfl, f⟩
  exact ⟨a, c, rfl, h.fresh f (inv_filter h.2.2 _), h.later f.2, f.2⟩

def lateB (now : Int) (m : Msg) : Bool := !m.dead && decide (now < m.due)
theorem count_split (now : Int) (L : List Msg) : (L.filter (dueB now)).length + (L.filter (lateB now)).length = (L.filter alvB).length := by
  induction L with
  | nil => rfl
  | cons m L ih =>
    simp only [List.filter_cons]
    cases hd : m.dead
    · have e3 : alvB m = true := by simp [alvB, hd]
      by_cases h : m.due ≤ now
      · have e1 : dueB now m = true := by simp [dueB, hd, h]
        have e2 : lateB now m = false := by simp [lateB, h]
        rw [e1, e2, e3]
        simp
        omega
      · have e1 : dueB now m = false := by simp [dueB, h]
        have e2 : lateB now m = true := by simp [lateB, hd]; omega
        rw [e1, e2, e3]
        simp
        omega
    · have e1 : dueB now m = false := by simp [dueB, hd]
      have e2 : lateB now m = false := by simp [lateB, hd]
      have e3 : alvB m = false := by simp [alvB, hd]
      rw [e1, e2, e3]
      simpa using ih
theorem u64_nn (x : Int) : 0 ≤ IntKind.u64.wrap x := by rw [IntKind.wrap_u64]; omega
end Go.Proofs.YtleobnfmbhobgaaDoor
