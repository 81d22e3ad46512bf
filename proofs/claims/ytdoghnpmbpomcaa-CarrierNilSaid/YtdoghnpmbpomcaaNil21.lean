/- CarrierNil: the walk. -/
import Derived.Test.YtdoghnpmbpomcaaAwake
import Derived.Test.YtdoghnpmbpomcaaLastNil
namespace Go.Proofs.Ytdoghnpmbpomcaa
open Go.RowKit Go.Maps

theorem two_all {w : World} {b : Nat} {x y : Value} {t : TypeId} (h : w.heap[b]? = some (.cells #[x, y] t (0, 0))) : w.cell? ⟨b, 0, none⟩ = some x ∧ w.cell? ⟨b, 1, none⟩ = some y := by
  refine ⟨?_, ?_⟩ <;> rw [Lib.cell_of_heap h] <;> rfl

set_option maxHeartbeats 4000000 in
set_option maxRecDepth 100000 in
theorem nil_walk (id att due k ticks : Int) (dest body : ByteArray) (dead : Bool) (W : World) :
    Calls Try.prog 7 #[.agg #[.int .u64 id, .string dest, .string body, .int .i64 att, .int .i64 due, .bool dead], .agg #[.int .i64 k, .int .i64 ticks]] W fun e W' => e = .returned (.bool true) ∧ Below W.heap.size W W' := by
  have L0 := Lib.hid (last_nil ⟨#[97]⟩ ⟨#[]⟩ ((W.alloc (.cells #[.int .u64 id, .string dest, .string body, .int .i64 att, .int .i64 due, .bool dead] 28)).alloc (.cells #[.int .i64 k, .int .i64 ticks] 30)))
  have B0 : Below W.heap.size W ((W.alloc (.cells #[.int .u64 id, .string dest, .string body, .int .i64 att, .int .i64 due, .bool dead] 28)).alloc (.cells #[.int .i64 k, .int .i64 ticks] 30)) := below_alloc (below_alloc (Below.refl _ W) _) _
  have h1 : ((W.alloc (.cells #[.int .u64 id, .string dest, .string body, .int .i64 att, .int .i64 due, .bool dead] 28)).alloc (.cells #[.int .i64 k, .int .i64 ticks] 30)).heap[W.heap.size]? = _ := heap_keep (heap_push1 W _) _
  have h2 : ((W.alloc (.cells #[.int .u64 id, .string dest, .string body, .int .i64 att, .int .i64 due, .bool dead] 28)).alloc (.cells #[.int .i64 k, .int .i64 ticks] 30)).heap[W.heap.size + 1]? = _ := heap_push2 W _ _
  have hs : ((W.alloc (.cells #[.int .u64 id, .string dest, .string body, .int .i64 att, .int .i64 due, .bool dead] 28)).alloc (.cells #[.int .i64 k, .int .i64 ticks] 30)).heap.size = W.heap.size + 1 + 1 := by simp
  have ST : Hid (∀ w2 w3 : World, Below ((W.alloc (.cells #[.int .u64 id, .string dest, .string body, .int .i64 att, .int .i64 due, .bool dead] 28)).alloc (.cells #[.int .i64 k, .int .i64 ticks] 30)).heap.size ((W.alloc (.cells #[.int .u64 id, .string dest, .string body, .int .i64 att, .int .i64 due, .bool dead] 28)).alloc (.cells #[.int .i64 k, .int .i64 ticks] 30)) w2 → Below w2.heap.size w2 w3 →
      (w3.cell? ⟨W.heap.size, 0, none⟩ = some (.int .u64 id) ∧ w3.cell? ⟨W.heap.size, 1, none⟩ = some (.string dest) ∧ w3.cell? ⟨W.heap.size, 2, none⟩ = some (.string body) ∧ w3.cell? ⟨W.heap.size, 3, none⟩ = some (.int .i64 att) ∧ w3.cell? ⟨W.heap.size, 4, none⟩ = some (.int .i64 due) ∧ w3.cell? ⟨W.heap.size, 5, none⟩ = some (.bool dead)) ∧
      (w3.cell? ⟨W.heap.size + 1, 0, none⟩ = some (.int .i64 k) ∧ w3.cell? ⟨W.heap.size + 1, 1, none⟩ = some (.int .i64 ticks)) ∧ Below W.heap.size W w3) := by
    refine Lib.hid fun w2 w3 b2 b3 => ?_
    have s2 := b2.size
    have q1 := (b3.block W.heap.size (by omega)).trans ((b2.block W.heap.size (by omega)).trans h1)
    have q2 := (b3.block (W.heap.size + 1) (by omega)).trans ((b2.block (W.heap.size + 1) (by omega)).trans h2)
    exact ⟨six_all q1, two_all q2, B0.trans ((b2.mono (by omega)).trans (b3.mono (by omega)))⟩
  clear h1 h2 hs B0
  go_enter Try.func7, Try.ntmps7
  go_wp2_with (first
    | (go_at_call 17; (with_reducible refine (L0.out).mono ?_); rintro e w2 ⟨rfl, q2⟩; have b2 := Lib.hid q2; clear q2)
    | (go_at_call 8; (with_reducible refine (awake_any _).mono ?_); rintro e w3 ⟨rfl, q3⟩; obtain ⟨⟨m0, m1, m2, m3, m4, m5⟩, ⟨x0, x1⟩, bb⟩ := ST.out _ _ b2.out q3; have b3 := Lib.hid bb; clear bb q3)
    | (go_at_call 11; (with_reducible refine (hand_no _ _ _ _ _ _ _ _ _ _).mono ?_); rintro e w4 ⟨rfl, q4⟩; have b4 := Lib.hid q4; clear q4)
    | (go_at_call 12; (with_reducible refine (arrive_nil _ _).mono ?_); rintro e w5 ⟨rfl, q5⟩; have b5 := Lib.hid q5; clear q5)
    | (go_at_call 14; (with_reducible refine (box_nil _ _).mono ?_); rintro e wq ⟨rfl, rfl⟩)
    | (go_at_call 13; (with_reducible refine (under_nil _).mono ?_); rintro e wq ⟨rfl, rfl⟩)
    | (go_at_call 15; (with_reducible refine (count_nil _ _).mono ?_); rintro e wq ⟨rfl, rfl⟩))
  go_ret
  have e3 := b3.out
  have s3 := e3.size
  have e4 := b4.out
  have s4 := e4.size
  exact ⟨rfl, e3.trans ((e4.mono (by omega)).trans (b5.out.mono (by omega)))⟩
end Go.Proofs.Ytdoghnpmbpomcaa
