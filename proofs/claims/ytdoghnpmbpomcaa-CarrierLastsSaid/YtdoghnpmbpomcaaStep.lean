/- A step of a script: its message and its choice, cut. -/
import Derived.Test.YtdoghnpmbpomcaaCarOps
import Derived.Test.YtdoghnpmbpomcaaSort21
import Derived.Test.YtdoghnpmbpomcaaArvP
namespace Go.Proofs.Ytdoghnpmbpomcaa
open Go.RowKit Go.Maps

def cut (s : ByteArray) (n : Nat) : ByteArray := if n < s.size then s.extract 0 n else s
theorem cut_size (s : ByteArray) (n : Nat) : (cut s n).size ≤ n := by
  unfold cut
  split
  · rw [ByteArray.size_extract]; omega
  · omega

set_option maxRecDepth 100000 in
theorem short_any (s : ByteArray) (n : Nat) (hn : n ≤ 1000) (w : World) : Calls Try.prog 16 #[.string s, .int .i64 n] w fun e w' => e = .returned (.string (cut s n)) ∧ w' = w := by
  by_cases h : n < s.size
  · have h' : (n : Int) < s.size := by omega
    have e : cut s n = s.extract 0 n := by simp [cut, h]
    rw [e]
    go_enter Try.func16, Try.ntmps16
    go_wp2_with fail
    go_ret
    exact ⟨rfl, rfl⟩
  · have h' : ¬ ((n : Int) < s.size) := by omega
    have e : cut s n = s := by simp [cut, h]
    rw [e]
    go_enter Try.func16, Try.ntmps16
    go_wp2_with fail
    go_ret
    exact ⟨rfl, rfl⟩

set_option maxHeartbeats 4000000 in
set_option maxRecDepth 100000 in
theorem step_any (id att due kind ticks t2 : Int) (dest body : ByteArray) (dead : Bool) (w : World) :
    Calls Try.prog 10 #[.agg #[.int .u64 id, .string dest, .string body, .int .i64 att, .int .i64 due, .bool dead, .int .i64 kind, .int .i64 ticks, .int .i64 t2, .bool true]] w fun e w' =>
      e = .returned (.tuple #[.agg #[.int .u64 id, .string (cut dest 20), .string (cut body 20), .int .i64 att, .int .i64 due, .bool dead], .agg #[.int .i64 (bits .and .i64 kind 7), .int .i64 (bits .and .i64 ticks 63)]]) ∧ w.grownBy w' none := by
  have S1 : Hid (∀ w : World, Calls Try.prog 16 #[.string dest, .int .i64 20] w fun e w' => e = .returned (.string (cut dest 20)) ∧ w' = w) := Lib.hid (fun w => short_any dest 20 (by omega) w)
  have S2 : Hid (∀ w : World, Calls Try.prog 16 #[.string body, .int .i64 20] w fun e w' => e = .returned (.string (cut body 20)) ∧ w' = w) := Lib.hid (fun w => short_any body 20 (by omega) w)
  go_enter Try.func10, Try.ntmps10
  go_wp2_with (first
    | (go_at_call 16; (with_reducible refine (S1.out _).mono ?_); rintro e w2 ⟨rfl, rfl⟩)
    | (go_at_call 16; (with_reducible refine (S2.out _).mono ?_); rintro e w2 ⟨rfl, rfl⟩))
  go_region
  all_goals
    go_wp2_with fail
    refine bodyPost_ret (v := .tuple #[.agg #[.int .u64 id, .string (cut dest 20), .string (cut body 20), .int .i64 att, .int .i64 due, .bool dead], .agg #[.int .i64 (bits .and .i64 kind 7), .int .i64 (bits .and .i64 ticks 63)]]) ?hr rfl ?hp
    case hp =>
      refine ⟨rfl, ?_⟩
      have g := World.grownBy.trans (World.grownBy.trans (World.grownBy.trans (World.grownBy.trans (World.grownBy_alloc w (.cells #[.int .u64 id, .string dest, .string body, .int .i64 att, .int .i64 due, .bool dead, .int .i64 kind, .int .i64 ticks, .int .i64 t2, .bool true] 32) none) (World.grownBy_alloc _ (.cells #[.int .u64 id, .string (cut dest 20), .string (cut body 20), .int .i64 att, .int .i64 due, .bool dead] 28) none)) (World.grownBy_alloc _ (.cells #[.int .i64 (bits .and .i64 kind 7), .int .i64 (bits .and .i64 ticks 63)] 30) none)) (World.grownBy_alloc _ (.cells #[.int .u64 id, .string (cut dest 20), .string (cut body 20), .int .i64 att, .int .i64 due, .bool dead] 28) none)) (World.grownBy_alloc _ (.cells #[.int .i64 (bits .and .i64 kind 7), .int .i64 (bits .and .i64 ticks 63)] 30) none)
      exact ⟨g.os, g.tape, g.output, g.size, g.block⟩
    case hr => simp [results, Try.f10, go_sem]
end Go.Proofs.Ytdoghnpmbpomcaa
