/- The chapter's example: awake. -/
import Derived.Test.YtdoghnpmbpomcaaHand
namespace Go.Proofs.Ytdoghnpmbpomcaa
open Go.RowKit Go.Maps

theorem bare_fits (D : DataW Value) (hD : D = .map []) : D.atKey (.int .u64 0) (.lit (.int .i64 0)) = .lit (.int .i64 0) := by subst hD; rfl
theorem atKey_bare (k : Lit) (z : DataW Value) : (DataW.map ([] : List (Lit × DataW Value))).atKey k z = z := by rfl

/-- A new carrier. -/
theorem new_car (w : World) : Calls Try.prog 9 #[] w fun e w' => e = .returned (.pointer (some ⟨w.heap.size + 1 + 1, 0, none⟩)) ∧
    Car w.heap.size (fun _ => False) 0 [] (fun _ => []) (fun _ => 0) w' ∧ Below w.heap.size w w' := by
  refine (new_any w).mono ?_
  rintro e w' ⟨rfl, rfl⟩
  refine ⟨rfl, ⟨.slice none 0 0, fun _ => .slice none 0 0, .map [], .map [], ?_, World.ownsRow_nil _ _ _ _, fun _ => World.ownsRow_nil _ _ _ _, fun _ _ _ => .inl rfl, fun _ => .inl rfl, fun g hg => by simp [Value.ownBlock] at hg, fun _ g hg => by simp [Value.ownBlock] at hg, ?_, fun _ _ => atKey_bare _ _, ?_, fun _ _ => atKey_bare _ _, fun _ hf => hf.elim⟩, ?_⟩
  · have e := heap_push1 ((w.alloc (.map #[] 0)).alloc (.map #[] 0)) (.cells #[.slice none 0 0, .map (some w.heap.size), .map (some (w.heap.size + 1))] 62)
    rwa [show ((w.alloc (.map #[] 0)).alloc (.map #[] 0)).heap.size = w.heap.size + 1 + 1 by simp] at e
  · exact ((World.ownsMap_made w Try.prog 9 heldAs).alloc _).alloc _
  · have e := (World.ownsMap_made (w.alloc (.map #[] 0)) Try.prog 26 (plainElem (H := Value) Try.prog 3)).alloc (.cells #[.slice none 0 0, .map (some w.heap.size), .map (some (w.heap.size + 1))] 62)
    rwa [show (w.alloc (.map #[] 0)).heap.size = w.heap.size + 1 by simp] at e
  · exact below_alloc (below_alloc (below_alloc (Below.refl _ w) _) _) _

theorem Turn.below {h : Nat} {S S' : Nat → Prop} {w w' : World} (t : Turn h S S' w w') (hS : ∀ k, S k → h ≤ k) (hh : h ≤ w.heap.size) : Below h w w' :=
  ⟨t.os, t.tape, t.output, t.size, fun k hk => t.block k (by omega) (by omega) (fun hs => by have := hS k hs; omega)⟩

def abcd : ByteArray := ⟨#[97, 64, 98, 46, 99, 100]⟩
def xx : ByteArray := ⟨#[120]⟩
def l3 : Ltr := ⟨1, abcd, xx, 3⟩
def l8 : Ltr := ⟨1, abcd, xx, 8⟩

set_option maxHeartbeats 4000000 in
set_option maxRecDepth 100000 in
theorem awake_any (w : World) : Calls Try.prog 8 #[] w fun e w' => e = .returned (.bool true) ∧ Below w.heap.size w w' := by
  have N0 := Lib.hid (new_car w)
  have H0 : Hid (∀ w1 : World, Car w.heap.size (fun _ => False) 0 [] (fun _ => []) (fun _ => 0) w1 → Calls Try.prog 11 #[.pointer (some ⟨w.heap.size + 1 + 1, 0, none⟩), .agg #[.int .u64 1, .string ⟨#[97, 64, 98, 46, 99, 100]⟩, .string ⟨#[120]⟩, .int .i64 0, .int .i64 0, .bool false], .agg #[.int .i64 4, .int .i64 5], .int .i64 3] w1 fun e w2 =>
      e = .returned (.bool true) ∧ Below w.heap.size w1 w2 ∧ ∃ S', Car w.heap.size S' 2 [l3, l8] (fun _ => []) (hC (fun _ => 0) 1 4) w2) := by
    refine Lib.hid fun w1 c => ?_
    refine (hand_any c 1 abcd xx 0 0 4 5 3 false (by simp) (by omega) (by simp) (by omega)).mono ?_
    rintro e w2 ⟨rfl, S2, c2, t2⟩
    refine ⟨rfl, t2.below (fun _ hf => hf.elim) (by have := c.size; omega), S2, ?_⟩
    have e1 : hUs [] 1 abcd xx 4 3 5 = [l3, l8] := by rfl
    rw [e1] at c2
    exact c2
  have R1 : Hid (∀ (w1 : World) (S : Nat → Prop) (C : Nat → Nat), Car w.heap.size S 2 [l3, l8] (fun _ => []) C w1 → Calls Try.prog 12 #[.pointer (some ⟨w.heap.size + 1 + 1, 0, none⟩), .int .i64 3] w1 fun e w2 =>
      e = .returned (.int .i64 1) ∧ Below w.heap.size w1 w2 ∧ ∃ S', Car w.heap.size S' 3 [l8] (landed (fun _ => []) [l3]) C w2) := by
    refine Lib.hid fun w1 S C c => ?_
    refine (arrive_any 3 1 w1 c (by simp) (fun j hj => by rw [show j = 0 by omega]; decide) (fun _ => by decide) (by simp) (fun _ => by simp) (fun l hl => by simp at hl; rcases hl with rfl | rfl <;> decide)).mono ?_
    rintro e w2 ⟨rfl, S2, c2, t2⟩
    exact ⟨rfl, t2.below (fun k hk => by have := (c.rows k hk).1; omega) (by have := c.size; omega), S2, c2⟩
  have R2 : Hid (∀ (w1 : World) (S : Nat → Prop) (C : Nat → Nat), Car w.heap.size S 3 [l8] (landed (fun _ => []) [l3]) C w1 → Calls Try.prog 12 #[.pointer (some ⟨w.heap.size + 1 + 1, 0, none⟩), .int .i64 7] w1 fun e w2 =>
      e = .returned (.int .i64 0) ∧ Below w.heap.size w1 w2 ∧ ∃ S', Car w.heap.size S' 3 [l8] (landed (fun _ => []) [l3]) C w2) := by
    refine Lib.hid fun w1 S C c => ?_
    refine (arrive_any 7 0 w1 c (by simp) (fun j hj => by omega) (fun _ => by decide) (by simp) (fun s => by have := landed_len s [l3] (fun _ => []); simp at *; omega) (fun l hl => by simp at hl; rcases hl with rfl; decide)).mono ?_
    rintro e w2 ⟨rfl, S2, c2, t2⟩
    exact ⟨rfl, t2.below (fun k hk => by have := (c.rows k hk).1; omega) (by have := c.size; omega), S2, c2⟩
  have R3 : Hid (∀ (w1 : World) (S : Nat → Prop) (C : Nat → Nat), Car w.heap.size S 3 [l8] (landed (fun _ => []) [l3]) C w1 → Calls Try.prog 12 #[.pointer (some ⟨w.heap.size + 1 + 1, 0, none⟩), .int .i64 8] w1 fun e w2 =>
      e = .returned (.int .i64 1) ∧ Below w.heap.size w1 w2) := by
    refine Lib.hid fun w1 S C c => ?_
    refine (arrive_any 8 1 w1 c (by simp) (fun j hj => by rw [show j = 0 by omega]; decide) (fun hx => by simp at hx) (by simp) (fun s => by have := landed_len s [l3] (fun _ => []); simp at *; omega) (fun l hl => by simp at hl; rcases hl with rfl; decide)).mono ?_
    rintro e w2 ⟨rfl, S2, c2, t2⟩
    exact ⟨rfl, t2.below (fun k hk => by have := (c.rows k hk).1; omega) (by have := c.size; omega)⟩
  go_enter Try.func8, Try.ntmps8
  go_wp2_with (first
    | (go_at_call 9; (with_reducible refine (N0.out).mono ?_); rintro e w1 ⟨rfl, k1, q1⟩; have c1 := Lib.hid k1; have b1 := Lib.hid q1; clear k1 q1)
    | (go_at_call 11; (with_reducible refine (H0.out _ c1.out).mono ?_); rintro e w2 ⟨rfl, q2, S2, k2⟩; have c2 := Lib.hid k2; have b2 := Lib.hid q2; clear k2 q2)
    | (go_at_call 12; (with_reducible refine (R1.out _ _ _ c2.out).mono ?_); rintro e w3 ⟨rfl, q3, S3, k3⟩; have c3 := Lib.hid k3; have b3 := Lib.hid q3; clear k3 q3)
    | (go_at_call 12; (with_reducible refine (R2.out _ _ _ c3.out).mono ?_); rintro e w4 ⟨rfl, q4, S4, k4⟩; have c4 := Lib.hid k4; have b4 := Lib.hid q4; clear k4 q4)
    | (go_at_call 12; (with_reducible refine (R3.out _ _ _ c4.out).mono ?_); rintro e w5 ⟨rfl, q5⟩; have b5 := Lib.hid q5; clear q5))
  go_ret
  exact ⟨rfl, b1.out.trans (b2.out.trans (b3.out.trans (b4.out.trans b5.out)))⟩
end Go.Proofs.Ytdoghnpmbpomcaa
