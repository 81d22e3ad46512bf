/- (*Carrier).Hand. -/
import Derived.Test.YtdoghnpmbpomcaaIns2
import Derived.Test.YtdoghnpmbpomcaaArr
namespace Go.Proofs.Ytdoghnpmbpomcaa
open Go.RowKit Go.Maps

def posN (us : List Ltr) (tm : Int) : Nat → Nat
  | 0 => 0
  | n + 1 => if lastTm us n ≤ tm then n + 1 else posN us tm n
theorem posN_le (us : List Ltr) (tm : Int) : ∀ n, posN us tm n ≤ n
  | 0 => Nat.le_refl _
  | n + 1 => by unfold posN; split; exact Nat.le_refl _; exact Nat.le_succ_of_le (posN_le us tm n)
theorem posN_above (us : List Ltr) (tm : Int) : ∀ n j, posN us tm n ≤ j → j < n → tm < lastTm us j
  | 0, j, _, h => by omega
  | n + 1, j, h1, h2 => by
    unfold posN at h1
    split at h1
    · omega
    · rename_i hn
      by_cases hj : j = n
      · subst hj; omega
      · exact posN_above us tm n j h1 (by omega)
theorem posN_at (us : List Ltr) (tm : Int) : ∀ n, 0 < posN us tm n → lastTm us (posN us tm n - 1) ≤ tm
  | 0, h => by simp [posN] at h
  | n + 1, h => by
    unfold posN at h ⊢
    split
    · rename_i hn; exact hn
    · rename_i hn
      rw [if_neg hn] at h
      exact posN_at us tm n h
def ins (us : List Ltr) (l : Ltr) : List Ltr := us.take (posN us l.tm us.length) ++ l :: us.drop (posN us l.tm us.length)
theorem ins_len (us : List Ltr) (l : Ltr) : (ins us l).length = us.length + 1 := by
  have := posN_le us l.tm us.length
  simp [ins]
  omega

theorem sends_all {h N : Nat} {S : Nat → Prop} {us : List Ltr} {G : ByteArray → List Ltr} {C : Nat → Nat} {w : World} (c : Car h S N us G C w) (l : Ltr) (att due : Int) (dead : Bool)
    (hlen : us.length ≤ 1000000) (hN : N ≤ 1000000) (hC : C l.id ≤ 1000000) (hid : l.id < 2 ^ 64) :
    Calls Try.prog 25 #[.pointer (some ⟨h + 1 + 1, 0, none⟩), .agg #[.int .u64 l.id, .string l.dest, .string l.body, .int .i64 att, .int .i64 due, .bool dead], .int .i64 l.tm] w fun e w' =>
      e = .returned (.tuple #[]) ∧ ∃ S', Car h S' (N + 1) (ins us l) G (up C l.id) w' ∧ Turn h S S' w w' :=
  sends_any h N S us G C l.id l.dest l.body att due dead l.tm (posN us l.tm us.length) w c (posN_le _ _ _) (posN_above us l.tm us.length) (posN_at us l.tm us.length) hlen hN hC hid (insAt_any _ _ _ (posN_le _ _ _) hlen)

def hTaken (k : Int) : Bool := k == 1 || k == 3 || k == 4
def hUs (us : List Ltr) (id : Nat) (dest body : ByteArray) (k now ticks : Int) : List Ltr :=
  if k = 1 then ins us ⟨id, dest, body, now⟩ else if k = 3 then ins us ⟨id, dest, body, clk now ticks⟩ else if k = 4 then ins (ins us ⟨id, dest, body, now⟩) ⟨id, dest, body, clk now ticks⟩ else us
def hC (C : Nat → Nat) (id : Nat) (k : Int) : Nat → Nat := if k = 1 then up C id else if k = 3 then up C id else if k = 4 then up (up C id) id else C

theorem six_all {w : World} {b : Nat} {x y z u v s : Value} {t : TypeId} (h : w.heap[b]? = some (.cells #[x, y, z, u, v, s] t (0, 0))) : w.cell? ⟨b, 0, none⟩ = some x ∧ w.cell? ⟨b, 1, none⟩ = some y ∧ w.cell? ⟨b, 2, none⟩ = some z ∧ w.cell? ⟨b, 3, none⟩ = some u ∧ w.cell? ⟨b, 4, none⟩ = some v ∧ w.cell? ⟨b, 5, none⟩ = some s := by
  refine ⟨?_, ?_, ?_, ?_, ?_, ?_⟩ <;> rw [Lib.cell_of_heap h] <;> rfl

set_option maxRecDepth 100000 in
theorem hand_no (id k d att due : Int) (dest body : ByteArray) (dead : Bool) (t : Int) (w : World) : Calls Try.prog 11 #[.pointer none, .agg #[.int .u64 id, .string dest, .string body, .int .i64 att, .int .i64 due, .bool dead], .agg #[.int .i64 k, .int .i64 d], .int .i64 t] w fun e w' => e = .returned (.bool false) ∧ Below w.heap.size w w' := by
  go_enter Try.func11, Try.ntmps11
  go_wp2_with fail
  go_ret
  exact ⟨rfl, below_alloc (below_alloc (Below.refl _ w) _) _⟩

theorem map_not_nil (h : Nat) (w : World) : (binOp .eql 59 (.map (some h)) (.map none)).run Try.prog w = .ok (.bool false) w := by kernel_rfl

set_option maxHeartbeats 4000000 in
set_option maxRecDepth 100000 in
theorem hand_any {h N : Nat} {S : Nat → Prop} {us : List Ltr} {G : ByteArray → List Ltr} {C : Nat → Nat} {w : World} (c : Car h S N us G C w) (id : Nat) (dest body : ByteArray) (att due k ticks now : Int) (dead : Bool)
    (hlen : us.length ≤ 999999) (hN : N ≤ 999999) (hCi : C id ≤ 999999) (hid : id < 2 ^ 64) :
    Calls Try.prog 11 #[.pointer (some ⟨h + 1 + 1, 0, none⟩), .agg #[.int .u64 id, .string dest, .string body, .int .i64 att, .int .i64 due, .bool dead], .agg #[.int .i64 k, .int .i64 ticks], .int .i64 now] w fun e w' =>
      e = .returned (.bool (hTaken k)) ∧ ∃ S', Car h S' (N + 2) (hUs us id dest body k now ticks) G (hC C id k) w' ∧ Turn h S S' w w' := by
  have hsz := c.size
  have hS := c.rows
  have hnn := map_not_nil h
  generalize ho1 : Obj.cells #[.int .u64 id, .string dest, .string body, .int .i64 att, .int .i64 due, .bool dead] 28 (0, 0) = o1
  generalize ho2 : Obj.cells #[.int .i64 k, .int .i64 ticks] 30 (0, 0) = o2
  have gg : w.grownBy ((w.alloc o1).alloc o2) none := World.grownBy.trans (World.grownBy_alloc _ _ _) (World.grownBy_alloc _ _ _)
  have c1 : Car h S N us G C ((w.alloc o1).alloc o2) := c.keeps gg (by simp)
  have t1 : Turn h S S w ((w.alloc o1).alloc o2) := ⟨rfl, rfl, rfl, gg.size, fun k hk _ _ => gg.block k hk (by simp), fun _ hk => .inl hk⟩
  have b1 : ((w.alloc o1).alloc o2).heap[w.heap.size]? = some o1 := heap_keep (heap_push1 w _) _
  obtain ⟨a, cap, st, _⟩ := c1.slot
  have x1 := (three_cells st).2.1
  subst ho1
  subst ho2
  clear c
  by_cases hk1 : k = 1
  · subst hk1
    have A1 := Lib.hid (sends_all c1 ⟨id, dest, body, now⟩ att due dead (by omega) (by omega) (by show C id ≤ _; omega) hid)
    simp only at A1
    clear c1 st
    go_enter Try.func11, Try.ntmps11
    go_wp2_with (first
      | (go_at_call 24; (with_reducible refine (clock_any _ _ _).mono ?_); rintro e wq ⟨rfl, rfl⟩)
      | (go_at_call 25; (with_reducible refine (A1.out).mono ?_); rintro e w2 ⟨rfl, S2, c2, t2⟩))
    go_ret
    exact ⟨rfl, S2, c2.count (by omega), t1.trans t2⟩
  · by_cases hk3 : k = 3
    · subst hk3
      have A1 := Lib.hid (sends_all c1 ⟨id, dest, body, clk now ticks⟩ att due dead (by omega) (by omega) (by show C id ≤ _; omega) hid)
      simp only at A1
      clear c1 st hk1
      go_enter Try.func11, Try.ntmps11
      go_wp2_with (first
        | (go_at_call 24; (with_reducible refine (clock_any _ _ _).mono ?_); rintro e wq ⟨rfl, rfl⟩)
        | (go_at_call 25; (with_reducible refine (A1.out).mono ?_); rintro e w2 ⟨rfl, S2, c2, t2⟩))
      go_ret
      exact ⟨rfl, S2, c2.count (by omega), t1.trans t2⟩
    · by_cases hk4 : k = 4
      · subst hk4
        have A1 : Hid (Calls Try.prog 25 #[.pointer (some ⟨h + 1 + 1, 0, none⟩), .agg #[.int .u64 id, .string dest, .string body, .int .i64 att, .int .i64 due, .bool dead], .int .i64 now] ((w.alloc (.cells #[.int .u64 id, .string dest, .string body, .int .i64 att, .int .i64 due, .bool dead] 28)).alloc (.cells #[.int .i64 4, .int .i64 ticks] 30)) fun e w2 => e = .returned (.tuple #[]) ∧
            w2.cell? ⟨w.heap.size, 0, none⟩ = some (.int .u64 id) ∧ w2.cell? ⟨w.heap.size, 1, none⟩ = some (.string dest) ∧ w2.cell? ⟨w.heap.size, 2, none⟩ = some (.string body) ∧ w2.cell? ⟨w.heap.size, 3, none⟩ = some (.int .i64 att) ∧ w2.cell? ⟨w.heap.size, 4, none⟩ = some (.int .i64 due) ∧ w2.cell? ⟨w.heap.size, 5, none⟩ = some (.bool dead) ∧
            Calls Try.prog 25 #[.pointer (some ⟨h + 1 + 1, 0, none⟩), .agg #[.int .u64 id, .string dest, .string body, .int .i64 att, .int .i64 due, .bool dead], .int .i64 (clk now ticks)] w2 fun e w3 => e = .returned (.tuple #[]) ∧
              ∃ S', Car h S' (N + 2) (hUs us id dest body 4 now ticks) G (hC C id 4) w3 ∧ Turn h S S' w w3) := by
          refine Lib.hid ((sends_all c1 ⟨id, dest, body, now⟩ att due dead (by omega) (by omega) (by show C id ≤ _; omega) hid).mono ?_)
          rintro e w2 ⟨rfl, S2, c2, t2⟩
          have b2 : w2.heap[w.heap.size]? = _ := (t2.block _ (by simp; omega) (by omega) (fun hs => by have := (hS _ hs).2; omega)).trans b1
          obtain ⟨q0, q1, q2, q3, q4, q5⟩ := six_all b2
          refine ⟨rfl, q0, q1, q2, q3, q4, q5, ?_⟩
          refine (sends_all c2 ⟨id, dest, body, clk now ticks⟩ att due dead (by rw [ins_len]; omega) (by omega) (by show up C id id ≤ _; simp [up]; omega) hid).mono ?_
          rintro e w3 ⟨rfl, S3, c3, t3⟩
          exact ⟨rfl, S3, c3, (t1.trans t2).trans t3⟩
        clear c1 st hk1 hk3
        go_enter Try.func11, Try.ntmps11
        go_wp2_with (first
          | (go_at_call 24; (with_reducible refine (clock_any _ _ _).mono ?_); rintro e wq ⟨rfl, rfl⟩)
          | (go_at_call 25; (with_reducible refine (A1.out).mono ?_); rintro e w2 ⟨rfl, q0, q1, q2, q3, q4, q5, A2⟩; have A3 := Lib.hid A2; clear A2)
          | (go_at_call 25; (with_reducible refine (A3.out).mono ?_); rintro e w3 ⟨rfl, hfin⟩))
        go_ret
        exact ⟨rfl, hfin⟩
      · have C1 := Lib.hid c1
        clear c1
        have hne1 : ¬ (1 = k) := fun e => hk1 e.symm
        have hno : hTaken k = false := by simp [hTaken, hk1, hk3, hk4]
        have hu : hUs us id dest body k now ticks = us := by simp [hUs, hk1, hk3, hk4]
        have hcc : hC C id k = C := by simp [hC, hk1, hk3, hk4]
        rw [hno, hu, hcc]
        clear hno hu hcc
        go_enter Try.func11, Try.ntmps11
        go_wp2_with (first
          | (go_at_call 24; (with_reducible refine (clock_any _ _ _).mono ?_); rintro e wq ⟨rfl, rfl⟩))
        go_ret
        exact ⟨rfl, S, C1.out.count (by omega), t1⟩
end Go.Proofs.Ytdoghnpmbpomcaa
