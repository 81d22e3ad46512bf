/- The chapter's example of law 10, and the walk of MintClock: time never goes back, nor beyond its end. No conditions. -/
import Derived.Test.YtocooobelmngdaaDoorCode0
import Derived.Test.YtocooobelmngdaaDoorWWords
namespace Go.Proofs.YtocooobelmngdaaDoor
open Go.RowKit Go.Proofs.YtocooobelmngdaaDoorW.PrintWords

def zero10 : Array Value := (List.replicate 10 (Value.int .u8 0)).toArray
theorem make10 (w : World) : (Instr.makeSlice 47 (.int .i64 10) (.int .i64 10)).run Tryd.prog w = .ok (.slice (some ⟨w.heap.size, 0, none⟩) 10 10) (w.alloc (.cells zero10 5)) := by kernel_rfl
def zeros : ByteArray := ⟨#[0, 0, 0, 0, 0, 0, 0, 0, 0, 0]⟩
def sixteen : ByteArray := ⟨#[97, 97, 97, 97, 97, 97, 97, 97, 97, 97, 97, 97, 97, 97, 97, 97]⟩
theorem str10 (w : World) : (convert 47 9 (.slice (some ⟨w.heap.size, 0, none⟩) 10 10)).run Tryd.prog (w.alloc (.cells zero10 5)) = .ok (.string zeros) (w.alloc (.cells zero10 5)) := by
  have h : (w.alloc (.cells zero10 5)).ownsRow w.heap.size 5 1 (.slice (some ⟨w.heap.size, 0, none⟩) 10 10) 10 (nums .u8 (List.replicate 10 0)) := own_lit w w.heap.size 5 .u8 (List.replicate 10 0) (Nat.le_refl _) (by simp)
  have e : strOfNums (List.replicate 10 0) = zeros := by decide +kernel
  have := own_string Tryd.underlying47 Tryd.underlying5 Tryd.underlying9 h
  rwa [e] at this
theorem encZeros : (⟨(encF zeros.data.toList).toArray⟩ : ByteArray) = sixteen := by decide +kernel
theorem be8Zeros : be8 (zeros.data.toList.take 8) = 0 := by decide +kernel
theorem plainLogin (w : World) : Calls Tryd.prog 8 #[.int .i64 2, .string zeros] w fun e w' => e = .returned (.tuple #[.string sixteen, .bool true]) ∧ Below w.heap.size w w' := by
  have h := plain_token 2 (by decide) (by decide) zeros rfl w
  rw [encZeros] at h
  exact h
theorem plainCode (w : World) : Calls Tryd.prog 8 #[.int .i64 4, .string zeros] w fun e w' => e = .returned (.tuple #[.string six0, .bool true]) ∧ Below w.heap.size w w' := by
  refine plain_code zeros rfl six0 w ?_
  intro W _
  rw [be8Zeros]
  exact code0 W

set_option maxHeartbeats 1000000 in
set_option maxRecDepth 100000 in
theorem awake_any (w : World) : Calls Tryd.prog 7 #[] w fun e w' => e = .returned (.bool true) ∧ Below w.heap.size w w' := by
  have hmk := make10
  have hst := str10
  have q1 : (sixteen.toList == [97, 97, 97, 97, 97, 97, 97, 97, 97, 97, 97, 97, 97, 97, 97, 97]) = true := by decide +kernel
  have q2 : (six0.toList == [48, 48, 48, 48, 48, 48]) = true := by decide +kernel
  have HP := Lib.hid plainLogin
  have HQ := Lib.hid plainCode
  have HE := Lib.hid (And.intro q1 q2)
  clear q1 q2
  go_enter Tryd.func7, Tryd.ntmps7
  go_wp2_with fail
  have hb0 : Below w.heap.size w (w.alloc (.cells zero10 5)) := below_alloc (Below.refl _ w) _
  generalize w.alloc (.cells zero10 5) = w0 at *
  clear hmk hst
  generalize zeros = z at *
  refine (HP.out w0).mono ?_
  rintro e w1 ⟨rfl, hb1⟩
  have b1 := hb0.trans (hb1.mono hb0.size)
  go_wp2_with fail
  refine (HQ.out w1).mono ?_
  rintro e w2 ⟨rfl, hb2⟩
  have b2 := b1.trans (hb2.mono b1.size)
  obtain ⟨q1, q2⟩ := HE.out
  have q3 : sixteen.toList = [97, 97, 97, 97, 97, 97, 97, 97, 97, 97, 97, 97, 97, 97, 97, 97] := by simpa using q1
  have q4 : six0.toList = [48, 48, 48, 48, 48, 48] := by simpa using q2
  go_wp2_with fail
  go_ret
  exact ⟨rfl, b2⟩

theorem i64_mask (n : Int) (k : Nat) (hk : k ≤ 62) : 0 ≤ bits .and .i64 n ((2 ^ k - 1 : Nat) : Int) ∧ bits .and .i64 n ((2 ^ k - 1 : Nat) : Int) ≤ ((2 ^ k - 1 : Nat) : Int) := by
  have hp : 2 ^ k ≤ 2 ^ 62 := Nat.pow_le_pow_right (by decide) hk
  have h0 : 0 < 2 ^ k := Nat.two_pow_pos k
  show 0 ≤ IntKind.i64.wrap ((BitVec.ofInt 64 n &&& BitVec.ofInt 64 ((2 ^ k - 1 : Nat) : Int)).toNat : Int) ∧ IntKind.i64.wrap ((BitVec.ofInt 64 n &&& BitVec.ofInt 64 ((2 ^ k - 1 : Nat) : Int)).toNat : Int) ≤ _
  rw [BitVec.toNat_and, ofInt_u64 (2 ^ k - 1) (by omega)]
  have h1 : (BitVec.ofInt 64 n).toNat &&& (2 ^ k - 1) ≤ 2 ^ k - 1 := Nat.and_le_right
  generalize (BitVec.ofInt 64 n).toNat &&& (2 ^ k - 1) = y at *
  generalize 2 ^ k = q at *
  rw [IntWalk.i64_in _ (by omega)]
  omega

theorem clk_pos (n t : Int) (hn : 0 ≤ n) (ht : 0 ≤ t) : 0 ≤ clk n t ∧ clk n t ≤ 1099511627776 ∧ (n ≤ clk n t ∨ 1099511627776 < n) := by
  unfold clk
  rw [if_neg (by omega)]
  omega
theorem clk_add (n x y : Int) (hn : 0 ≤ n) (hx : 0 ≤ x) (hy : 0 ≤ y) : clk (clk n x) y = clk n (x + y) := by
  have h := clk_pos n x hn hx
  rw [show clk (clk n x) y = if clk n x < 0 ∨ y < 0 then 0 else min (min (clk n x) 1099511627776 + min y 1099511627776) 1099511627776 from rfl, if_neg (by omega)]
  unfold clk
  rw [if_neg (by omega), if_neg (by omega)]
  omega
theorem clk_neg (n t : Int) (h : n < 0 ∨ t < 0) : clk n t = 0 := by
  unfold clk
  rw [if_pos h]

set_option maxHeartbeats 4000000 in
set_option maxRecDepth 100000 in
theorem law_walk (n a b : Int) (w : World) :
    Calls Tryd.prog 4 #[.int .i64 n, .int .i64 a, .int .i64 b] w fun e w' => e = .returned (.bool true) ∧ Below w.heap.size w w' := by
  have mx := i64_mask n 62 (by decide)
  have my := i64_mask a 61 (by decide)
  have mz := i64_mask b 61 (by decide)
  rw [show ((2 ^ 62 - 1 : Nat) : Int) = 4611686018427387903 from rfl] at mx
  rw [show ((2 ^ 61 - 1 : Nat) : Int) = 2305843009213693951 from rfl] at my mz
  obtain ⟨N, hN⟩ : ∃ N, bits .and .i64 n 4611686018427387903 = N := ⟨_, rfl⟩
  obtain ⟨X, hX⟩ : ∃ X, bits .and .i64 a 2305843009213693951 = X := ⟨_, rfl⟩
  obtain ⟨Y, hY⟩ : ∃ Y, bits .and .i64 b 2305843009213693951 = Y := ⟨_, rfl⟩
  rw [hN] at mx
  rw [hX] at my
  rw [hY] at mz
  obtain ⟨n0, n1⟩ := mx
  obtain ⟨x0, x1⟩ := my
  obtain ⟨y0, y1⟩ := mz
  have hp := clk_pos N X n0 x0
  have C1 := Lib.hid (fun W => clock_any N X W)
  have C2 := Lib.hid (fun W => clock_any (clk N X) Y W)
  have C3 := Lib.hid (fun W => clock_any N (X + Y) W)
  have C4 := Lib.hid (fun W => clock_any (-1 - N) X W)
  have C5 := Lib.hid (fun W => clock_any N (-1 - X) W)
  rw [clk_add N X Y n0 x0 y0] at C2
  rw [clk_neg (-1 - N) X (by omega)] at C4
  rw [clk_neg N (-1 - X) (by omega)] at C5
  obtain ⟨T, hT⟩ : ∃ T, clk N X = T := ⟨_, rfl⟩
  rw [hT] at C1 C2 hp
  obtain ⟨p0, p1, p2⟩ := hp
  generalize clk N (X + Y) = U at *
  clear hT
  go_enter Tryd.func4, Tryd.ntmps4
  go_wp2_with fail
  refine (awake_any w).mono ?_
  rintro e w1 ⟨rfl, hb1⟩
  go_wp2_with fail
  refine (C1.out _).mono ?_
  rintro e w' ⟨rfl, rfl⟩
  rcases p2 with p2 | p2
  all_goals
    go_wp2_with fail
    refine (C2.out _).mono ?_
    rintro e w' ⟨rfl, rfl⟩
    go_wp2_with fail
    refine (C3.out _).mono ?_
    rintro e w' ⟨rfl, rfl⟩
    go_wp2_with fail
    refine (C4.out _).mono ?_
    rintro e w' ⟨rfl, rfl⟩
    go_wp2_with fail
    refine (C5.out _).mono ?_
    rintro e w' ⟨rfl, rfl⟩
    go_wp2_with fail
    go_ret
    exact ⟨rfl, hb1⟩
end Go.Proofs.YtocooobelmngdaaDoor
