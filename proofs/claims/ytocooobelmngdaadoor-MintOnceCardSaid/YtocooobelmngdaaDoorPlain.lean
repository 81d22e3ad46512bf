/- mint.Tries of a purpose, and mint.Plain's closure. -/
import Derived.Test.YtocooobelmngdaaDoorMint
import Derived.Test.YtocooobelmngdaaDoorEnc
import Derived.Laws.BitsAllLaws
namespace Go.Proofs.YtocooobelmngdaaDoor
open Go.RowKit

theorem kindTries (a b : Int) (w : World) : (Instr.field 59 (.agg #[.int .i64 a, .int .i64 b]) 1).run Tryd.prog w = .ok (.int .i64 b) w := by kernel_rfl
theorem kindLife (a b : Int) (w : World) : (Instr.field 59 (.agg #[.int .i64 a, .int .i64 b]) 0).run Tryd.prog w = .ok (.int .i64 a) w := by kernel_rfl
set_option maxHeartbeats 1000000 in
set_option maxRecDepth 100000 in
theorem tries_in (p : Nat) (hp : p < 7) (a b : Int) (h0 : kindsM[p * 2]? = some (.int .i64 a)) (h1 : kindsM[p * 2 + 1]? = some (.int .i64 b)) (w : World) :
    Calls Tryd.prog 18 #[.int .i64 p] w fun e w' => e = .returned (.int .i64 b) ∧ Below w.heap.size w w' := by
  have H := Lib.hid (of_in p hp a b h0 h1)
  have hf := kindTries a b
  clear h0 h1
  go_enter Tryd.func18, Tryd.ntmps18
  go_wp2_with fail
  refine (H.out _).mono ?_
  rintro e w1 ⟨rfl, hb⟩
  go_wp2
  go_ret
  exact ⟨rfl, hb⟩

theorem shl8 (n c : Nat) (hn : n < 72057594037927936) (hc : c < 256) : bits .or .u64 (IntKind.u64.wrap ((n : Int) * 256)) (c : Int) = ((n * 256 + c : Nat) : Int) := by
  have e : IntKind.u64.wrap ((n : Int) * 256) = ((n * 256 : Nat) : Int) := by rw [IntKind.wrap_u64]; omega
  rw [e, u64_or_nat (n * 256) c (by omega) (by omega), nat_join 8 (n * 256) c (by omega) (by omega)]

set_option maxHeartbeats 1000000 in
set_option maxRecDepth 100000 in
theorem plainPut_any (g : Nat) (n c : Nat) (hn : n < 72057594037927936) (hc : c < 256) (w : World) (hg : w.heap[g]? = some (.cells #[.int .u64 n] 51 (0, 0))) :
    Calls Tryd.prog 17 #[.int .u8 c, .pointer (some ⟨g, 0, none⟩)] w fun e w' => e = .returned (.tuple #[]) ∧ w' = w.setCell ⟨g, 0, none⟩ (.int .u64 ((n * 256 + c : Nat) : Int)) := by
  have c1 : w.cell? ⟨g, 0, none⟩ = some (.int .u64 n) := by rw [Lib.cell_of_heap hg]; rfl
  have f1 : w.frozen? ⟨g, 0, none⟩ = false := Lib.frozen_of_heap hg 0
  have HO := Lib.hid (shl8 n c hn hc)
  have Hn := Lib.hid hn
  clear hg hn
  go_enter Tryd.func17, Tryd.ntmps17
  go_wp2_with fail
  rw [HO.out]
  go_end0
  exact ⟨rfl, rfl⟩

/-- The number that eight bytes are. -/
def be8 (l : List UInt8) : Nat := l.foldl (fun n c => n * 256 + c.toNat) 0
theorem be8_snoc (l : List UInt8) (c : UInt8) : be8 (l ++ [c]) = be8 l * 256 + c.toNat := by simp [be8, List.foldl_append]
theorem be8_lt : ∀ l : List UInt8, be8 l < 256 ^ l.length := by
  refine snocInd (by decide) ?_
  intro r c ih
  rw [be8_snoc, List.length_append, List.length_singleton, Nat.pow_succ]
  have := c.toNat_lt
  omega

set_option maxHeartbeats 2000000 in
set_option maxRecDepth 100000 in
theorem plain_token (p : Nat) (hp : 1 ≤ p ∧ p < 7) (hp4 : p ≠ 4) (s : ByteArray) (hs : s.size = 10) (w : World) :
    Calls Tryd.prog 8 #[.int .i64 p, .string s] w fun e w' => e = .returned (.tuple #[.string ⟨(encF s.data.toList).toArray⟩, .bool true]) ∧ Below w.heap.size w w' := by
  obtain ⟨a, b, hb, h0, h1⟩ : ∃ a b, 0 < b ∧ kindsM[p * 2]? = some (.int .i64 a) ∧ kindsM[p * 2 + 1]? = some (.int .i64 b) := by
    have hc : p = 1 ∨ p = 2 ∨ p = 3 ∨ p = 5 ∨ p = 6 := by omega
    rcases hc with rfl | rfl | rfl | rfl | rfl
    · exact ⟨600, 5, by decide, rfl, rfl⟩
    · exact ⟨60, 5, by decide, rfl, rfl⟩
    · exact ⟨120, 5, by decide, rfl, rfl⟩
    · exact ⟨120, 5, by decide, rfl, rfl⟩
    · exact ⟨2000, 5, by decide, rfl, rfl⟩
  have HT := Lib.hid (tries_in p hp.2 a b h0 h1)
  have HK := Lib.hid (token_any s)
  have Hs := Lib.hid hs
  have t1 : (b == 0) = false := by rw [beq_eq_false_iff_ne]; omega
  have t2 : ((s.size : Int) != 10) = false := by rw [hs]; rfl
  have t3 : ((p : Int) != 4) = true := by rw [bne_iff_ne]; omega
  clear h0 h1 hs hb hp hp4
  go_enter Tryd.func8, Tryd.ntmps8
  go_wp2_with fail
  refine (HT.out _).mono ?_
  rintro e w1 ⟨rfl, hb1⟩
  go_wp2_with fail
  refine (HK.out _ Hs.out).mono ?_
  rintro e w2 ⟨rfl, hb2⟩
  go_wp2_with fail
  go_ret2
  have b1 : Below w.heap.size w w1 := Below.trans (below_alloc (Below.refl _ w) _) (hb1.mono (by simp))
  exact ⟨rfl, b1.trans (hb2.mono b1.size)⟩

set_option maxHeartbeats 2000000 in
set_option maxRecDepth 100000 in
theorem plain_code (s : ByteArray) (hs : s.size = 10) (c : ByteArray) (w : World)
    (hcode : ∀ W, Below w.heap.size w W → Calls Tryd.prog 20 #[.int .u64 (be8 (s.data.toList.take 8))] W fun e w' => e = .returned (.string c) ∧ Below W.heap.size W w') :
    Calls Tryd.prog 8 #[.int .i64 4, .string s] w fun e w' => e = .returned (.tuple #[.string c, .bool true]) ∧ Below w.heap.size w w' := by
  have HT := Lib.hid (tries_in 4 (by decide) 30 3 rfl rfl)
  have t2 : ((s.size : Int) != 10) = false := by rw [hs]; rfl
  have h8 : 8 ≤ s.size := by omega
  have HC := Lib.hid hcode
  clear hs hcode
  go_enter Tryd.func8, Tryd.ntmps8
  go_wp2_with fail
  refine (HT.out _).mono ?_
  rintro e w1 ⟨rfl, hb1⟩
  have b1 : Below w.heap.size w w1 := Below.trans (below_alloc (Below.refl _ w) _) (hb1.mono (by simp))
  have g1 : w1.heap[w.heap.size]? = some (.cells #[.int .u64 ((be8 (s.data.toList.take 0) : Nat) : Int)] 51 (0, 0)) := by
    rw [hb1.block _ (by simp)]; exact heap_push1 w _
  have G1 := Lib.hid g1
  clear hb1 g1
  go_wp2_with fail
  go_loopw [8, 24] (fun _ v wr => ∃ k : Nat, k ≤ 8 ∧ v = .int .i64 k ∧ wr.heap[w.heap.size]? = some (.cells #[.int .u64 ((be8 (s.data.toList.take k) : Nat) : Int)] 51 (0, 0)) ∧ Below w.heap.size w wr) (fun _ v _ => 8 - (intOf v).toNat)
  case atStart => exact ⟨0, by omega, rfl, G1.out, b1⟩
  case round =>
    obtain ⟨k, hk, rfl, hg, hbel⟩ := hrel
    have HG := Lib.hid hg
    clear hg b1 G1
    by_cases hlt : k < 8
    · have hks : k < s.size := by omega
      have HS : Hid (be8 (s.data.toList.take (k + 1)) = be8 (s.data.toList.take k) * 256 + s[k].toNat) := by
        show _ = _
        rw [List.take_succ_eq_append_getElem (by rw [Array.length_toList]; exact hks), be8_snoc]; rfl
      have hbl : be8 (s.data.toList.take k) < 256 ^ 7 := by
        refine Nat.lt_of_lt_of_le (be8_lt _) (Nat.pow_le_pow_right (by decide) ?_)
        rw [List.length_take]; omega
      have Hbl := Lib.hid (show be8 (s.data.toList.take k) < 72057594037927936 from hbl)
      clear hbl
      generalize be8 (s.data.toList.take k) = n at *
      go_wp2_with fail
      refine (plainPut_any w.heap.size n s[k].toNat Hbl.out s[k].toNat_lt wr HG.out).mono ?_
      rintro e w' ⟨rfl, rfl⟩
      go_wp2_with fail
      go_roundw
      case rel =>
        refine ⟨k + 1, by omega, by go_num, ?_, below_set hbel _ _ (Nat.le_refl _) _⟩
        rw [HS.out]
        exact heap_set HG.out _
      case measure => simp [intOf]; omega
    · have hk8 : k = 8 := by omega
      subst hk8
      have c1 : wr.cell? ⟨w.heap.size, 0, none⟩ = some (.int .u64 ((be8 (s.data.toList.take 8) : Nat) : Int)) := by rw [Lib.cell_of_heap HG.out]; rfl
      generalize be8 (s.data.toList.take 8) = n at *
      go_wp2_with fail
      refine (HC.out _ hbel).mono ?_
      rintro e w3 ⟨rfl, hb3⟩
      go_wp2_with fail
      go_ret2
      exact ⟨rfl, hbel.trans (hb3.mono hbel.size)⟩
end Go.Proofs.YtocooobelmngdaaDoor
