/- pack.Writer's methods at a writer that was made by the call and stands alone in its block: the bytes that it holds before and behind each call. Conditions: fewer than 2^47 bytes. -/
import Derived.Test.YtnapeogbpjaigaaBld
import Derived.Laws.BitsAllLaws
namespace Go.Proofs.Ytnapeogbpjaigaa
open Go.RowKit

/-- A number's bytes: seven bits each, the least first. -/
def vint (n : Nat) : List UInt8 := if h : n < 128 then [n.toUInt8] else (128 + n % 128).toUInt8 :: vint (n / 128)
termination_by n
decreasing_by omega

theorem vint_lo (m : Nat) (h : m < 128) : vint m = [m.toUInt8] := by rw [vint, dif_pos h]
theorem vint_hi (m : Nat) (h : ¬ m < 128) : vint m = (128 + m % 128).toUInt8 :: vint (m / 128) := by rw [vint, dif_neg h]
theorem vint_len (k : Nat) : ∀ n, n < 128 ^ (k + 1) → (vint n).length ≤ k + 1 := by
  induction k with
  | zero => intro n h; rw [vint_lo n (by simpa using h)]; simp
  | succ k ih =>
    intro n h
    by_cases hl : n < 128
    · rw [vint_lo n hl]; simp
    · rw [vint_hi n hl]
      have := ih (n / 128) (by rw [Nat.div_lt_iff_lt_mul (by decide)]; rw [Nat.pow_succ] at h; exact h)
      simp; omega
theorem vint_len64 (n : Nat) (h : n < 18446744073709551616) : (vint n).length ≤ 10 := vint_len 9 n (Nat.lt_trans h (by decide))
theorem byte_lo (m : Nat) (h : m < 128) : Value.int .u8 (m : Int) = .int .u8 (m.toUInt8.toNat : Int) := by
  have : m.toUInt8.toNat = m := by simp; omega
  rw [this]
theorem byte_hi (m : Nat) (h : m < 18446744073709551616) : Value.int .u8 (bits .or .u64 (bits .and .u64 (m : Int) 127) 128 % 256) = .int .u8 ((128 + m % 128).toUInt8.toNat : Int) := by
  have e1 := u64_and_nat m 127 h (by omega)
  have e2 := u64_or_nat (m &&& 127) 128 (Nat.lt_of_le_of_lt Nat.and_le_left h) (by omega)
  have e3 : ((m &&& 127) ||| 128) = 128 + m % 128 := by
    rw [nat_mask7, Nat.or_comm, nat_join 7 128 (m % 128) (by decide) (Nat.mod_lt _ (by decide))]
  rw [e3] at e2
  have e4 : (128 + m % 128).toUInt8.toNat = 128 + m % 128 := by simp; omega
  rw [show (127 : Int) = ((127 : Nat) : Int) from rfl, e1, show (128 : Int) = ((128 : Nat) : Int) from rfl, e2, e4]
  congr 1; omega

set_option maxHeartbeats 1000000 in
set_option maxRecDepth 100000 in
theorem num_any (T : TypeId) (hT : BldT T) (B b : Nat) (l : List UInt8) (n : Nat) (w : World) (h : Bld T B b (Lib.byteCells l) w) (hn : n < 18446744073709551616) (hlen : l.length + 20 ≤ 140737488355328) (hBw : B ≤ w.heap.size) :
    Calls Try.prog 29 #[.pointer (some ⟨b, 0, none⟩), .int .u64 n] w fun e w' => e = .returned (.tuple #[]) ∧ (Bld T B b (Lib.byteCells (l ++ vint n)) w' ∧ Below B w w' ∧ Lib.OthersKept 5 (some b) w w') := by
  have Hn := Lib.hid hn
  have Hlen := Lib.hid hlen
  clear hn hlen
  go_enter Try.func29, Try.ntmps29
  go_wp2_with fail
  go_loopw [1] (fun v wr => ∃ (m : Nat) (l' : List UInt8), m ≤ n ∧ v = .int .u64 m ∧ l' ++ vint m = l ++ vint n ∧ Bld T B b (Lib.byteCells l') wr ∧ Below B w wr ∧ Lib.OthersKept 5 (some b) w wr) (fun v _ => (intOf v).toNat)
  case atStart => exact ⟨n, l, Nat.le_refl _, rfl, rfl, h, Below.refl _ _, Lib.OthersKept.refl _ _ _⟩
  case round =>
    obtain ⟨m, l', hm, rfl, hl, hb, hbel, hk⟩ := hrel
    have hll : l'.length ≤ l.length + 10 := by
      have h1 := congrArg List.length hl
      have h2 := vint_len64 n Hn.out
      simp at h1; omega
    have Hl := Lib.hid hl
    clear hl
    have Hb := byte_hi m (Nat.lt_of_le_of_lt hm Hn.out)
    have HB := Lib.hid Hb
    clear Hb
    by_cases hlt : m < 128
    · have Hv := Lib.hid (vint_lo m hlt)
      have Hc := Lib.hid (byte_lo m hlt)
      go_wp2_with fail
      rw [Hc.out]
      refine (writeByte_any T hT B b _ _ wr hb (by have := Hlen.out; rw [Lib.byteCells_length]; omega) (by have := hbel.size; omega)).mono ?_
      rintro e w1 ⟨rfl, hb1, hbel1, hk1⟩
      go_wp2_with fail
      go_end0
      refine ⟨rfl, ?_, hbel.trans hbel1, hk.trans hk1⟩
      rw [← Hl.out, Hv.out, Lib.byteCells_append]
      exact hb1
    · have Hv := Lib.hid (vint_hi m hlt)
      go_wp2_with fail
      rw [HB.out]
      refine (writeByte_any T hT B b _ _ wr hb (by have := Hlen.out; rw [Lib.byteCells_length]; omega) (by have := hbel.size; omega)).mono ?_
      rintro e w1 ⟨rfl, hb1, hbel1, hk1⟩
      go_wp2_with fail
      go_roundw
      case rel =>
        refine ⟨m / 128, l' ++ [(128 + m % 128).toUInt8], by omega, by go_num, ?_, ?_, hbel.trans hbel1, hk.trans hk1⟩
        · rw [← Hl.out, Hv.out]; simp
        · rw [Lib.byteCells_append]; exact hb1
      case measure => simp [intOf]; omega

theorem vint_all (xs : List Nat) (hx : ∀ x ∈ xs, x < 18446744073709551616) : (xs.flatMap vint).length ≤ 10 * xs.length := by
  induction xs with
  | nil => simp
  | cons x r ih =>
    have hm : x ∈ x :: r := List.mem_cons_self ..
    have h1 := vint_len64 x (hx x hm)
    have h2 := ih (fun y hy => hx y (List.mem_cons_of_mem _ hy))
    rw [List.flatMap_cons, List.length_append, List.length_cons]; omega

set_option maxHeartbeats 1000000 in
set_option maxRecDepth 100000 in
theorem Num_any (T : TypeId) (hT : BldT T) (B b : Nat) (l : List UInt8) (xs : List Nat) (g off cap : Nat) (cur : Array Value) (Tg : TypeId) (fz : Nat × Nat) (w : World) (h : Bld T B b (Lib.byteCells l) w)
    (hg : w.heap[g]? = some (.cells cur Tg fz)) (hTg : Tg ≠ 5) (hgb : g ≠ b) (hc : ∀ (i : Nat) x, xs[i]? = some x → cur[off + i]? = some (.int .u64 x)) (hx : ∀ x ∈ xs, x < 18446744073709551616) (hlen : l.length + 20 * xs.length ≤ 140737488355328) (hBw : B ≤ w.heap.size) :
    Calls Try.prog 20 #[.pointer (some ⟨b, 0, none⟩), .slice (some ⟨g, off, none⟩) xs.length cap] w fun e w' => e = .returned (.pointer (some ⟨b, 0, none⟩)) ∧ (Bld T B b (Lib.byteCells (l ++ xs.flatMap vint)) w' ∧ Below B w w' ∧ Lib.OthersKept 5 (some b) w w') := by
  have Hx := Lib.hid hx
  have Hlen := Lib.hid hlen
  have Hc := Lib.hid hc
  have Hg := Lib.hid hg
  have hm : (xs.length : Int) ≤ 9223372036854775807 := by omega
  clear hx hlen hc hg
  go_enter Try.func20, Try.ntmps20
  go_wp2_with fail
  go_loopw [6, 11] (fun _ v wr => ∃ (k : Nat), k ≤ xs.length ∧ v = .int .i64 k ∧ Bld T B b (Lib.byteCells (l ++ (xs.take k).flatMap vint)) wr ∧ Below B w wr ∧ Lib.OthersKept 5 (some b) w wr) (fun _ v _ => xs.length - (intOf v).toNat)
  case atStart => exact ⟨0, Nat.zero_le _, rfl, by simpa using h, Below.refl _ _, Lib.OthersKept.refl _ _ _⟩
  case round =>
    obtain ⟨k, hkl, rfl, hb, hbel, hk⟩ := hrel
    have Hll := Lib.hid (vint_all (xs.take k) (fun x hxk => Hx.out x (List.mem_of_mem_take hxk)))
    by_cases hlt : k < xs.length
    · have hcell : wr.cell? ⟨g, off + k, none⟩ = some (.int .u64 xs[k]) := by
        have h1 := hk g _ Hg.out (fun e => hgb (Option.some.inj e)) (fun c fz' e => hTg (by injection e))
        rw [Lib.cell_of_heap h1]
        exact Hc.out k xs[k] (List.getElem?_eq_getElem hlt)
      have hxk := Hx.out xs[k] (List.getElem_mem hlt)
      have Hxk := Lib.hid hxk
      clear hxk
      have Hs : Hid ((xs.take (k + 1)).flatMap vint = (xs.take k).flatMap vint ++ vint xs[k]) := by
        show _ = _
        rw [List.take_succ_eq_append_getElem hlt, List.flatMap_append]; simp
      go_wp2_with fail
      refine (num_any T hT B b _ xs[k] wr hb Hxk.out (by have h1 := Hll.out; have h2 := Hlen.out; rw [List.length_take] at h1; rw [List.length_append]; omega) (by have := hbel.size; omega)).mono ?_
      rintro e w1 ⟨rfl, hb1, hbel1, hk1⟩
      go_wp2_with fail
      go_roundw
      case rel =>
        refine ⟨k + 1, by omega, by go_num, ?_, hbel.trans hbel1, hk.trans hk1⟩
        rw [Hs.out, ← List.append_assoc]; exact hb1
      case measure => simp [intOf]; omega
    · have hkk : k = xs.length := by omega
      go_wp2_with fail
      go_ret
      refine ⟨rfl, ?_, hbel, hk⟩
      rw [hkk, List.take_of_length_le (Nat.le_refl _)] at hb; exact hb

/-- A text's bytes: how many, then these. -/
def vtext (s : ByteArray) : List UInt8 := vint s.size ++ s.data.toList
theorem vtext_len (s : ByteArray) (h : s.size ≤ 1000000) : (vtext s).length ≤ 1000010 := by
  have h1 := vint_len64 s.size (by omega)
  have h2 : s.data.toList.length = s.size := by rw [Array.length_toList]; rfl
  simp only [vtext, List.length_append]; omega

set_option maxHeartbeats 1000000 in
set_option maxRecDepth 100000 in
theorem text_any (T : TypeId) (hT : BldT T) (B b : Nat) (l : List UInt8) (s : ByteArray) (w : World) (h : Bld T B b (Lib.byteCells l) w) (hs : s.size ≤ 1000000) (hlen : l.length + 1000040 ≤ 140737488355328) (hBw : B ≤ w.heap.size) :
    Calls Try.prog 30 #[.pointer (some ⟨b, 0, none⟩), .string s] w fun e w' => e = .returned (.tuple #[]) ∧ (Bld T B b (Lib.byteCells (l ++ vtext s)) w' ∧ Below B w w' ∧ Lib.OthersKept 5 (some b) w w') := by
  go_enter Try.func30, Try.ntmps30
  have hv := vint_len64 s.size (by omega)
  go_wp2_with fail
  refine (num_any T hT B b l s.size w h (by omega) (by omega) hBw).mono ?_
  rintro e w1 ⟨rfl, hb1, hbel1, hk1⟩
  go_wp2_with fail
  refine (writeString_any T hT B b _ s w1 hb1 (by rw [Lib.byteCells_length, List.length_append]; omega) (by have := hbel1.size; omega)).mono ?_
  rintro e w2 ⟨rfl, hb2, hbel2, hk2⟩
  go_wp2_with fail
  go_end0
  refine ⟨rfl, ?_, hbel1.trans hbel2, hk1.trans hk2⟩
  rw [vtext, ← List.append_assoc, Lib.byteCells_append]; exact hb2

theorem vtext_all (xs : List ByteArray) (hx : ∀ x ∈ xs, x.size ≤ 1000000) : (xs.flatMap vtext).length ≤ 1000010 * xs.length := by
  induction xs with
  | nil => simp
  | cons x r ih =>
    have hm : x ∈ x :: r := List.mem_cons_self ..
    have h1 := vtext_len x (hx x hm)
    have h2 := ih (fun y hy => hx y (List.mem_cons_of_mem _ hy))
    rw [List.flatMap_cons, List.length_append, List.length_cons]; omega

set_option maxHeartbeats 1000000 in
set_option maxRecDepth 100000 in
theorem Text_any (T : TypeId) (hT : BldT T) (B b : Nat) (l : List UInt8) (xs : List ByteArray) (g off cap : Nat) (cur : Array Value) (Tg : TypeId) (fz : Nat × Nat) (w : World) (h : Bld T B b (Lib.byteCells l) w)
    (hg : w.heap[g]? = some (.cells cur Tg fz)) (hTg : Tg ≠ 5) (hgb : g ≠ b) (hc : ∀ (i : Nat) x, xs[i]? = some x → cur[off + i]? = some (.string x)) (hx : ∀ x ∈ xs, x.size ≤ 1000000) (hlen : l.length + 1000040 * xs.length ≤ 140737488355328) (hBw : B ≤ w.heap.size) :
    Calls Try.prog 21 #[.pointer (some ⟨b, 0, none⟩), .slice (some ⟨g, off, none⟩) xs.length cap] w fun e w' => e = .returned (.pointer (some ⟨b, 0, none⟩)) ∧ (Bld T B b (Lib.byteCells (l ++ xs.flatMap vtext)) w' ∧ Below B w w' ∧ Lib.OthersKept 5 (some b) w w') := by
  have Hx := Lib.hid hx
  have Hlen := Lib.hid hlen
  have Hc := Lib.hid hc
  have Hg := Lib.hid hg
  have hm : (xs.length : Int) ≤ 9223372036854775807 := by omega
  clear hx hlen hc hg
  go_enter Try.func21, Try.ntmps21
  go_wp2_with fail
  go_loopw [6, 11] (fun _ v wr => ∃ (k : Nat), k ≤ xs.length ∧ v = .int .i64 k ∧ Bld T B b (Lib.byteCells (l ++ (xs.take k).flatMap vtext)) wr ∧ Below B w wr ∧ Lib.OthersKept 5 (some b) w wr) (fun _ v _ => xs.length - (intOf v).toNat)
  case atStart => exact ⟨0, Nat.zero_le _, rfl, by simpa using h, Below.refl _ _, Lib.OthersKept.refl _ _ _⟩
  case round =>
    obtain ⟨k, hkl, rfl, hb, hbel, hk⟩ := hrel
    have Hll := Lib.hid (vtext_all (xs.take k) (fun x hxk => Hx.out x (List.mem_of_mem_take hxk)))
    by_cases hlt : k < xs.length
    · have hcell : wr.cell? ⟨g, off + k, none⟩ = some (.string xs[k]) := by
        have h1 := hk g _ Hg.out (fun e => hgb (Option.some.inj e)) (fun c fz' e => hTg (by injection e))
        rw [Lib.cell_of_heap h1]
        exact Hc.out k xs[k] (List.getElem?_eq_getElem hlt)
      have hxk := Hx.out xs[k] (List.getElem_mem hlt)
      have Hxk := Lib.hid hxk
      clear hxk
      have Hs : Hid ((xs.take (k + 1)).flatMap vtext = (xs.take k).flatMap vtext ++ vtext xs[k]) := by
        show _ = _
        rw [List.take_succ_eq_append_getElem hlt, List.flatMap_append]; simp
      go_wp2_with fail
      refine (text_any T hT B b _ xs[k] wr hb Hxk.out (by have h1 := Hll.out; have h2 := Hlen.out; rw [List.length_take] at h1; rw [List.length_append]; omega) (by have := hbel.size; omega)).mono ?_
      rintro e w1 ⟨rfl, hb1, hbel1, hk1⟩
      go_wp2_with fail
      go_roundw
      case rel =>
        refine ⟨k + 1, by omega, by go_num, ?_, hbel.trans hbel1, hk.trans hk1⟩
        rw [Hs.out, ← List.append_assoc]; exact hb1
      case measure => simp [intOf]; omega
    · have hkk : k = xs.length := by omega
      go_wp2_with fail
      go_ret
      refine ⟨rfl, ?_, hbel, hk⟩
      rw [hkk, List.take_of_length_le (Nat.le_refl _)] at hb; exact hb

set_option maxHeartbeats 1000000 in
theorem wstring_any (T : TypeId) (B b : Nat) (l : List UInt8) (w : World) (h : Bld T B b (Lib.byteCells l) w) (h0 : l ≠ []) :
    Calls Try.prog 22 #[.pointer (some ⟨b, 0, none⟩)] w fun e w' => e = .returned (.string ⟨l.toArray⟩) ∧ Below B w w' := by
  go_enter Try.func22, Try.ntmps22
  go_wp2_with fail
  refine (string_any T B b l w h h0).mono ?_
  rintro e w1 ⟨rfl, hbel⟩
  go_wp2_with fail
  go_ret
  exact ⟨rfl, hbel⟩
end Go.Proofs.Ytnapeogbpjaigaa
