/- The law's own messages: a body of so many bytes. -/
import Derived.Test.YtleobnfmbhobgaaDoorNext
import Derived.Laws.MakeOwn
import Derived.Laws.IdiomStrings
namespace Go.Proofs.YtleobnfmbhobgaaDoor
open Go.RowKit Go.Maps

def abcd : ByteArray := ⟨#[97, 64, 98, 46, 99, 100]⟩
def xs (n : Nat) : ByteArray := ⟨(List.replicate n 120).toArray⟩
def msgL (id n : Nat) : Msg := ⟨id, abcd, xs n, 7, 0, true⟩
def fillV (n k : Nat) : Array Value := (List.replicate k (Value.int .u8 120) ++ List.replicate (n - k) (Value.int .u8 0)).toArray
theorem fillV_made (n : Nat) : madeCells #[Value.int .u8 0] n = fillV n 0 := by
  apply Array.ext_getElem?
  intro j
  unfold fillV
  by_cases hj : j < n
  · simp [madeCells, hj, Nat.mod_one]
  · simp [madeCells, hj]
theorem fillV_at (n k : Nat) (h : k < n) : (fillV n k)[k]? = some (.int .u8 0) := by
  unfold fillV
  rw [List.getElem?_toArray, List.getElem?_append_right (by simp), List.length_replicate, Nat.sub_self, List.getElem?_replicate, if_pos (by omega)]
theorem fillV_next (n k : Nat) (h : k < n) : (fillV n k).setIfInBounds k (.int .u8 120) = fillV n (k + 1) := by
  unfold fillV
  rw [List.setIfInBounds_toArray, List.set_append_right _ _ (by simp)]
  congr 1
  rw [List.length_replicate, Nat.sub_self, show n - k = (n - (k + 1)) + 1 by omega, List.replicate_succ, List.set_cons_zero, List.replicate_succ', List.append_assoc]
  rfl
theorem fillV_full (n j : Nat) (h : j < n) : (fillV n n)[j]? = some (.int .u8 120) := by
  simp [fillV, h]
theorem infoU8 : (Tryd.prog.info? 5).map (fun i => (i.zero, i.size, i.bytes)) = some (some (.int .u8 0), 1, 1) := by kernel_rfl

def zeroObj : Obj := .cells #[.int .u64 0, .string ⟨#[]⟩, .string ⟨#[]⟩, .int .i64 0, .int .i64 0, .bool false] 27
theorem size82 (size : Int) : ∃ n : Nat, n < 82 ∧ (wrap64 (Int.tmod size 82 + 82)).tmod 82 = (n : Int) := by
  have h1 := Int.lt_tmod_of_pos size (show (0 : Int) < 82 by decide)
  have h2 := Int.tmod_lt_of_pos size (show (0 : Int) < 82 by decide)
  have hw : wrap64 (Int.tmod size 82 + 82) = Int.tmod size 82 + 82 := by unfold wrap64; omega
  rw [hw, Int.tmod_eq_emod_of_nonneg (by omega)]
  exact ⟨((Int.tmod size 82 + 82) % 82).toNat, by omega, by omega⟩

set_option maxRecDepth 100000 in
set_option maxHeartbeats 2000000 in
theorem message_any (id : Nat) (size : Int) (n : Nat) (hn : n < 82) (hz : (wrap64 (Int.tmod size 82 + 82)).tmod 82 = (n : Int)) (w : World) :
    Calls Tryd.prog 12 #[.int .u64 id, .int .i64 size] w fun e w' => e = .returned (msgL id n).agg ∧ Below w.heap.size w w' := by
  obtain ⟨i0, hi, hz0, hz1, hz2⟩ := info_parts infoU8
  have MK := run_make (P := Tryd.prog) (w.alloc zeroObj) 57 5 i0 (.int .u8 0) Tryd.underlying57 hi hz0 .i64 .i64 n n (by omega) (Int.le_refl _) (by rw [hz2]; omega) (by omega)
  simp only [Int.toNat_natCast, hz1, Nat.mul_one] at MK
  rw [show (Value.int IntKind.u8 0).cells = #[Value.int .u8 0] from rfl, fillV_made] at MK
  have BL : Hid (∀ o : Obj, Below w.heap.size w ((w.alloc (msgL id n).obj).alloc o)) := Lib.hid (fun o => below_alloc (below_alloc (Below.refl _ w) _) o)
  have CV : Hid ((convert 57 9 (.slice (some ⟨w.heap.size + 1, 0, none⟩) n n)).run Tryd.prog ((w.alloc zeroObj).alloc (.cells (fillV n n) 5)) = .ok (.string (xs n)) ((w.alloc zeroObj).alloc (.cells (fillV n n) 5))) := Lib.hid (by
    have h := run_convert_bytes_back (P := Tryd.prog) ((w.alloc zeroObj).alloc (.cells (fillV n n) 5)) 57 9 5 ⟨w.heap.size + 1, 0, none⟩ n (List.replicate n 120) Tryd.underlying57 Tryd.underlying5 Tryd.underlying9 (fun j hj => by
      have hj' : j < n := by simpa using hj
      rw [addM, Nat.zero_add]
      have hh := heap_new (w.alloc zeroObj) (.cells (fillV n n) 5)
      rw [World.size_alloc] at hh
      rw [Lib.cell_of_heap hh, fillV_full n j hj']
      simp)
    rw [List.length_replicate] at h
    exact h)
  unfold zeroObj at MK CV
  have MK := Lib.hid MK
  have hml : (n : Int) < 82 := by omega
  go_enter Tryd.func12, Tryd.ntmps12
  have MK2 := MK.out
  go_wp2_with fail
  clear MK2
  go_loopw [6] (fun i wr => ∃ k : Nat, k ≤ n ∧ i = .int .i64 k ∧ wr = (w.alloc (.cells #[.int .u64 0, .string ⟨#[]⟩, .string ⟨#[]⟩, .int .i64 0, .int .i64 0, .bool false] 27)).alloc (.cells (fillV n k) 5)) (fun i _ => n - (intOf i).toNat)
  case atStart => exact ⟨0, Nat.zero_le _, rfl, rfl⟩
  case round =>
    obtain ⟨k, hk, rfl, rfl⟩ := hrel
    by_cases hkn : k < n
    · have hkn' : (k : Int) < n := by omega
      have hat := fillV_at n k hkn
      have hnx := fillV_next n k hkn
      go_wp2_with fail
      go_roundw
      case rel => exact ⟨k + 1, by omega, by go_num, by first | rfl | rw [hnx] | simp [hnx]⟩
      case measure => simp [intOf]; omega
    · have hkn' : ¬ ((k : Int) < n) := by omega
      obtain rfl : k = n := by omega
      have CV2 := CV.out
      clear hz
      go_wp2_with fail
      refine bodyPost_ret (v := (msgL id k).agg) ?_ rfl ⟨rfl, BL.out _⟩
      simp [results, Tryd.f12, go_sem, msgL, Msg.agg, abcd]
end Go.Proofs.YtleobnfmbhobgaaDoor
