/- law16's fill: so many bytes of one letter. -/
import Derived.Test.YtkihleecjgoipaaDoorPpK
import Derived.Laws.MakeOwn
import Derived.Laws.IdiomStrings
namespace Go.Proofs.YtkihleecjgoipaaDoor
open Go.RowKit Go.Maps Go.Proofs.YtkihleecjgoipaaDoor.Rw Go.Proofs.YtkihleecjgoipaaDoorW.PrintWords

theorem i64_mask (n : Int) (k : Nat) (hk : k ≤ 30) : bits .and .i64 n ((2 ^ k - 1 : Nat) : Int) = n % ((2 ^ k : Nat) : Int) := by
  have h2 : 2 ^ k ≤ 2 ^ 30 := Nat.pow_le_pow_right (by omega) hk
  have h0 : 0 < 2 ^ k := Nat.two_pow_pos k
  have hm : (BitVec.ofInt 64 ((2 ^ k - 1 : Nat) : Int)).toNat = 2 ^ k - 1 := by
    rw [BitVec.toNat_ofInt]
    have : (((2 ^ k - 1 : Nat) : Int) % ((2 ^ 64 : Nat) : Int)).toNat = 2 ^ k - 1 := by
      generalize 2 ^ k = q at *
      omega
    exact this
  have key : (BitVec.ofInt 64 n &&& BitVec.ofInt 64 ((2 ^ k - 1 : Nat) : Int)).toNat = (n % ((2 ^ 64 : Nat) : Int)).toNat % 2 ^ k := by
    rw [BitVec.toNat_and, hm, BitVec.toNat_ofInt, Nat.and_two_pow_sub_one_eq_mod]
  show IntKind.i64.wrap ((BitVec.ofInt 64 n &&& BitVec.ofInt 64 ((2 ^ k - 1 : Nat) : Int)).toNat : Nat) = _
  rw [key, IntKind.wrap_i64]
  have hd : (2 ^ k : Nat) ∣ 2 ^ 64 := Nat.pow_dvd_pow 2 (by omega)
  have e1 : ((n % ((2 ^ 64 : Nat) : Int)).toNat : Int) = n % ((2 ^ 64 : Nat) : Int) := by omega
  have e2 : (((n % ((2 ^ 64 : Nat) : Int)).toNat % 2 ^ k : Nat) : Int) = n % ((2 ^ k : Nat) : Int) := by
    rw [Int.natCast_emod, e1]
    exact Int.emod_emod_of_dvd _ (Int.natCast_dvd_natCast.2 hd)
  rw [e2]
  have b1 := Int.emod_nonneg n (show ((2 ^ k : Nat) : Int) ≠ 0 by omega)
  have b2 := Int.emod_lt_of_pos n (show (0 : Int) < ((2 ^ k : Nat) : Int) by omega)
  generalize n % ((2 ^ k : Nat) : Int) = r at *
  generalize 2 ^ k = q at *
  omega
def fillS (n x : Nat) : ByteArray := ⟨(List.replicate n (UInt8.ofNat (112 + x))).toArray⟩
theorem fillS_size (n x : Nat) : (fillS n x).size = n := by
  show (List.replicate n (UInt8.ofNat (112 + x))).toArray.size = n
  simp
def fillV (n k x : Nat) : Array Value := (List.replicate k (Value.int .u8 (112 + (x : Int))) ++ List.replicate (n - k) (Value.int .u8 0)).toArray
theorem fillV_made (n x : Nat) : madeCells #[Value.int .u8 0] n = fillV n 0 x := by
  apply Array.ext_getElem?
  intro j
  unfold fillV
  by_cases hj : j < n
  · simp [madeCells, hj, Nat.mod_one]
  · simp [madeCells, hj]
theorem fillV_at (n k x : Nat) (h : k < n) : (fillV n k x)[k]? = some (.int .u8 0) := by
  unfold fillV
  rw [List.getElem?_toArray, List.getElem?_append_right (by simp), List.length_replicate, Nat.sub_self, List.getElem?_replicate, if_pos (by omega)]
theorem fillV_next (n k x : Nat) (h : k < n) : (fillV n k x).setIfInBounds k (.int .u8 (112 + (x : Int))) = fillV n (k + 1) x := by
  unfold fillV
  rw [List.setIfInBounds_toArray, List.set_append_right _ _ (by simp)]
  congr 1
  rw [List.length_replicate, Nat.sub_self, show n - k = (n - (k + 1)) + 1 by omega, List.replicate_succ, List.set_cons_zero, List.replicate_succ', List.append_assoc]
  rfl
theorem fillV_full (n j x : Nat) (h : j < n) : (fillV n n x)[j]? = some (.int .u8 (112 + (x : Int))) := by
  simp [fillV, h]
theorem infoU8 : (Tryd.prog.info? 5).map (fun i => (i.zero, i.size, i.bytes)) = some (some (.int .u8 0), 1, 1) := by kernel_rfl
set_option maxRecDepth 100000 in
set_option maxHeartbeats 2000000 in
theorem fill_any (n x : Nat) (hn : n ≤ 64) (hx : x < 16) (w : World) :
    Calls Tryd.prog 13 #[.int .i64 n, .int .i64 x] w fun e w' => e = .returned (.string (fillS n x)) ∧ Below w.heap.size w w' := by
  obtain ⟨i0, hi, hz0, hz1, hz2⟩ := info_parts infoU8
  have MK := run_make (P := Tryd.prog) w 69 5 i0 (.int .u8 0) Tryd.underlying69 hi hz0 .i64 .i64 n n (by omega) (Int.le_refl _) (by rw [hz2]; omega) (by omega)
  simp only [Int.toNat_natCast, hz1, Nat.mul_one] at MK
  rw [show (Value.int IntKind.u8 0).cells = #[Value.int .u8 0] from rfl, fillV_made n x] at MK
  have BL : Hid (∀ o : Obj, Below w.heap.size w (w.alloc o)) := Lib.hid (fun o => below_alloc (Below.refl _ w) _)
  have CV : Hid ((convert 69 9 (.slice (some ⟨w.heap.size, 0, none⟩) n n)).run Tryd.prog (w.alloc (.cells (fillV n n x) 5)) = .ok (.string (fillS n x)) (w.alloc (.cells (fillV n n x) 5))) := Lib.hid (by
    have h := run_convert_bytes_back (P := Tryd.prog) (w.alloc (.cells (fillV n n x) 5)) 69 9 5 ⟨w.heap.size, 0, none⟩ n (List.replicate n (UInt8.ofNat (112 + x))) Tryd.underlying69 Tryd.underlying5 Tryd.underlying9 (fun j hj => by
      have hj' : j < n := by simpa using hj
      rw [addM, Nat.zero_add]
      have hh := heap_new w (.cells (fillV n n x) 5)
      rw [Lib.cell_of_heap hh, fillV_full n j x hj']
      simp
      omega)
    rw [List.length_replicate] at h
    exact h)
  have MK := Lib.hid MK
  have hml : (n : Int) ≤ 64 := by omega
  have t1 : Int.tmod (x : Int) 16 = x := Int.tmod_eq_of_lt (by omega) (by omega)
  have t2 : IntKind.i64.wrap (97 + (x : Int)) = 97 + x := by rw [IntKind.wrap_i64] <;> omega
  have t3 : IntKind.i64.wrap (97 + (x : Int) + 15) = (112 + (x : Int)) := by rw [IntKind.wrap_i64] <;> omega
  have t4 : (112 + (x : Int)) % 256 = (112 + (x : Int)) := by omega
  go_enter Tryd.func13, Tryd.ntmps13
  have MK2 := MK.out
  go_wp2_with fail
  clear MK2
  go_loopw [6] (fun i wr => ∃ k : Nat, k ≤ n ∧ i = .int .i64 k ∧ wr = w.alloc (.cells (fillV n k x) 5)) (fun i _ => n - (intOf i).toNat)
  case atStart => exact ⟨0, Nat.zero_le _, rfl, rfl⟩
  case round =>
    obtain ⟨k, hk, rfl, rfl⟩ := hrel
    by_cases hkn : k < n
    · have hkn' : (k : Int) < n := by omega
      have hat := fillV_at n k x hkn
      have hnx := fillV_next n k x hkn
      go_wp2_with fail
      go_roundw
      case rel => exact ⟨k + 1, by omega, by go_num, by first | rfl | rw [hnx] | simp [hnx]⟩
      case measure => simp [intOf]; omega
    · have hkn' : ¬ ((k : Int) < n) := by omega
      obtain rfl : k = n := by omega
      have CV2 := CV.out
      go_wp2_with fail
      go_ret
      exact ⟨rfl, BL.out _⟩
end Go.Proofs.YtkihleecjgoipaaDoor
