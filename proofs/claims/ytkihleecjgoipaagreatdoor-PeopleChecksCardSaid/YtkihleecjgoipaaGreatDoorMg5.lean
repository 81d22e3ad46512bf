/- law16's fill: so many bytes of one letter. -/
import Derived.Test.YtkihleecjgoipaaGreatDoorPpK
import Derived.Laws.MakeOwn
import Derived.Laws.IdiomStrings
section
namespace Go.Proofs.YtkihleecjgoipaaGreatDoor
open Go.RowKit Go.Maps Go.Proofs.YtkihleecjgoipaaGreatDoor.Rw Go.Proofs.YtkihleecjgoipaaGreatDoorW.PrintWords

theorem i64_mask (n : Int) (k : Nat) (hk : k ≤ 30) : bits .and .i64 n ((2 ^ k - 1 : Nat) : Int) = n % ((2 ^ k : Nat) : Int) := by
  have h2 : 2 ^ k ≤ 2 ^ 30 := Nat.pow_le_pow_right (by omega) hk
  have h0 : 0 < 2 ^ k := Nat.two_pow_pos k
  have hm : (BitVec.ofInt 64 ((2 ^ k - 1 : Nat) : Int)).toNat = 2 ^ k - 1 := by
    rw [BitVec.toNat_ofInt]
    have : (((2 ^ k - 1 : Nat) : Int) % ((2 ^ 64 : Nat) : Int)).toNat = 2 ^ k - 1 := by
      generalize 2 ^ k = q at *
      omega
    exact this
  have key : (BitVec.ofInt 64 n &&& BitVec.ofInt 64 ((2 ^ k - 1 : Nat) : Int)).toNat = (n % ((2 ^ 64 : Nat) : Int)).toNat % 2 ^ k := by
    rw [BitVec.toNat_and, hm, BitVec.toNat_ofInt, Nat.and_two_pow_sub_one_eq_mod]
  show IntKind.i64.wrap ((BitVec.ofInt 64 n &&& BitVec.ofInt 64 ((2 ^ k - 1 : Nat) : Int)).toNat : Nat) = _
  rw [key, IntKind.wrap_i64]
  have hd : (2 ^ k : Nat) ∣ 2 ^ 64 := Nat.pow_dvd_pow 2 (by omega)
  have e1 : ((n % ((2 ^ 64 : Nat) : Int)).toNat : Int) = n % ((2 ^ 64 : Nat) : Int) := by omega
  have e2 : (((n % ((2 ^ 64 : Nat) : Int)).toNat % 2 ^ k : Nat) : Int) = n % ((2 ^ k : Nat) : Int) := by
    rw [Int.natCast_emod, e1]
    exact Int.emod_emod_of_dvd _ (Int.natCast_dvd_natCast.2 hd)
  rw [e2]
  have b1 := Int.emod_nonneg n (show ((2 ^ k : Nat) : Int) ≠ 0 by omega)
  have b2 := Int.emod_lt_of_pos n (show (0 : Int) < ((2 ^ k : Nat) : Int) by omega)
  generalize n % ((2 ^ k : Nat) : Int) = r at *
  generalize 2 ^ k = q at *
  omega
def fillS (n x : Nat) : ByteArray := ⟨(List.replicate n (UInt8.ofNat (112 + x))).toArray⟩
theorem fillS_size (n x : Nat) : (fillS n x).size = n := by
  show (List.replicate n (UInt8.ofNat (112 + x))).toArray.size = n
  simp
def fillV (n k x : Nat) : Array Value := (List.replicate k (Value.int .u8 (112 + (x : Int))) ++ List.replicate (n - k) (Value.int .u8 0)).toArray
theorem fillV_made (n x : Nat) : madeCells #[Value.int .u8 0] n = fillV n 0 x := by
  apply Array.ext_getElem?
  intro j
  unfold fillV
  by_cases hj : j < n
  · simp [madeCells, hj, Nat.mod_one]
  · simp [madeCells, hj]
theorem fillV_at (n k x : Nat) (h : k < n) : (fillV n k x)[k]? = some (.int .u8 0) := by
  unfold fillV
  rw [List.getElem?_toArray, List.getElem?_append_right (by simp), List.length_replicate, Nat.sub_self, List.getElem?_replicate, if_pos (by omega)]
theorem fillV_next (n k x : Nat) (h : k < n) : (fillV n k x).setIfInBounds k (.int .u8 (112 + (x : Int))) = fillV n (k + 1) x := by
  unfold fillV
  rw [List.setIfInBounds_toArray, List.set_append_right _ _ (by simp)]
  congr 1
  rw [List.length_replicate, Nat.sub_self, show n - k = (n - (k + 1)) + 1 by omega, List.replicate_succ, List.set_cons_zero, List.replicate_succ', List.append_assoc]
  rfl
theorem fillV_full (n j x : Nat) (h : j < n) : (fillV n n x)[j]? = some (.int .u8 (112 + (x : Int))) := by
  simp [fillV, h]
theorem infoU8 : (Tryz.prog.info? 5).map (fun i => (i.zero, i.size, i.bytes)) = some (some (.int .u8 0), 1, 1) := by kernel_rfl
set_option maxRecDepth 100000 in
set_option maxHeartbeats 2000000 in
theorem fill_any (n x : Nat) (hn : n ≤ 64) (hx : x < 16) (w : World) :
    Calls Tryz.prog 13 #[.int .i64 n, .int .i64 x] w fun e w' => e = .returned (.string (fillS n x)) ∧ Below w.heap.size w w' := by
  obtain ⟨i0, hi, hz0, hz1, hz2⟩ := info_parts infoU8
  have MK := run_make (P := Tryz.prog) w 64 5 i0 (.int .u8 0) Tryz.underlying64 hi hz0 .i64 .i64 n n (by omega) (Int.le_refl _) (by rw [hz2]; omega) (by omega)
  simp only [Int.toNat_natCast, hz1, Nat.mul_one] at MK
  rw [show (Value.int IntKind.u8 0).cells = #[Value.int .u8 0] from rfl, fillV_made n x] at MK
  have BL : Hid (∀ o : Obj, Below w.heap.size w (w.alloc o)) := Lib.hid (fun o => below_alloc (Below.refl _ w) _)
  have CV : Hid ((convert 64 9 (.slice (some ⟨w.heap.size, 0, none⟩) n n)).run Tryz.prog (w.alloc (.cells (fillV n n x) 5)) = .ok (.string (fillS n x)) (w.alloc (.cells (fillV n n x) 5))) := Lib.hid (by
    have h := run_convert_bytes_back (P := Tryz.prog) (w.alloc (.cells (fillV n n x) 5)) 64 9 5 ⟨w.heap.size, 0, none⟩ n (List.replicate n (UInt8.ofNat (112 + x))) Tryz.underlying64 Tryz.underlying5 Tryz.underlying9 (fun j hj => by
      have hj' : j < n := by simpa using hj
      rw [addM, Nat.zero_add]
      have hh := heap_new w (.cells (fillV n n x) 5)
      rw [Lib.cell_of_heap hh, fillV_full n j x hj']
      simp
      omega)
    rw [List.length_replicate] at h
    exact h)
  have MK := Lib.hid MK
  have hml : (n : Int) ≤ 64 := by omega
  have t1 : Int.tmod (x : Int) 16 = x := Int.tmod_eq_of_lt (by omega) (by omega)
  have t2 : IntKind.i64.wrap (97 + (x : Int)) = 97 + x := by rw [IntKind.wrap_i64] <;> omega
  have t3 : IntKind.i64.wrap (97 + (x : Int) + 15) = (112 + (x : Int)) := by rw [IntKind.wrap_i64] <;> omega
  have t4 : (112 + (x : Int)) % 256 = (112 + (x : Int)) := by omega
  go_enter Tryz.func13, Tryz.ntmps13
  have MK2 := MK.out
  go_wp2_with fail
  clear MK2
  go_loopw [6] (fun i wr => ∃ k : Nat, k ≤ n ∧ i = .int .i64 k ∧ wr = w.alloc (.cells (fillV n k x) 5)) (fun i _ => n - (intOf i).toNat)
  case atStart => exact ⟨0, Nat.zero_le _, rfl, rfl⟩
  case round =>
    obtain ⟨k, hk, rfl, rfl⟩ := hrel
    by_cases hkn : k < n
    · have hkn' : (k : Int) < n := by omega
      have hat := fillV_at n k x hkn
      have hnx := fillV_next n k x hkn
      go_wp2_with fail
      go_roundw
      case rel => exact ⟨k + 1, by omega, by go_num, by first | rfl | rw [hnx] | simp [hnx]⟩
      case measure => simp [intOf]; omega
    · have hkn' : ¬ ((k : Int) < n) := by omega
      obtain rfl : k = n := by omega
      have CV2 := CV.out
      go_wp2_with fail
      go_ret
      exact ⟨rfl, BL.out _⟩
end Go.Proofs.YtkihleecjgoipaaGreatDoor
end
/- law16's awake: five wrong passwords lock. -/
section
namespace Go.Proofs.YtkihleecjgoipaaGreatDoor
open Go.RowKit Go.Maps Go.Proofs.YtkihleecjgoipaaGreatDoor.Rw

/-- A box of people, as it stands behind a store of both cells. -/
theorem pbox_set {w : World} {b : Nat} {s1 s2 : Value} (h : w.heap[b]? = some (pobj s1 s2)) (x1 x2 : Value) : ((w.setCell ⟨b, 0, none⟩ x1).setCell ⟨b, 1, none⟩ x2).heap[b]? = some (pobj x1 x2) := by
  have h1 := heap_setCell_same w b 0 #[s1, s2] 25 x1 h
  have h2 := heap_setCell_same _ b 1 _ 25 x2 h1
  rw [h2]
  rfl
theorem heap_lt {w : World} {b : Nat} {o : Obj} (h : w.heap[b]? = some o) : b < w.heap.size := by
  rcases Nat.lt_or_ge b w.heap.size with x | x
  · exact x
  · rw [Array.getElem?_eq_none x] at h
    cases h
theorem pown.form {w : World} {B : Nat} {v : Value} {p : Ppl} (h : pown w B v p) : ∃ a c a' c', v = .agg #[.slice a p.ps.length c, .slice a' p.ss.length c'] := by
  obtain ⟨a, c, a', c', e, _⟩ := h
  exact ⟨a, c, a', c', e⟩
theorem pown.apart {w : World} {B b : Nat} {v : Value} {p : Ppl} {s1 s2 : Value} (h : pown w B v p) (hb : w.heap[b]? = some (pobj s1 s2)) (x1 x2 : Value) : pown ((w.setCell ⟨b, 0, none⟩ x1).setCell ⟨b, 1, none⟩ x2) B v p := by
  obtain ⟨a, c, a', c', e, o1, o2⟩ := h
  exact ⟨a, c, a', c', e, o1.apartT hb (by decide) _ _ _ _, o2.apartT hb (by decide) _ _ _ _⟩
def abcd : ByteArray := ⟨#[97, 64, 98, 46, 99, 100]⟩
def saltS : ByteArray := ⟨#[115, 97, 108, 116]⟩
def sgnEv : Evn := ⟨1, 1, 0, 0, 0, abcd, saltS, fillS 32 0⟩
def ev1 (k t : Int) : Evn := ⟨k, 1, 0, t, 0, ⟨#[]⟩, ⟨#[]⟩, ⟨#[]⟩⟩
def aw (m l : Int) : Ppl := ⟨[⟨1, abcd, false, saltS, fillS 32 0, 1, m, l, ⟨#[]⟩, ⟨#[]⟩, ⟨#[]⟩, ⟨#[]⟩, ⟨#[]⟩⟩], []⟩
theorem aw_sgn : appE ⟨[], []⟩ sgnEv = 0 ∧ appR ⟨[], []⟩ sgnEv = aw 0 0 := by
  have h0 : sgnE ⟨[], []⟩ sgnEv = 0 := by decide +kernel
  have k1 : sgnEv.kind = 1 := rfl
  refine ⟨by unfold appE; rw [if_pos k1, h0], ?_⟩
  unfold appR
  rw [if_pos k1]
  unfold sgnR
  rw [if_pos h0]
  rfl
theorem aw_at (m l : Int) : at_ (aw m l) 1 = 0 := rfl
theorem aw_miss (m l t : Int) : appE (aw m l) (ev1 4 t) = 0 ∧ appR (aw m l) (ev1 4 t) = if 5 ≤ m + 1 then aw 0 (clk t 100) else aw (m + 1) l := by
  have n1 : ¬ (ev1 4 t).kind = 1 := by show ¬ (4 : Int) = 1; decide
  have n8 : ¬ (ev1 4 t).kind = 8 := by show ¬ (4 : Int) = 8; decide
  have n9 : ¬ (ev1 4 t).kind = 9 := by show ¬ (4 : Int) = 9; decide
  have n3 : ¬ (ev1 4 t).kind = 3 := by show ¬ (4 : Int) = 3; decide
  have n6 : ¬ (ev1 4 t).kind = 6 := by show ¬ (4 : Int) = 6; decide
  have n7 : ¬ (ev1 4 t).kind = 7 := by show ¬ (4 : Int) = 7; decide
  have n2 : ¬ (ev1 4 t).kind = 2 := by show ¬ (4 : Int) = 2; decide
  have n5 : ¬ (ev1 4 t).kind = 5 := by show ¬ (4 : Int) = 5; decide
  have nr : ¬ ((ev1 4 t).kind < 1 ∨ 9 < (ev1 4 t).kind) := by show ¬ ((4 : Int) < 1 ∨ 9 < (4 : Int)); decide
  have nl : ¬ (aw m l).ps.length ≤ at_ (aw m l) (ev1 4 t).acc := by show ¬ (1 : Nat) ≤ 0; decide
  have hD : ∀ x, doesE (aw m l) x (ev1 4 t) = 0 := fun x => by
    unfold doesE
    rw [if_neg n3, if_neg n6, if_neg n7]
  refine ⟨?_, ?_⟩
  · unfold appE
    rw [if_neg n1, if_neg nr, if_neg nl, if_neg n8, if_neg n9]
    exact hD _
  · unfold appR
    rw [if_neg n1, if_neg nr, if_neg nl, if_neg n8, if_neg n9, if_pos (hD _)]
    unfold doesF
    rw [if_neg n2, if_neg n3, if_pos (show (ev1 4 t).kind = 4 from rfl)]
    unfold missF
    show (⟨List.set (aw m l).ps 0 (if 5 ≤ m + 1 then _ else _), []⟩ : Ppl) = _
    split <;> rfl
theorem aw_pass (m l t : Int) : appE (aw m l) (ev1 5 t) = 0 ∧ appR (aw m l) (ev1 5 t) = aw 0 l := by
  have n1 : ¬ (ev1 5 t).kind = 1 := by show ¬ (5 : Int) = 1; decide
  have n8 : ¬ (ev1 5 t).kind = 8 := by show ¬ (5 : Int) = 8; decide
  have n9 : ¬ (ev1 5 t).kind = 9 := by show ¬ (5 : Int) = 9; decide
  have n3 : ¬ (ev1 5 t).kind = 3 := by show ¬ (5 : Int) = 3; decide
  have n6 : ¬ (ev1 5 t).kind = 6 := by show ¬ (5 : Int) = 6; decide
  have n7 : ¬ (ev1 5 t).kind = 7 := by show ¬ (5 : Int) = 7; decide
  have n2 : ¬ (ev1 5 t).kind = 2 := by show ¬ (5 : Int) = 2; decide
  have nr : ¬ ((ev1 5 t).kind < 1 ∨ 9 < (ev1 5 t).kind) := by show ¬ ((5 : Int) < 1 ∨ 9 < (5 : Int)); decide
  have nl : ¬ (aw m l).ps.length ≤ at_ (aw m l) (ev1 5 t).acc := by show ¬ (1 : Nat) ≤ 0; decide
  have hD : ∀ x, doesE (aw m l) x (ev1 5 t) = 0 := fun x => by
    unfold doesE
    rw [if_neg n3, if_neg n6, if_neg n7]
  refine ⟨?_, ?_⟩
  · unfold appE
    rw [if_neg n1, if_neg nr, if_neg nl, if_neg n8, if_neg n9]
    exact hD _
  · unfold appR
    rw [if_neg n1, if_neg nr, if_neg nl, if_neg n8, if_neg n9, if_pos (hD _)]
    unfold doesF
    rw [if_neg n2, if_neg n3, if_neg (show ¬ (ev1 5 t).kind = 4 by show ¬ (5 : Int) = 4; decide), if_pos (show (ev1 5 t).kind = 5 from rfl)]
    rfl
theorem aw_small (m l : Int) (hm : 0 ≤ m ∧ m ≤ 1000) : small (aw m l) ∧ few (aw m l) := by
  refine ⟨fun x hx => ?_, by unfold few aw; simp⟩
  simp [aw] at hx
  subst hx
  simp
  omega
theorem aw_find (m l : Int) : pick (aw m l).ps (fun x => decide (x.id = 1)) = ⟨1, abcd, false, saltS, fillS 32 0, 1, m, l, ⟨#[]⟩, ⟨#[]⟩, ⟨#[]⟩, ⟨#[]⟩, ⟨#[]⟩⟩ ∧ (aw m l).ps.any (fun x => decide (x.id = 1)) = true := ⟨rfl, rfl⟩
set_option maxHeartbeats 4000000 in
set_option maxRecDepth 100000 in
theorem awake_any (w : World) (hm : ML w) : Calls Tryz.prog 4 #[] w fun e w' => e = .returned (.bool true) ∧ Below w.heap.size w w' := by
  have FI : Hid (Calls Tryz.prog 13 #[.int .i64 32, .int .i64 0] w fun e w' => e = .returned (.string (fillS 32 0)) ∧ Below w.heap.size w w') := Lib.hid (fill_any 32 0 (by omega) (by omega) w)
  have A0 : Hid (∀ w2, Below w.heap.size w w2 → Calls Tryz.prog 12 #[.agg #[.slice none 0 0, .slice none 0 0], sgnEv.agg] w2 fun r w' => ∃ a c a' c', r = .returned (.tuple #[.agg #[.slice a 1 c, .slice a' 0 c'], .int .i64 0]) ∧ pown w' w.heap.size (.agg #[.slice a 1 c, .slice a' 0 c']) (aw 0 0) ∧ Below w.heap.size w w') := Lib.hid (fun w2 b => by
    refine (papply_any (pown.nil w2 w.heap.size) ⟨by simp, by simp⟩ (fun x hx => (List.not_mem_nil hx).elim) b.size sgnEv (by decide) (hm.below b)).mono fun r w' ⟨v', q1, q2, q3⟩ => ?_
    rw [aw_sgn.1] at q1
    rw [aw_sgn.2] at q2
    obtain ⟨a, c, a', c', rfl⟩ := q2.form
    exact ⟨a, c, a', c', q1, q2, b.trans (q3.mono b.size)⟩)
  have A1 : Hid (∀ w2 v (m l t : Int), Below w.heap.size w w2 → 0 ≤ m → m ≤ 4 → pown w2 w.heap.size v (aw m l) → Calls Tryz.prog 12 #[v, .agg #[.int .i64 4, .int .i64 1, .int .i64 0, .int .i64 t, .int .i64 0, .string ⟨#[]⟩, .string ⟨#[]⟩, .string ⟨#[]⟩]] w2 fun r w' => ∃ a c a' c', r = .returned (.tuple #[.agg #[.slice a 1 c, .slice a' 0 c'], .int .i64 0]) ∧ pown w' w.heap.size (.agg #[.slice a 1 c, .slice a' 0 c']) (if 5 ≤ m + 1 then aw 0 (clk t 100) else aw (m + 1) l) ∧ Below w2.heap.size w2 w') := Lib.hid (fun w2 v m l t b h0 h4 ho => by
    refine (papply_any ho (aw_small m l ⟨h0, by omega⟩).2 (aw_small m l ⟨h0, by omega⟩).1 b.size (ev1 4 t) (by show (⟨#[]⟩ : ByteArray).size ≤ _; decide) (hm.below b)).mono fun r w' ⟨v', q1, q2, q3⟩ => ?_
    rw [(aw_miss m l t).1] at q1
    rw [(aw_miss m l t).2] at q2
    obtain ⟨a, c, a', c', rfl⟩ := q2.form
    have e1 : (if 5 ≤ m + 1 then aw 0 (clk t 100) else aw (m + 1) l).ps.length = 1 := by split <;> rfl
    have e2 : (if 5 ≤ m + 1 then aw 0 (clk t 100) else aw (m + 1) l).ss.length = 0 := by split <;> rfl
    rw [e1, e2] at q1 q2
    exact ⟨a, c, a', c', q1, q2, q3⟩)
  have FD : Hid (∀ w2 v, pown w2 w.heap.size v (aw 0 107) → Calls Tryz.prog 14 #[v, .int .i64 1] w2 fun r w' => r = .returned (.tuple #[.agg #[.int .i64 1, .string abcd, .bool false, .string saltS, .string (fillS 32 0), .int .i64 1, .int .i64 0, .int .i64 107, .string ⟨#[]⟩, .string ⟨#[]⟩, .string ⟨#[]⟩, .string ⟨#[]⟩, .string ⟨#[]⟩], .bool true]) ∧ Below w2.heap.size w2 w') := Lib.hid (fun w2 v ho => by
    have h := find_any ho (aw_small 0 107 ⟨by omega, by omega⟩).2 1
    rw [(aw_find 0 107).1, (aw_find 0 107).2] at h
    exact h)
  have CK : Hid (clk 7 100 = 107) := Lib.hid (by decide)
  unfold sgnEv abcd saltS Evn.agg at *
  simp only at *
  generalize fillS 32 0 = fs at *
  have HM := Lib.hid hm
  clear hm
  go_enter Tryz.func4, Tryz.ntmps4
  go_wp2_with (first
    | (go_at_call 13; (with_reducible refine (FI.out).mono ?_); rintro e w1 ⟨rfl, b1⟩; have B1 := Lib.hid b1; clear b1)
    | (go_at_call 12; (with_reducible refine (A0.out _ B1.out).mono ?_); rintro e w2 ⟨a, c, a', c', rfl, o2, b2⟩; have O2 := Lib.hid o2; have B2 := Lib.hid b2; have s2 := b2.size; have XB := Lib.hid (heap_new w2 (pobj (.slice a 1 c) (.slice a' 0 c'))); have B3 := Lib.hid (b2.alloc s2 (pobj (.slice a 1 c) (.slice a' 0 c'))); have O3 := Lib.hid (o2.below ((Below.refl _ _).alloc (Nat.le_refl _) (pobj (.slice a 1 c) (.slice a' 0 c')))); clear o2 b2))
  unfold pobj at B3 O3
  go_loopw [3] (fun i wr => ∃ (k : Nat) (m l : Int) (s1 s2 : Value), 3 ≤ k ∧ k ≤ 8 ∧ i = .int .i64 k ∧ (m = if k = 8 then 0 else (k : Int) - 3) ∧ (l = if k = 8 then 107 else 0) ∧ pown wr w.heap.size (.agg #[s1, s2]) (aw m l) ∧ wr.heap[w2.heap.size]? = some (pobj s1 s2) ∧ Below w.heap.size w wr) (fun i _ => 8 - (intOf i).toNat)
  case atStart => exact ⟨3, 0, 0, _, _, by omega, by omega, rfl, by decide, by decide, O3.out, XB.out, B3.out⟩
  case round =>
    obtain ⟨k, m, l, p1, p2, hk3, hk8, rfl, hm, hl, ho, hb, bel⟩ := hrel
    obtain ⟨⟨c0, c1⟩, cf⟩ := pcell_of hb
    have WB := Lib.hid bel
    have OW := Lib.hid ho
    have HBX := Lib.hid hb
    by_cases hk : k < 8
    · have hk' : (k : Int) < 8 := by omega
      have hm0 : m = (k : Int) - 3 := by rw [hm, if_neg (by omega)]
      have hl0 : l = 0 := by rw [hl, if_neg (by omega)]
      have AX := A1.out wr (.agg #[p1, p2]) m l k bel (by omega) (by omega) ho
      have NX : Hid ((if 5 ≤ m + 1 then aw 0 (clk k 100) else aw (m + 1) l) = aw (if k + 1 = 8 then 0 else (k : Int) + 1 - 3) (if k + 1 = 8 then 107 else 0)) := Lib.hid (by
        by_cases h7 : k = 7
        · subst h7
          rw [if_pos (by omega), if_pos rfl, if_pos rfl, show clk ((7 : Nat) : Int) 100 = 107 from CK.out]
        · rw [if_neg (by omega), if_neg (by omega), if_neg (by omega), hl0, hm0]
          congr 1
          omega)
      rw [NX.out] at AX
      have AX := Lib.hid AX
      clear hm hl hm0 hl0 ho hb bel NX
      go_wp2_with (go_at_call 12; (with_reducible refine (AX.out).mono ?_); rintro e w4 ⟨a4, c4, a5, c5, rfl, o4, b4⟩; have O4 := Lib.hid o4; have B4 := Lib.hid (WB.out.trans (b4.mono WB.out.size)); have H4 := Lib.hid ((b4.block w2.heap.size (heap_lt HBX.out)).trans HBX.out); have H6 := Lib.hid ((Lib.alloc_old w4 (pobj (.slice a4 1 c4) (.slice a5 0 c5)) _ (heap_lt H4.out)).trans H4.out); obtain ⟨⟨d0, d1⟩, df⟩ := pcell_of H6.out; unfold pobj at d0 d1 df; clear o4 b4)
      go_roundw
      case rel =>
        refine ⟨k + 1, (if k + 1 = 8 then 0 else (k : Int) + 1 - 3), (if k + 1 = 8 then 107 else 0), _, _, by omega, by omega, by go_num, by split <;> omega, rfl, ?_, pbox_set H6.out _ _, ?_⟩
        · exact (O4.out.below ((Below.refl _ _).alloc (Nat.le_refl _) _)).apart H6.out _ _
        · exact ((B4.out.alloc B4.out.size _).setCell s2 _).setCell s2 _
      case measure => simp [intOf]; omega
    · have hk' : ¬ (k : Int) < 8 := by omega
      obtain rfl : k = 8 := by omega
      rw [if_pos rfl] at hm hl
      subst hm hl
      have FX := Lib.hid (FD.out wr (.agg #[p1, p2]) ho)
      clear ho hb bel
      go_wp2_with (go_at_call 14; (with_reducible refine (FX.out).mono ?_); rintro e w4 ⟨rfl, b4⟩; have B4 := Lib.hid (WB.out.trans (b4.mono WB.out.size)); clear b4)
      go_ret
      exact ⟨rfl, B4.out.alloc B4.out.size _⟩
end Go.Proofs.YtkihleecjgoipaaGreatDoor
end
