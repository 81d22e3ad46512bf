/- law17's Num.event, awake. -/
import Derived.Test.YtcidllckmidkoaaDoorCopn
namespace Go.Proofs.YtcidllckmidkoaaDoor
open Go.RowKit Go.Maps

theorem i64_mask (n : Int) (k : Nat) (hk : k ≤ 30) : bits .and .i64 n ((2 ^ k - 1 : Nat) : Int) = n % ((2 ^ k : Nat) : Int) := by
  have h2 : 2 ^ k ≤ 2 ^ 30 := Nat.pow_le_pow_right (by omega) hk
  have h0 : 0 < 2 ^ k := Nat.two_pow_pos k
  have hm : (BitVec.ofInt 64 ((2 ^ k - 1 : Nat) : Int)).toNat = 2 ^ k - 1 := by
    rw [BitVec.toNat_ofInt]
    have : (((2 ^ k - 1 : Nat) : Int) % ((2 ^ 64 : Nat) : Int)).toNat = 2 ^ k - 1 := by
      generalize 2 ^ k = q at *
      omega
    exact this
  have key : (BitVec.ofInt 64 n &&& BitVec.ofInt 64 ((2 ^ k - 1 : Nat) : Int)).toNat = (n % ((2 ^ 64 : Nat) : Int)).toNat % 2 ^ k := by
    rw [BitVec.toNat_and, hm, BitVec.toNat_ofInt, Nat.and_two_pow_sub_one_eq_mod]
  show IntKind.i64.wrap ((BitVec.ofInt 64 n &&& BitVec.ofInt 64 ((2 ^ k - 1 : Nat) : Int)).toNat : Nat) = _
  rw [key, IntKind.wrap_i64]
  have hd : (2 ^ k : Nat) ∣ 2 ^ 64 := Nat.pow_dvd_pow 2 (by omega)
  have e1 : ((n % ((2 ^ 64 : Nat) : Int)).toNat : Int) = n % ((2 ^ 64 : Nat) : Int) := by omega
  have e2 : (((n % ((2 ^ 64 : Nat) : Int)).toNat % 2 ^ k : Nat) : Int) = n % ((2 ^ k : Nat) : Int) := by
    rw [Int.natCast_emod, e1]
    exact Int.emod_emod_of_dvd _ (Int.natCast_dvd_natCast.2 hd)
  rw [e2]
  have b1 := Int.emod_nonneg n (show ((2 ^ k : Nat) : Int) ≠ 0 by omega)
  have b2 := Int.emod_lt_of_pos n (show (0 : Int) < ((2 ^ k : Nat) : Int) by omega)
  generalize n % ((2 ^ k : Nat) : Int) = r at *
  generalize 2 ^ k = q at *
  omega

structure NumV where
  kind : Int
  who : Int
  quo : Int
  ct : Int
  tk : Int
def NumV.agg (n : NumV) : Value := .agg #[.int .i64 n.kind, .int .i64 n.who, .int .i64 n.quo, .int .i64 n.ct, .int .i64 n.tk]
def NumV.obj (n : NumV) : Obj := .cells #[.int .i64 n.kind, .int .i64 n.who, .int .i64 n.quo, .int .i64 n.ct, .int .i64 n.tk] 39
def kindN (k : Nat) : Int := if k < 3 then 17 else if k < 6 then 18 else if k = 6 then 19 else 20
def nm (j : Nat) : ByteArray := ⟨#[UInt8.ofNat (97 + j), 64, 98, 46, 99, 100]⟩
def phone : ByteArray := ⟨#[43, 49, 50, 51, 52, 53, 54, 55, 56]⟩
def whoN (n : Int) : Int := (Int.tmod n 12 + 12).tmod 12
def nameN (ct : Int) : ByteArray := if ct % 16 < 8 then nm (ct % 8).toNat else phone
def evN (n : NumV) (now : Int) : Evn := ⟨kindN (n.kind % 8).toNat, 1 + whoN n.who, n.quo % 8, now, 0, nameN n.ct, ⟨#[]⟩, ⟨#[]⟩⟩
theorem whoN_le (n : Int) : 0 ≤ whoN n ∧ whoN n ≤ 11 := by
  unfold whoN
  have h1 := Int.lt_tmod_of_pos n (show (0 : Int) < 12 by decide)
  have h2 := Int.tmod_lt_of_pos n (show (0 : Int) < 12 by decide)
  rw [Int.tmod_eq_emod_of_nonneg (by omega)]
  omega
def zEv : Obj := .cells #[.int .i64 0, .int .i64 0, .int .i64 0, .int .i64 0, .int .i64 0, .string ⟨#[]⟩, .string ⟨#[]⟩, .string ⟨#[]⟩] 44
def kObj : Obj := .cells #[.int .i64 17, .int .i64 17, .int .i64 17, .int .i64 18, .int .i64 18, .int .i64 18, .int .i64 19, .int .i64 20] 67
theorem num_box (w : World) (n : NumV) : (w.alloc n.obj).cell? ⟨w.heap.size, 0, none⟩ = some (.int .i64 n.kind) ∧ (w.alloc n.obj).cell? ⟨w.heap.size, 1, none⟩ = some (.int .i64 n.who) ∧ (w.alloc n.obj).cell? ⟨w.heap.size, 2, none⟩ = some (.int .i64 n.quo) ∧ (w.alloc n.obj).cell? ⟨w.heap.size, 3, none⟩ = some (.int .i64 n.ct) ∧ (w.alloc n.obj).cell? ⟨w.heap.size, 4, none⟩ = some (.int .i64 n.tk) := by
  refine ⟨?_, ?_, ?_, ?_, ?_⟩ <;> rw [Lib.cell_of_heap (heap_new w n.obj)] <;> rfl
theorem kinds_at (k : Nat) (hk : k < 8) : (#[.int .i64 17, .int .i64 17, .int .i64 17, .int .i64 18, .int .i64 18, .int .i64 18, .int .i64 19, .int .i64 20] : Array Value)[k]? = some (.int .i64 (kindN k)) := by
  have hc : k = 0 ∨ k = 1 ∨ k = 2 ∨ k = 3 ∨ k = 4 ∨ k = 5 ∨ k = 6 ∨ k = 7 := by omega
  rcases hc with rfl | rfl | rfl | rfl | rfl | rfl | rfl | rfl <;> rfl
theorem nm_cut (k : Nat) (hk : k < 8) : ByteArray.extract ⟨#[97, 98, 99, 100, 101, 102, 103, 104]⟩ k (k + 1) ++ ⟨#[64, 98, 46, 99, 100]⟩ = nm k := by
  have hc : k = 0 ∨ k = 1 ∨ k = 2 ∨ k = 3 ∨ k = 4 ∨ k = 5 ∨ k = 6 ∨ k = 7 := by omega
  rcases hc with rfl | rfl | rfl | rfl | rfl | rfl | rfl | rfl <;> decide +kernel
theorem heap_new2 (w : World) (a b c : Obj) : (((w.alloc a).alloc b).alloc c).drew.heap[w.heap.size + 1]? = some b := by
  show (((w.alloc a).alloc b).alloc c).heap[w.heap.size + 1]? = some b
  rw [Lib.alloc_old _ _ _ (by simp)]
  have h := heap_new (w.alloc a) b
  rwa [World.size_alloc] at h
theorem ev_of {w : World} {b : Nat} {e : Evn} (h : w.heap[b]? = some e.obj) : w.cell? ⟨b, 0, none⟩ = some (.int .i64 e.kind) ∧ w.cell? ⟨b, 1, none⟩ = some (.int .i64 e.acc) ∧ w.cell? ⟨b, 2, none⟩ = some (.int .i64 e.pur) ∧ w.cell? ⟨b, 3, none⟩ = some (.int .i64 e.at_) ∧
    w.cell? ⟨b, 4, none⟩ = some (.int .i64 e.num) ∧ w.cell? ⟨b, 5, none⟩ = some (.string e.a) ∧ w.cell? ⟨b, 6, none⟩ = some (.string e.b) ∧ w.cell? ⟨b, 7, none⟩ = some (.string e.c) := by
  refine ⟨?_, ?_, ?_, ?_, ?_, ?_, ?_, ?_⟩ <;> rw [Lib.cell_of_heap h] <;> rfl
set_option maxHeartbeats 4000000 in
set_option maxRecDepth 100000 in
theorem event_any (n : NumV) (now : Int) (w : World) : Calls Tryd.prog 21 #[n.agg, .int .i64 now] w fun e w' => e = .returned (evN n now).agg ∧ Below w.heap.size w w' := by
  obtain ⟨kind, who, quo, ct, tk⟩ := n
  obtain ⟨k, hk, hkq⟩ : ∃ k : Nat, k < 8 ∧ bits .and .i64 kind 7 = (k : Int) := ⟨(kind % 8).toNat, by omega, by rw [show bits .and .i64 kind 7 = kind % 8 from i64_mask kind 3 (by omega)]; omega⟩
  obtain ⟨c8, hc8, hc8q⟩ : ∃ k : Nat, k < 8 ∧ bits .and .i64 ct 7 = (k : Int) := ⟨(ct % 8).toNat, by omega, by rw [show bits .and .i64 ct 7 = ct % 8 from i64_mask ct 3 (by omega)]; omega⟩
  obtain ⟨c16, hc16, hc16q⟩ : ∃ k : Nat, k < 16 ∧ bits .and .i64 ct 15 = (k : Int) := ⟨(ct % 16).toNat, by omega, by rw [show bits .and .i64 ct 15 = ct % 16 from i64_mask ct 4 (by omega)]; omega⟩
  have hq : bits .and .i64 quo 7 = quo % 8 := i64_mask quo 3 (by omega)
  have hw12 := whoN_le who
  obtain ⟨hr1, hr2⟩ : -12 < Int.tmod who 12 ∧ Int.tmod who 12 < 12 := ⟨Int.lt_tmod_of_pos who (by decide), Int.tmod_lt_of_pos who (by decide)⟩
  have hE : Hid (evN ⟨kind, who, quo, ct, tk⟩ now = ⟨kindN k, 1 + whoN who, quo % 8, now, 0, if c16 < 8 then nm c8 else phone, ⟨#[]⟩, ⟨#[]⟩⟩) := Lib.hid (by
    have e1 : kind % 8 = k := by rw [← hkq]; exact (i64_mask kind 3 (by omega)).symm
    have e2 : ct % 8 = c8 := by rw [← hc8q]; exact (i64_mask ct 3 (by omega)).symm
    have e3 : ct % 16 = c16 := by rw [← hc16q]; exact (i64_mask ct 4 (by omega)).symm
    unfold evN nameN
    simp only
    rw [e1, e2, e3]
    simp only [Int.toNat_natCast]
    congr 1
    split <;> split <;> first | rfl | omega)
  generalize evN ⟨kind, who, quo, ct, tk⟩ now = ev at *
  obtain ⟨q, hqq⟩ : ∃ q, quo % 8 = q := ⟨_, rfl⟩
  rw [hqq] at hq hE
  obtain ⟨wh, hwh⟩ : ∃ wh, whoN who = wh := ⟨_, rfl⟩
  rw [hwh] at hE hw12
  have hwh2 : (Int.tmod who 12 + 12).tmod 12 = wh := hwh
  have b0 := num_box w ⟨kind, who, quo, ct, tk⟩
  obtain ⟨m0, m1, m2, m3, m4⟩ := b0
  unfold NumV.obj at *
  unfold NumV.agg
  simp only at *
  have kc : (((w.alloc (.cells #[.int .i64 kind, .int .i64 who, .int .i64 quo, .int .i64 ct, .int .i64 tk] 39)).alloc zEv).alloc kObj).cell? ⟨w.heap.size + 1 + 1, k, none⟩ = some (.int .i64 (kindN k)) := by
    have h := heap_new ((w.alloc (.cells #[.int .i64 kind, .int .i64 who, .int .i64 quo, .int .i64 ct, .int .i64 tk] 39)).alloc zEv) kObj
    simp only [World.size_alloc] at h
    rw [Lib.cell_of_heap h]
    exact kinds_at k hk
  unfold zEv kObj at kc
  have hki : (k : Int) < 8 := by omega
  have hk0 : (0 : Int) ≤ k := by omega
  clear hqq hwh
  by_cases h16 : c16 < 8
  · have h16' : (c16 : Int) < 8 := by omega
    go_enter Tryd.func21, Tryd.ntmps21
    go_wp2_with fail
    go_region
    go_wp2_with fail
    refine bodyPost_ret (v := (Evn.mk (kindN k) (1 + wh) q now 0 (ByteArray.extract ⟨#[97, 98, 99, 100, 101, 102, 103, 104]⟩ c8 (c8 + 1) ++ ⟨#[64, 98, 46, 99, 100]⟩) ⟨#[]⟩ ⟨#[]⟩).agg) ?_ rfl ⟨by rw [hE.out, if_pos h16, nm_cut c8 hc8], ?_⟩
    · have hz := heap_new2 w (.cells #[.int .i64 kind, .int .i64 who, .int .i64 quo, .int .i64 ct, .int .i64 tk] 39) (.cells #[.int .i64 (kindN k), .int .i64 (1 + wh), .int .i64 q, .int .i64 now, .int .i64 0, .string (ByteArray.extract ⟨#[97, 98, 99, 100, 101, 102, 103, 104]⟩ c8 (c8 + 1) ++ ⟨#[64, 98, 46, 99, 100]⟩), .string ⟨#[]⟩, .string ⟨#[]⟩] 44) (.cells #[.int .i64 17, .int .i64 17, .int .i64 17, .int .i64 18, .int .i64 18, .int .i64 18, .int .i64 19, .int .i64 20] 67)
      obtain ⟨y0, y1, y2, y3, y4, y5, y6, y7⟩ := ev_of (e := Evn.mk (kindN k) (1 + wh) q now 0 _ ⟨#[]⟩ ⟨#[]⟩) hz
      simp only at y0 y1 y2 y3 y4 y5 y6 y7
      simp [results, Tryd.f21, go_sem, Evn.agg, y0, y1, y2, y3, y4, y5, y6, y7]
    · exact below_drew (below_alloc (below_alloc (below_alloc (Below.refl _ w) _) _) _)
  · have h16' : ¬ (c16 : Int) < 8 := by omega
    go_enter Tryd.func21, Tryd.ntmps21
    go_wp2_with fail
    go_region
    go_wp2_with fail
    refine bodyPost_ret (v := (Evn.mk (kindN k) (1 + wh) q now 0 ⟨#[43, 49, 50, 51, 52, 53, 54, 55, 56]⟩ ⟨#[]⟩ ⟨#[]⟩).agg) ?_ rfl ⟨by rw [hE.out, if_neg h16]; rfl, ?_⟩
    · have hz := heap_new2 w (.cells #[.int .i64 kind, .int .i64 who, .int .i64 quo, .int .i64 ct, .int .i64 tk] 39) (.cells #[.int .i64 (kindN k), .int .i64 (1 + wh), .int .i64 q, .int .i64 now, .int .i64 0, .string ⟨#[43, 49, 50, 51, 52, 53, 54, 55, 56]⟩, .string ⟨#[]⟩, .string ⟨#[]⟩] 44) (.cells #[.int .i64 17, .int .i64 17, .int .i64 17, .int .i64 18, .int .i64 18, .int .i64 18, .int .i64 19, .int .i64 20] 67)
      obtain ⟨y0, y1, y2, y3, y4, y5, y6, y7⟩ := ev_of (e := Evn.mk (kindN k) (1 + wh) q now 0 _ ⟨#[]⟩ ⟨#[]⟩) hz
      simp only at y0 y1 y2 y3 y4 y5 y6 y7
      simp [results, Tryd.f21, go_sem, Evn.agg, y0, y1, y2, y3, y4, y5, y6, y7]
    · exact below_drew (below_alloc (below_alloc (below_alloc (Below.refl _ w) _) _) _)

def quoF (n : Int) : Int := if n < 1 then 0 else min (n / 2 + 1) 5
set_option maxHeartbeats 1000000 in
set_option maxRecDepth 100000 in
theorem quorum_any (n : Int) (w : World) (hn : n ≤ 9223372036854775807) : Calls Tryd.prog 18 #[.int .i64 n] w fun e w' => e = .returned (.int .i64 (quoF n)) ∧ w' = w := by
  have HQ : Hid (quoF n = if n < 1 then 0 else min (n / 2 + 1) 5) := Lib.hid rfl
  by_cases h1 : n < 1
  · go_enter Tryd.func18, Tryd.ntmps18
    go_wp2_with fail
    go_ret
    exact ⟨ret_int (by rw [HQ.out, if_pos h1]), rfl⟩
  · obtain ⟨h, hh⟩ : ∃ h, n / 2 = h := ⟨_, rfl⟩
    have hwp : IntKind.i64.wrap (h + 1) = h + 1 := by rw [IntKind.wrap_i64] <;> omega
    have htd : Int.tdiv n 2 = h := by rw [Int.tdiv_eq_ediv_of_nonneg (by omega), hh]
    have HH := Lib.hid hh
    by_cases h5 : 5 < h + 1
    · go_enter Tryd.func18, Tryd.ntmps18
      go_wp2_with fail
      go_ret
      exact ⟨ret_int (by rw [HQ.out, if_neg (by omega), HH.out]), rfl⟩
    · go_enter Tryd.func18, Tryd.ntmps18
      go_wp2_with fail
      go_ret
      exact ⟨ret_int (by rw [HQ.out, if_neg (by omega), HH.out]), rfl⟩
theorem quo_vals : quoF 1 = 1 ∧ quoF 2 = 2 ∧ quoF 3 = 2 ∧ quoF 5 = 3 := by decide
set_option maxHeartbeats 1000000 in
set_option maxRecDepth 100000 in
theorem awake_any (w : World) : Calls Tryd.prog 7 #[] w fun e w' => e = .returned (.bool true) ∧ w' = w := by
  have Q1 := Lib.hid (fun w => quorum_any 1 w (by decide))
  have Q2 := Lib.hid (fun w => quorum_any 2 w (by decide))
  have Q3 := Lib.hid (fun w => quorum_any 3 w (by decide))
  have Q5 := Lib.hid (fun w => quorum_any 5 w (by decide))
  rw [quo_vals.1] at Q1
  rw [quo_vals.2.1] at Q2
  rw [quo_vals.2.2.1] at Q3
  rw [quo_vals.2.2.2] at Q5
  go_enter Tryd.func7, Tryd.ntmps7
  go_wp2_with (go_at_call 18; (first | (with_reducible refine (Q1.out _).mono ?_) | (with_reducible refine (Q2.out _).mono ?_) | (with_reducible refine (Q3.out _).mono ?_) | (with_reducible refine (Q5.out _).mono ?_)); rintro e w2 ⟨rfl, rfl⟩)
  go_ret
  exact ⟨rfl, rfl⟩
end Go.Proofs.YtcidllckmidkoaaDoor
