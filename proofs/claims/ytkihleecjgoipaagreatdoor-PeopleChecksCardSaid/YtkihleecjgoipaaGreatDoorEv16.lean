/- law16's Num.event. Written by wip/tools/mkev16.py. -/
import Derived.Test.YtkihleecjgoipaaGreatDoorMg5
namespace Go.Proofs.YtkihleecjgoipaaGreatDoor
open Go.RowKit Go.Maps Go.Proofs.YtkihleecjgoipaaGreatDoor.Rw Go.Proofs.YtkihleecjgoipaaGreatDoorW.PrintWords

structure Nm where
  kind : Int
  who : Int
  mail : Int
  salt : Int
  chk : Int
  at_ : Int
  n : Int
def Nm.cells (n : Nm) : List Value := [.int .i64 n.kind, .int .i64 n.who, .int .i64 n.mail, .int .i64 n.salt, .int .i64 n.chk, .int .i64 n.at_, .int .i64 n.n]
def Nm.agg (n : Nm) : Value := .agg #[.int .i64 n.kind, .int .i64 n.who, .int .i64 n.mail, .int .i64 n.salt, .int .i64 n.chk, .int .i64 n.at_, .int .i64 n.n]
def Nm.obj (n : Nm) : Obj := .cells #[.int .i64 n.kind, .int .i64 n.who, .int .i64 n.mail, .int .i64 n.salt, .int .i64 n.chk, .int .i64 n.at_, .int .i64 n.n] 50
def letters : ByteArray := ⟨#[97, 98, 99, 100, 101, 102, 103, 104, 105, 106, 107, 108, 109, 110, 111, 112]⟩
def phone : ByteArray := ⟨#[43, 49, 50, 51, 52, 53, 54, 55, 56]⟩
def mailN (m : Nat) : ByteArray := if m = 15 then phone else letters.extract m (m + 1) ++ ⟨#[64, 98, 46, 99, 100]⟩
def whoN (n : Int) : Int := (Int.tmod n 13 + 13).tmod 13
theorem whoN_le (n : Int) : 0 ≤ whoN n ∧ whoN n ≤ 12 := by
  unfold whoN
  have h1 := Int.lt_tmod_of_pos n (show (0 : Int) < 13 by decide)
  have h2 := Int.tmod_lt_of_pos n (show (0 : Int) < 13 by decide)
  rw [Int.tmod_eq_emod_of_nonneg (by omega)]
  omega
def evK (n : Nm) : Int := if 1 ≤ n.kind % 16 ∧ n.kind % 16 ≤ 9 then n.kind % 16 else 1
def evI (n : Nm) (nx : Int) : Int := if 1 ≤ n.kind % 16 ∧ n.kind % 16 ≤ 9 then 1 + whoN n.who else nx
def evZ (n : Nm) : Nat := if n.chk % 8 = 7 then 31 else 32
def evN (n : Nm) (p : Ppl) : Evn := ⟨evK n, min (evI n (nextN p)) 99, 0, n.at_ % 1024, n.n % 1024, mailN (n.mail % 16).toNat, fillS ((n.salt % 16).toNat + 3) (n.salt % 16).toNat, fillS (evZ n) (n.chk % 16).toNat⟩
set_option maxHeartbeats 2000000 in
set_option maxRecDepth 100000 in
theorem rnext_any {B : Nat} {v : Value} {p : Ppl} {w : World} (hown : pown w B v p) (lim : few p) (hs : small p) :
    Calls Tryz.prog 44 #[v] w fun e w' => e = .returned (.int .i64 (nextN p)) ∧ Below w.heap.size w w' := by
  obtain ⟨a, c, a', c', rfl, o1, o2⟩ := hown
  obtain ⟨lim1, lim2⟩ := lim
  have hb : Below w.heap.size w (w.alloc (pobj (.slice a p.ps.length c) (.slice a' p.ss.length c'))) := (Below.refl _ _).alloc (Nat.le_refl _) _
  obtain ⟨x0, x1⟩ := pbox w (.slice a p.ps.length c) (.slice a' p.ss.length c')
  by_cases h0 : p.ps.length = 0
  · have NN : Hid (nextN p = 1) := Lib.hid (by unfold nextN; rw [if_pos h0])
    have h0' : ((p.ps.length : Nat) : Int) = 0 := by omega
    generalize nextN p = r at *
    rw [h0] at hb x0 ⊢
    have HB := Lib.hid hb
    clear o1 o2 hb h0 h0'
    unfold pobj at *
    go_enter Tryz.func44, Tryz.ntmps44
    go_wp2_with fail
    go_ret
    exact ⟨ret_int NN.out.symm, HB.out⟩
  · have hk : p.ps.length - 1 < p.ps.length := by omega
    have hsm := hs.at hk
    obtain ⟨g, rfl, _, _, m0, m1, m2, m3, m4, m5, m6, m7, m8, m9, m10, m11, m12⟩ := (o1.below hb).all _ hk
    have NN : Hid (nextN p = (p.ps[p.ps.length - 1]?.getD Per.zero).id + 1) := Lib.hid (by unfold nextN; rw [if_neg h0])
    generalize p.ps[p.ps.length - 1]?.getD Per.zero = x at *
    generalize nextN p = r at *
    obtain ⟨n, hn⟩ : ∃ n, p.ps.length = n + 1 := ⟨p.ps.length - 1, by omega⟩
    rw [hn] at x0 m0 m1 m2 m3 m4 m5 m6 m7 m8 m9 m10 m11 m12 hb lim1 ⊢
    rw [Nat.add_sub_cancel] at m0
    have hz : ¬ ((n + 1 : Nat) : Int) = 0 := by omega
    have e1 : IntKind.i64.wrap (((n + 1 : Nat) : Int) - 1) = n := by rw [IntKind.wrap_i64] <;> omega
    have hw : IntKind.i64.wrap (x.id + 1) = x.id + 1 := by rw [IntKind.wrap_i64] <;> omega
    have hn0 : (0 : Int) ≤ n := by omega
    have hn1 : (n : Int) < ((n + 1 : Nat) : Int) := by omega
    have HB := Lib.hid hb
    clear o1 o2 hb h0 hn hk hs m1 m2 m3 m4 m5 m6 m7 m8 m9 m10 m11 m12
    unfold pobj at *
    go_enter Tryz.func44, Tryz.ntmps44
    go_wp2_with fail
    go_ret
    exact ⟨ret_int (by rw [NN.out]), HB.out⟩
theorem nm_box (w : World) (n : Nm) : (w.alloc n.obj).cell? ⟨w.heap.size, 0, none⟩ = some (.int .i64 n.kind) ∧ (w.alloc n.obj).cell? ⟨w.heap.size, 1, none⟩ = some (.int .i64 n.who) ∧ (w.alloc n.obj).cell? ⟨w.heap.size, 2, none⟩ = some (.int .i64 n.mail) ∧ (w.alloc n.obj).cell? ⟨w.heap.size, 3, none⟩ = some (.int .i64 n.salt) ∧ (w.alloc n.obj).cell? ⟨w.heap.size, 4, none⟩ = some (.int .i64 n.chk) ∧ (w.alloc n.obj).cell? ⟨w.heap.size, 5, none⟩ = some (.int .i64 n.at_) ∧ (w.alloc n.obj).cell? ⟨w.heap.size, 6, none⟩ = some (.int .i64 n.n) := by
  refine ⟨?_, ?_, ?_, ?_, ?_, ?_, ?_⟩ <;> rw [Lib.cell_of_heap (heap_new w n.obj)] <;> rfl
theorem nm_later {w w2 : World} {n : Nm} {g B : Nat} (h : w.cell? ⟨g, 0, none⟩ = some (.int .i64 n.kind) ∧ w.cell? ⟨g, 1, none⟩ = some (.int .i64 n.who) ∧ w.cell? ⟨g, 2, none⟩ = some (.int .i64 n.mail) ∧ w.cell? ⟨g, 3, none⟩ = some (.int .i64 n.salt) ∧ w.cell? ⟨g, 4, none⟩ = some (.int .i64 n.chk) ∧ w.cell? ⟨g, 5, none⟩ = some (.int .i64 n.at_) ∧ w.cell? ⟨g, 6, none⟩ = some (.int .i64 n.n)) (b : Below B w w2) (hl : g < B) : w2.cell? ⟨g, 0, none⟩ = some (.int .i64 n.kind) ∧ w2.cell? ⟨g, 1, none⟩ = some (.int .i64 n.who) ∧ w2.cell? ⟨g, 2, none⟩ = some (.int .i64 n.mail) ∧ w2.cell? ⟨g, 3, none⟩ = some (.int .i64 n.salt) ∧ w2.cell? ⟨g, 4, none⟩ = some (.int .i64 n.chk) ∧ w2.cell? ⟨g, 5, none⟩ = some (.int .i64 n.at_) ∧ w2.cell? ⟨g, 6, none⟩ = some (.int .i64 n.n) := by
  obtain ⟨z0, z1, z2, z3, z4, z5, z6⟩ := h
  exact ⟨(b.cell (p := ⟨g, 0, none⟩) hl).trans z0, (b.cell (p := ⟨g, 1, none⟩) hl).trans z1, (b.cell (p := ⟨g, 2, none⟩) hl).trans z2, (b.cell (p := ⟨g, 3, none⟩) hl).trans z3, (b.cell (p := ⟨g, 4, none⟩) hl).trans z4, (b.cell (p := ⟨g, 5, none⟩) hl).trans z5, (b.cell (p := ⟨g, 6, none⟩) hl).trans z6⟩
theorem ev_far {w : World} {b c : Nat} (h : b ≠ c) (j : Nat) (v0 v1 v2 v3 v4 v5 v6 v7 : Value) : ((((((((w.setCell ⟨b, 0, none⟩ v0).setCell ⟨b, 1, none⟩ v1).setCell ⟨b, 2, none⟩ v2).setCell ⟨b, 3, none⟩ v3).setCell ⟨b, 4, none⟩ v4).setCell ⟨b, 5, none⟩ v5).setCell ⟨b, 6, none⟩ v6).setCell ⟨b, 7, none⟩ v7).cell? ⟨c, j, none⟩ = w.cell? ⟨c, j, none⟩ := by
  rw [cell_far h, cell_far h, cell_far h, cell_far h, cell_far h, cell_far h, cell_far h, cell_far h]
def zEv : Obj := .cells #[.int .i64 0, .int .i64 0, .int .i64 0, .int .i64 0, .int .i64 0, .string ⟨#[]⟩, .string ⟨#[]⟩, .string ⟨#[]⟩] 46
set_option maxHeartbeats 8000000 in
set_option maxRecDepth 100000 in
theorem event_any (n : Nm) {B : Nat} {v : Value} {p : Ppl} {w : World} (hown : pown w B v p) (lim : few p) (hs : small p) : Calls Tryz.prog 16 #[n.agg, v] w fun e w' => e = .returned (evN n p).agg ∧ Below w.heap.size w w' := by
  have hown0 := hown
  obtain ⟨a, c, a', c', rfl, o1, o2⟩ := hown
  have hnx : 0 ≤ nextN p ∧ nextN p ≤ 1001 := by
    unfold nextN
    split
    · omega
    · have := hs.at (k := p.ps.length - 1) (by omega)
      omega
  have z1 : (w.alloc n.obj).heap.size = w.heap.size + 1 := by simp
  have z2 : ((w.alloc n.obj).alloc (pobj (.slice a p.ps.length c) (.slice a' p.ss.length c'))).heap.size = w.heap.size + 2 := by simp
  have z3 : (((w.alloc n.obj).alloc (pobj (.slice a p.ps.length c) (.slice a' p.ss.length c'))).alloc zEv).heap.size = w.heap.size + 3 := by simp
  have b3 : Below w.heap.size w (((w.alloc n.obj).alloc (pobj (.slice a p.ps.length c) (.slice a' p.ss.length c'))).alloc zEv) := (((Below.refl _ _).alloc (Nat.le_refl _) _).alloc (by simp) _).alloc (by simp; omega) _
  have AT : Hid (∀ w2, Below (w.heap.size + 3) (((w.alloc n.obj).alloc (pobj (.slice a p.ps.length c) (.slice a' p.ss.length c'))).alloc zEv) w2 → (w2.cell? ⟨w.heap.size, 0, none⟩ = some (.int .i64 n.kind) ∧ w2.cell? ⟨w.heap.size, 1, none⟩ = some (.int .i64 n.who) ∧ w2.cell? ⟨w.heap.size, 2, none⟩ = some (.int .i64 n.mail) ∧ w2.cell? ⟨w.heap.size, 3, none⟩ = some (.int .i64 n.salt) ∧ w2.cell? ⟨w.heap.size, 4, none⟩ = some (.int .i64 n.chk) ∧ w2.cell? ⟨w.heap.size, 5, none⟩ = some (.int .i64 n.at_) ∧ w2.cell? ⟨w.heap.size, 6, none⟩ = some (.int .i64 n.n)) ∧ (w2.cell? ⟨w.heap.size + 1, 0, none⟩ = some (.slice a p.ps.length c) ∧ w2.cell? ⟨w.heap.size + 1, 1, none⟩ = some (.slice a' p.ss.length c')) ∧ w2.heap[w.heap.size + 2]? = some zEv) := Lib.hid (fun w2 b => by
    have h0 : (((w.alloc n.obj).alloc (pobj (.slice a p.ps.length c) (.slice a' p.ss.length c'))).alloc zEv).heap[w.heap.size]? = some n.obj := by
      rw [Lib.alloc_old _ _ _ (by omega), Lib.alloc_old _ _ _ (by omega)]; exact heap_new _ _
    have h1 : (((w.alloc n.obj).alloc (pobj (.slice a p.ps.length c) (.slice a' p.ss.length c'))).alloc zEv).heap[w.heap.size + 1]? = some (pobj (.slice a p.ps.length c) (.slice a' p.ss.length c')) := by
      rw [Lib.alloc_old _ _ _ (by omega), ← z1]; exact heap_new _ _
    have h2 : (((w.alloc n.obj).alloc (pobj (.slice a p.ps.length c) (.slice a' p.ss.length c'))).alloc zEv).heap[w.heap.size + 2]? = some zEv := by
      rw [← z2]; exact heap_new _ _
    have k0 := (b.block w.heap.size (by omega)).trans h0
    obtain ⟨y, _⟩ := pcell_of ((b.block _ (by omega)).trans h1)
    refine ⟨⟨?_, ?_, ?_, ?_, ?_, ?_, ?_⟩, y, (b.block _ (by omega)).trans h2⟩ <;> rw [Lib.cell_of_heap k0] <;> rfl)
  have BB : Hid (∀ w2, Below (w.heap.size + 3) (((w.alloc n.obj).alloc (pobj (.slice a p.ps.length c) (.slice a' p.ss.length c'))).alloc zEv) w2 → Below w.heap.size w w2) := Lib.hid (fun w2 b => b3.trans (b.mono (by omega)))
  have NX : Hid (∀ w2, Below (w.heap.size + 3) (((w.alloc n.obj).alloc (pobj (.slice a p.ps.length c) (.slice a' p.ss.length c'))).alloc zEv) w2 → Calls Tryz.prog 44 #[.agg #[.slice a p.ps.length c, .slice a' p.ss.length c']] w2 fun r w' => r = .returned (.int .i64 (nextN p)) ∧ Below (w.heap.size + 3) (((w.alloc n.obj).alloc (pobj (.slice a p.ps.length c) (.slice a' p.ss.length c'))).alloc zEv) w') := Lib.hid (fun w2 b =>
    (rnext_any (hown0.below (BB.out _ b)) lim hs).mono fun r w' ⟨q1, q2⟩ => ⟨q1, b.trans (q2.mono (by have := b.size; omega))⟩)
  have FI : Hid (∀ (m x : Nat) w2, m ≤ 64 → x < 16 → Below (w.heap.size + 3) (((w.alloc n.obj).alloc (pobj (.slice a p.ps.length c) (.slice a' p.ss.length c'))).alloc zEv) w2 → Calls Tryz.prog 13 #[.int .i64 m, .int .i64 x] w2 fun r w' => r = .returned (.string (fillS m x)) ∧ Below (w.heap.size + 3) (((w.alloc n.obj).alloc (pobj (.slice a p.ps.length c) (.slice a' p.ss.length c'))).alloc zEv) w') := Lib.hid (fun m x w2 hm hx b =>
    (fill_any m x hm hx w2).mono fun r w' ⟨q1, q2⟩ => ⟨q1, b.trans (q2.mono (by have := b.size; omega))⟩)
  have E : Hid (evN n p = ⟨evK n, min (evI n (nextN p)) 99, 0, n.at_ % 1024, n.n % 1024, mailN (n.mail % 16).toNat, fillS ((n.salt % 16).toNat + 3) (n.salt % 16).toNat, fillS (evZ n) (n.chk % 16).toNat⟩) := Lib.hid rfl
  have EK : Hid (evK n = if 1 ≤ n.kind % 16 ∧ n.kind % 16 ≤ 9 then n.kind % 16 else 1) := Lib.hid rfl
  have EI : Hid (evI n (nextN p) = if 1 ≤ n.kind % 16 ∧ n.kind % 16 ≤ 9 then 1 + whoN n.who else nextN p) := Lib.hid rfl
  have EZ : Hid (evZ n = if n.chk % 8 = 7 then 31 else 32) := Lib.hid rfl
  have MN : Hid (mailN (n.mail % 16).toNat = if (n.mail % 16).toNat = 15 then phone else letters.extract (n.mail % 16).toNat ((n.mail % 16).toNat + 1) ++ ⟨#[64, 98, 46, 99, 100]⟩) := Lib.hid rfl
  have OW := Lib.hid hown0
  obtain ⟨⟨m0, m1, m2, m3, m4, m5, m6⟩, ⟨x0, x1⟩, _⟩ := AT.out _ (Below.refl _ _)
  generalize evN n p = ev at *
  generalize evK n = ek at *
  generalize evI n (nextN p) = ei at *
  generalize evZ n = ez at *
  generalize mailN (n.mail % 16).toNat = ml at *
  generalize nextN p = nx at *
  clear o1 o2 b3 z1 z2 z3 hown0
  obtain ⟨kind, who, mail, salt, chk, at0, nn⟩ := n
  simp only at *
  obtain ⟨ki, hki, hkq⟩ : ∃ k : Nat, k < 16 ∧ bits .and .i64 kind 15 = (k : Int) := ⟨(kind % 16).toNat, by omega, by rw [show bits .and .i64 kind 15 = kind % 16 from i64_mask kind 4 (by omega)]; omega⟩
  have hkm : kind % 16 = ki := by rw [← hkq]; exact (i64_mask kind 4 (by omega)).symm
  obtain ⟨mi, hmi, hmq⟩ : ∃ k : Nat, k < 16 ∧ bits .and .i64 mail 15 = (k : Int) := ⟨(mail % 16).toNat, by omega, by rw [show bits .and .i64 mail 15 = mail % 16 from i64_mask mail 4 (by omega)]; omega⟩
  have hmm : mail % 16 = mi := by rw [← hmq]; exact (i64_mask mail 4 (by omega)).symm
  obtain ⟨si, hsi, hsq⟩ : ∃ k : Nat, k < 16 ∧ bits .and .i64 salt 15 = (k : Int) := ⟨(salt % 16).toNat, by omega, by rw [show bits .and .i64 salt 15 = salt % 16 from i64_mask salt 4 (by omega)]; omega⟩
  have hsm : salt % 16 = si := by rw [← hsq]; exact (i64_mask salt 4 (by omega)).symm
  obtain ⟨ci, hci, hcq⟩ : ∃ k : Nat, k < 16 ∧ bits .and .i64 chk 15 = (k : Int) := ⟨(chk % 16).toNat, by omega, by rw [show bits .and .i64 chk 15 = chk % 16 from i64_mask chk 4 (by omega)]; omega⟩
  have hcm : chk % 16 = ci := by rw [← hcq]; exact (i64_mask chk 4 (by omega)).symm
  have hc7 : bits .and .i64 chk 7 = chk % 8 := i64_mask chk 3 (by omega)
  have ha1 : bits .and .i64 at0 1023 = at0 % 1024 := i64_mask at0 10 (by omega)
  have hn1 : bits .and .i64 nn 1023 = nn % 1024 := i64_mask nn 10 (by omega)
  have hwl := whoN_le who
  obtain ⟨hr1, hr2⟩ : -13 < Int.tmod who 13 ∧ Int.tmod who 13 < 13 := ⟨Int.lt_tmod_of_pos who (by decide), Int.tmod_lt_of_pos who (by decide)⟩
  obtain ⟨wh, hwh⟩ : ∃ wh, whoN who = wh := ⟨_, rfl⟩
  have hwh2 : (Int.tmod who 13 + 13).tmod 13 = wh := hwh
  rw [hmm] at MN
  rw [hsm, hcm] at E
  simp only [Int.toNat_natCast] at E MN
  rw [hwh] at EI hwl
  rw [hkm] at EK EI
  obtain ⟨c7, hc7e⟩ : ∃ c7, chk % 8 = c7 := ⟨_, rfl⟩
  rw [hc7e] at hc7 EZ
  obtain ⟨aa, haa⟩ : ∃ aa, at0 % 1024 = aa := ⟨_, rfl⟩
  obtain ⟨na, hna⟩ : ∃ na, nn % 1024 = na := ⟨_, rfl⟩
  rw [haa] at ha1 E
  rw [hna] at hn1 E
  clear hwh hkm hmm hsm hcm hc7e haa hna hs lim
  have hmi0 : (0 : Int) ≤ mi := by omega
  have hmi1 : (mi : Int) + 1 ≤ 16 := by omega
  have hmi2 : (mi : Int) ≤ mi + 1 := by omega
  have hs3 : IntKind.i64.wrap ((si : Int) + 3) = ((si + 3 : Nat) : Int) := by rw [IntKind.wrap_i64] <;> omega
  unfold letters phone at MN
  unfold pobj zEv Nm.obj at *
  unfold Nm.agg
  simp only at *
  by_cases hk0 : 1 ≤ (ki : Int) ∧ (ki : Int) ≤ 9
  · obtain ⟨hk1, hk2⟩ := id hk0
    have hk1' : decide ((ki : Int) < 1) = false := decide_eq_false (by omega)
    have hk2' : decide (9 < (ki : Int)) = false := decide_eq_false (by omega)
    by_cases h15 : mi = 15
    · have h15n : (mi : Int) = 15 := by omega
      by_cases h7 : c7 = 7
      · skip
        go_enter Tryz.func16, Tryz.ntmps16
        have B4 := Lib.hid (Below.refl (w.heap.size + 3) ((((w.alloc (.cells #[.int .i64 kind, .int .i64 who, .int .i64 mail, .int .i64 salt, .int .i64 chk, .int .i64 at0, .int .i64 nn] 50)).alloc (.cells #[.slice a p.ps.length c, .slice a' p.ss.length c'] 25)).alloc (.cells #[.int .i64 0, .int .i64 0, .int .i64 0, .int .i64 0, .int .i64 0, .string ⟨#[]⟩, .string ⟨#[]⟩, .string ⟨#[]⟩] 46))))
        go_wp2_with fail
        refine wp_region_held_drew (S := fun w' => w'.cell? ⟨w.heap.size, 0, none⟩ = some (.int .i64 kind) ∧ w'.cell? ⟨w.heap.size, 1, none⟩ = some (.int .i64 who) ∧ w'.cell? ⟨w.heap.size, 2, none⟩ = some (.int .i64 mail) ∧ w'.cell? ⟨w.heap.size, 3, none⟩ = some (.int .i64 salt) ∧ w'.cell? ⟨w.heap.size, 4, none⟩ = some (.int .i64 chk) ∧ w'.cell? ⟨w.heap.size, 5, none⟩ = some (.int .i64 at0) ∧ w'.cell? ⟨w.heap.size, 6, none⟩ = some (.int .i64 nn)) (by kernel_rfl) ?_ (fun hHeld0 => ?_)
        · exact (AT.out _ B4.out).1
        refine wpAnyH_take (i := 0) (v := ?_) rfl (by kernel_rfl) (by kernel_rfl) (by kernel_rfl) (fun _ _ _ h => h) (Or.inl ⟨by rfl, ?_⟩) (by assumption) ?_
        rotate_left
        · intro w hSw; (try dsimp only at hSw); obtain ⟨g0, g1, g2, g3, g4, g5, g6⟩ := hSw; go_simp; (try with_reducible rfl)
        simp only [List.getElem_toArray, List.getElem_cons_zero, Act.put, List.setIfInBounds_toArray, List.set_cons_zero, List.set_cons_succ]
        refine wpAnyH_take (i := 1) (v := ?_) rfl (by kernel_rfl) (by kernel_rfl) (by kernel_rfl) (fun _ _ _ h => h) (Or.inl ⟨by rfl, ?_⟩) (by assumption) ?_
        rotate_left
        · intro w hSw; (try dsimp only at hSw); obtain ⟨g0, g1, g2, g3, g4, g5, g6⟩ := hSw; go_simp; (try with_reducible rfl)
        simp only [List.getElem_toArray, List.getElem_cons_succ, List.getElem_cons_zero, Act.put, List.setIfInBounds_toArray, List.set_cons_zero, List.set_cons_succ]
        refine wpAnyH_take (i := 2) (v := ?_) rfl (by kernel_rfl) (by kernel_rfl) (by kernel_rfl) (fun _ _ _ h => h) (Or.inl ⟨by rfl, ?_⟩) (by assumption) ?_
        rotate_left
        · intro w hSw; (try dsimp only at hSw); obtain ⟨g0, g1, g2, g3, g4, g5, g6⟩ := hSw; go_simp; (try with_reducible rfl)
        simp only [List.getElem_toArray, List.getElem_cons_succ, List.getElem_cons_zero, Act.put, List.setIfInBounds_toArray, List.set_cons_zero, List.set_cons_succ]
        refine wpAnyH_take (i := 3) (v := ?_) rfl (by kernel_rfl) (by kernel_rfl) (by kernel_rfl) (fun _ _ _ h => h) (Or.inl ⟨by rfl, ?_⟩) (by assumption) ?_
        rotate_left
        · intro w hSw; (try dsimp only at hSw); obtain ⟨g0, g1, g2, g3, g4, g5, g6⟩ := hSw; go_simp; (try with_reducible rfl)
        simp only [List.getElem_toArray, List.getElem_cons_succ, List.getElem_cons_zero, Act.put, List.setIfInBounds_toArray, List.set_cons_zero, List.set_cons_succ]
        refine wpAnyH_take (i := 4) (v := ?_) rfl (by kernel_rfl) (by kernel_rfl) (by kernel_rfl) (fun _ _ _ h => h) (Or.inl ⟨by rfl, ?_⟩) (by assumption) ?_
        rotate_left
        · intro w hSw; (try dsimp only at hSw); obtain ⟨g0, g1, g2, g3, g4, g5, g6⟩ := hSw; go_simp; (try with_reducible rfl)
        simp only [List.getElem_toArray, List.getElem_cons_succ, List.getElem_cons_zero, Act.put, List.setIfInBounds_toArray, List.set_cons_zero, List.set_cons_succ]
        refine wpAnyH_take (i := 5) (v := ?_) rfl (by kernel_rfl) (by kernel_rfl) (by kernel_rfl) (fun _ _ _ h => h) (Or.inl ⟨by rfl, ?_⟩) (by assumption) ?_
        rotate_left
        · intro w hSw; (try dsimp only at hSw); obtain ⟨g0, g1, g2, g3, g4, g5, g6⟩ := hSw; go_simp; (try with_reducible rfl)
        simp only [List.getElem_toArray, List.getElem_cons_succ, List.getElem_cons_zero, Act.put, List.setIfInBounds_toArray, List.set_cons_zero, List.set_cons_succ]
        refine wpAnyH_take (i := 6) (v := ?_) rfl (by kernel_rfl) (by kernel_rfl) (by kernel_rfl) (fun _ _ _ h => h) (Or.inl ⟨by rfl, ?_⟩) (by assumption) ?_
        rotate_left
        · intro w hSw; (try dsimp only at hSw); obtain ⟨g0, g1, g2, g3, g4, g5, g6⟩ := hSw; go_simp; (try with_reducible rfl)
        simp only [List.getElem_toArray, List.getElem_cons_succ, List.getElem_cons_zero, Act.put, List.setIfInBounds_toArray, List.set_cons_zero, List.set_cons_succ]
        refine wpAnyH_take (i := 7) (v := ?_) rfl (by kernel_rfl) (by kernel_rfl) (by kernel_rfl) (fun _ _ _ h => h) (Or.inl ⟨by rfl, ?_⟩) (by assumption) ?_
        rotate_left
        · intro w hSw; (try dsimp only at hSw); obtain ⟨g0, g1, g2, g3, g4, g5, g6⟩ := hSw; go_simp; (try with_reducible rfl)
        simp only [List.getElem_toArray, List.getElem_cons_succ, List.getElem_cons_zero, Act.put, List.setIfInBounds_toArray, List.set_cons_zero, List.set_cons_succ]
        refine wpAnyH_take (i := 8) (v := ?_) rfl (by kernel_rfl) (by kernel_rfl) (by kernel_rfl) (fun _ _ _ h => h) (Or.inl ⟨by rfl, ?_⟩) (by assumption) ?_
        rotate_left
        · intro w hSw; (try dsimp only at hSw); obtain ⟨g0, g1, g2, g3, g4, g5, g6⟩ := hSw; go_simp; (try with_reducible rfl)
        simp only [List.getElem_toArray, List.getElem_cons_succ, List.getElem_cons_zero, Act.put, List.setIfInBounds_toArray, List.set_cons_zero, List.set_cons_succ]
        refine wpAnyH_take (i := 9) (v := ?_) rfl (by kernel_rfl) (by kernel_rfl) (by kernel_rfl) (fun _ _ _ h => h) (Or.inl ⟨by rfl, ?_⟩) (by assumption) ?_
        rotate_left
        · intro w hSw; (try dsimp only at hSw); obtain ⟨g0, g1, g2, g3, g4, g5, g6⟩ := hSw; go_simp; (try with_reducible rfl)
        simp only [List.getElem_toArray, List.getElem_cons_succ, List.getElem_cons_zero, Act.put, List.setIfInBounds_toArray, List.set_cons_zero, List.set_cons_succ]
        refine wpAnyH_take (i := 10) (v := ?_) rfl (by kernel_rfl) (by kernel_rfl) (by kernel_rfl) (fun _ _ _ h => h) (Or.inl ⟨by rfl, ?_⟩) (by assumption) ?_
        rotate_left
        · intro w hSw; (try dsimp only at hSw); obtain ⟨g0, g1, g2, g3, g4, g5, g6⟩ := hSw; go_simp; (try with_reducible rfl)
        simp only [List.getElem_toArray, List.getElem_cons_succ, List.getElem_cons_zero, Act.put, List.setIfInBounds_toArray, List.set_cons_zero, List.set_cons_succ]
        refine wpAnyH_take (i := 11) (v := ?_) rfl (by kernel_rfl) (by kernel_rfl) (by kernel_rfl) (fun _ _ _ h => h) (Or.inl ⟨by rfl, ?_⟩) (by assumption) ?_
        rotate_left
        · intro w hSw; (try dsimp only at hSw); obtain ⟨g0, g1, g2, g3, g4, g5, g6⟩ := hSw; go_simp; (try with_reducible rfl)
        simp only [List.getElem_toArray, List.getElem_cons_succ, List.getElem_cons_zero, Act.put, List.setIfInBounds_toArray, List.set_cons_zero, List.set_cons_succ]
        refine wpAnyH_take (i := 12) (v := ?_) rfl (by kernel_rfl) (by kernel_rfl) (by kernel_rfl) (fun _ _ _ h => h) (Or.inl ⟨by rfl, ?_⟩) (by assumption) ?_
        rotate_left
        · intro w hSw; (try dsimp only at hSw); obtain ⟨g0, g1, g2, g3, g4, g5, g6⟩ := hSw; go_simp; (try with_reducible rfl)
        simp only [List.getElem_toArray, List.getElem_cons_succ, List.getElem_cons_zero, Act.put, List.setIfInBounds_toArray, List.set_cons_zero, List.set_cons_succ]
        refine wpAnyH_take (i := 13) (v := ?_) rfl (by kernel_rfl) (by kernel_rfl) (by kernel_rfl) (fun _ _ _ h => h) (Or.inl ⟨by rfl, ?_⟩) (by assumption) ?_
        rotate_left
        · intro w hSw; (try dsimp only at hSw); obtain ⟨g0, g1, g2, g3, g4, g5, g6⟩ := hSw; go_simp; (try with_reducible rfl)
        simp only [List.getElem_toArray, List.getElem_cons_succ, List.getElem_cons_zero, Act.put, List.setIfInBounds_toArray, List.set_cons_zero, List.set_cons_succ]
        refine wpAnyH_take (i := 14) (v := ?_) rfl (by kernel_rfl) (by kernel_rfl) (by kernel_rfl) (fun _ _ _ h => h) (Or.inl ⟨by rfl, ?_⟩) (by assumption) ?_
        rotate_left
        · intro w hSw; (try dsimp only at hSw); obtain ⟨g0, g1, g2, g3, g4, g5, g6⟩ := hSw; go_simp; (try with_reducible rfl)
        simp only [List.getElem_toArray, List.getElem_cons_succ, List.getElem_cons_zero, Act.put, List.setIfInBounds_toArray, List.set_cons_zero, List.set_cons_succ]
        refine wpAnyH_take (i := 15) (v := ?_) rfl (by kernel_rfl) (by kernel_rfl) (by kernel_rfl) (fun _ _ _ h => h) (Or.inl ⟨by rfl, ?_⟩) (by assumption) ?_
        rotate_left
        · intro w hSw; (try dsimp only at hSw); obtain ⟨g0, g1, g2, g3, g4, g5, g6⟩ := hSw; go_simp; (try with_reducible rfl)
        simp only [List.getElem_toArray, List.getElem_cons_succ, List.getElem_cons_zero, Act.put, List.setIfInBounds_toArray, List.set_cons_zero, List.set_cons_succ]
        refine wpAnyH_take (i := 16) (v := ?_) rfl (by kernel_rfl) (by kernel_rfl) (by kernel_rfl) (fun _ _ _ h => h) (Or.inl ⟨by rfl, ?_⟩) (by assumption) ?_
        rotate_left
        · intro w hSw; (try dsimp only at hSw); obtain ⟨g0, g1, g2, g3, g4, g5, g6⟩ := hSw; go_simp; (try with_reducible rfl)
        simp only [List.getElem_toArray, List.getElem_cons_succ, List.getElem_cons_zero, Act.put, List.setIfInBounds_toArray, List.set_cons_zero, List.set_cons_succ]
        refine wpAnyH_take (i := 18) (v := ?_) rfl (by kernel_rfl) (by kernel_rfl) (by kernel_rfl) (fun _ _ _ h => h) (Or.inl ⟨by rfl, ?_⟩) (by assumption) ?_
        rotate_left
        · intro w hSw; (try dsimp only at hSw); obtain ⟨g0, g1, g2, g3, g4, g5, g6⟩ := hSw; go_simp; (try with_reducible rfl)
        simp only [List.getElem_toArray, List.getElem_cons_succ, List.getElem_cons_zero, Act.put, List.setIfInBounds_toArray, List.set_cons_zero, List.set_cons_succ]
        refine wpAnyH_take (i := 19) (v := ?_) rfl (by kernel_rfl) (by kernel_rfl) (by kernel_rfl) (fun _ _ _ h => h) (Or.inl ⟨by rfl, ?_⟩) (by assumption) ?_
        rotate_left
        · intro w hSw; (try dsimp only at hSw); obtain ⟨g0, g1, g2, g3, g4, g5, g6⟩ := hSw; go_simp; (try with_reducible rfl)
        simp only [List.getElem_toArray, List.getElem_cons_succ, List.getElem_cons_zero, Act.put, List.setIfInBounds_toArray, List.set_cons_zero, List.set_cons_succ]
        refine wpAnyH_take (i := 20) (v := ?_) rfl (by kernel_rfl) (by kernel_rfl) (by kernel_rfl) (fun _ _ _ h => h) (Or.inl ⟨by rfl, ?_⟩) (by assumption) ?_
        rotate_left
        · intro w hSw; (try dsimp only at hSw); obtain ⟨g0, g1, g2, g3, g4, g5, g6⟩ := hSw; go_simp; (try with_reducible rfl)
        simp only [List.getElem_toArray, List.getElem_cons_succ, List.getElem_cons_zero, Act.put, List.setIfInBounds_toArray, List.set_cons_zero, List.set_cons_succ]
        refine wpAnyH_take (i := 21) (v := ?_) rfl (by kernel_rfl) (by kernel_rfl) (by kernel_rfl) (fun _ _ _ h => h) (Or.inl ⟨by rfl, ?_⟩) (by assumption) ?_
        rotate_left
        · intro w hSw; (try dsimp only at hSw); obtain ⟨g0, g1, g2, g3, g4, g5, g6⟩ := hSw; go_simp; (try with_reducible rfl)
        simp only [List.getElem_toArray, List.getElem_cons_succ, List.getElem_cons_zero, Act.put, List.setIfInBounds_toArray, List.set_cons_zero, List.set_cons_succ]
        refine wpAnyH_ready (rs := [17]) (by kernel_rfl) (by simp) ?_
        refine AllReadyH.cons rfl (fun K hK => ?_) AllReadyH.nil
        go_simp
        (go_at_call 13; (refine (FI.out (si + 3) si _ (by omega) (by omega) (below_drew B4.out)).mono ?_); rintro z w5 ⟨rfl, b5⟩)
        have B5 := Lib.hid b5
        clear b5
        refine hK.out _ _ ?_ (fun hHeld1 => ?_)
        · exact (AT.out _ B5.out).1
        clear hK K hHeld0
        try simp only [List.getElem_toArray, List.getElem_cons_succ, List.getElem_cons_zero, Act.put, List.setIfInBounds_toArray, List.set_cons_zero, List.set_cons_succ]
        refine wpAnyH_ready (rs := [22]) (by kernel_rfl) (by simp) ?_
        refine AllReadyH.cons rfl (fun K hK => ?_) AllReadyH.nil
        go_simp
        (go_at_call 13; (refine (FI.out 31 ci _ (by omega) (by omega) B5.out).mono ?_); rintro z w6 ⟨rfl, b6⟩)
        have B6 := Lib.hid b6
        clear b6
        refine hK.out _ _ ?_ (fun hHeld2 => ?_)
        · exact (AT.out _ B6.out).1
        clear hK K hHeld1
        try simp only [List.getElem_toArray, List.getElem_cons_succ, List.getElem_cons_zero, Act.put, List.setIfInBounds_toArray, List.set_cons_zero, List.set_cons_succ]
        refine wpAnyH_take (i := 23) (v := ?_) rfl (by kernel_rfl) (by kernel_rfl) (by kernel_rfl) (fun _ _ _ h => h) (Or.inl ⟨by rfl, ?_⟩) (by assumption) ?_
        rotate_left
        · intro w hSw; (try dsimp only at hSw); obtain ⟨g0, g1, g2, g3, g4, g5, g6⟩ := hSw; go_simp; (try with_reducible rfl)
        simp only [List.getElem_toArray, List.getElem_cons_succ, List.getElem_cons_zero, Act.put, List.setIfInBounds_toArray, List.set_cons_zero, List.set_cons_succ]
        obtain ⟨⟨g0, g1, g2, g3, g4, g5, g6⟩, _, hz⟩ := AT.out _ B6.out
        obtain ⟨e0, e1, e2, e3, e4, e5, e6, e7⟩ := EvAt.of (e := ⟨0, 0, 0, 0, 0, ⟨#[]⟩, ⟨#[]⟩, ⟨#[]⟩⟩) hz
        have ef := fun j => frozen_of_row _ _ j _ _ hz
        simp only at e0 e1 e2 e3 e4 e5 e6 e7
        refine wpAnyH_ready (rs := [24]) (by kernel_rfl) (by simp) ?_
        refine AllReadyH.cons rfl (fun K hK => ?_) AllReadyH.nil
        go_simp
        refine hK.out _ _ ?_ (fun hHeld9 => ?_)
        · exact ⟨(ev_far (by omega) _ _ _ _ _ _ _ _ _).trans g0, (ev_far (by omega) _ _ _ _ _ _ _ _ _).trans g1, (ev_far (by omega) _ _ _ _ _ _ _ _ _).trans g2, (ev_far (by omega) _ _ _ _ _ _ _ _ _).trans g3, (ev_far (by omega) _ _ _ _ _ _ _ _ _).trans g4, (ev_far (by omega) _ _ _ _ _ _ _ _ _).trans g5, (ev_far (by omega) _ _ _ _ _ _ _ _ _).trans g6⟩
        clear hK K
        refine wpAnyH_done (by kernel_rfl) ?_ _
        go_wp2_with fail
        refine bodyPost_ret (v := (Evn.mk ki (min (1 + wh) 99) 0 aa na ⟨#[43, 49, 50, 51, 52, 53, 54, 55, 56]⟩ (fillS (si + 3) si) (fillS 31 ci)).agg) ?_ rfl ⟨?_, ?_⟩
        · simp [results, Tryz.f16, go_sem, Evn.agg, e0, e1, e2, e3, e4, e5, e6, e7]
        · rw [E.out, EK.out, EI.out, EZ.out, MN.out, if_pos hk0, if_pos hk0, if_pos h7, if_pos h15]
        · exact (((((((((BB.out _ B6.out).setCell (by first | omega | (simp; omega) | simp) _).setCell (by first | omega | (simp; omega) | simp) _).setCell (by first | omega | (simp; omega) | simp) _).setCell (by first | omega | (simp; omega) | simp) _).setCell (by first | omega | (simp; omega) | simp) _).setCell (by first | omega | (simp; omega) | simp) _).setCell (by first | omega | (simp; omega) | simp) _).setCell (by first | omega | (simp; omega) | simp) _)
      · skip
        go_enter Tryz.func16, Tryz.ntmps16
        have B4 := Lib.hid (Below.refl (w.heap.size + 3) ((((w.alloc (.cells #[.int .i64 kind, .int .i64 who, .int .i64 mail, .int .i64 salt, .int .i64 chk, .int .i64 at0, .int .i64 nn] 50)).alloc (.cells #[.slice a p.ps.length c, .slice a' p.ss.length c'] 25)).alloc (.cells #[.int .i64 0, .int .i64 0, .int .i64 0, .int .i64 0, .int .i64 0, .string ⟨#[]⟩, .string ⟨#[]⟩, .string ⟨#[]⟩] 46))))
        go_wp2_with fail
        refine wp_region_held_drew (S := fun w' => w'.cell? ⟨w.heap.size, 0, none⟩ = some (.int .i64 kind) ∧ w'.cell? ⟨w.heap.size, 1, none⟩ = some (.int .i64 who) ∧ w'.cell? ⟨w.heap.size, 2, none⟩ = some (.int .i64 mail) ∧ w'.cell? ⟨w.heap.size, 3, none⟩ = some (.int .i64 salt) ∧ w'.cell? ⟨w.heap.size, 4, none⟩ = some (.int .i64 chk) ∧ w'.cell? ⟨w.heap.size, 5, none⟩ = some (.int .i64 at0) ∧ w'.cell? ⟨w.heap.size, 6, none⟩ = some (.int .i64 nn)) (by kernel_rfl) ?_ (fun hHeld0 => ?_)
        · exact (AT.out _ B4.out).1
        refine wpAnyH_take (i := 0) (v := ?_) rfl (by kernel_rfl) (by kernel_rfl) (by kernel_rfl) (fun _ _ _ h => h) (Or.inl ⟨by rfl, ?_⟩) (by assumption) ?_
        rotate_left
        · intro w hSw; (try dsimp only at hSw); obtain ⟨g0, g1, g2, g3, g4, g5, g6⟩ := hSw; go_simp; (try with_reducible rfl)
        simp only [List.getElem_toArray, List.getElem_cons_zero, Act.put, List.setIfInBounds_toArray, List.set_cons_zero, List.set_cons_succ]
        refine wpAnyH_take (i := 1) (v := ?_) rfl (by kernel_rfl) (by kernel_rfl) (by kernel_rfl) (fun _ _ _ h => h) (Or.inl ⟨by rfl, ?_⟩) (by assumption) ?_
        rotate_left
        · intro w hSw; (try dsimp only at hSw); obtain ⟨g0, g1, g2, g3, g4, g5, g6⟩ := hSw; go_simp; (try with_reducible rfl)
        simp only [List.getElem_toArray, List.getElem_cons_succ, List.getElem_cons_zero, Act.put, List.setIfInBounds_toArray, List.set_cons_zero, List.set_cons_succ]
        refine wpAnyH_take (i := 2) (v := ?_) rfl (by kernel_rfl) (by kernel_rfl) (by kernel_rfl) (fun _ _ _ h => h) (Or.inl ⟨by rfl, ?_⟩) (by assumption) ?_
        rotate_left
        · intro w hSw; (try dsimp only at hSw); obtain ⟨g0, g1, g2, g3, g4, g5, g6⟩ := hSw; go_simp; (try with_reducible rfl)
        simp only [List.getElem_toArray, List.getElem_cons_succ, List.getElem_cons_zero, Act.put, List.setIfInBounds_toArray, List.set_cons_zero, List.set_cons_succ]
        refine wpAnyH_take (i := 3) (v := ?_) rfl (by kernel_rfl) (by kernel_rfl) (by kernel_rfl) (fun _ _ _ h => h) (Or.inl ⟨by rfl, ?_⟩) (by assumption) ?_
        rotate_left
        · intro w hSw; (try dsimp only at hSw); obtain ⟨g0, g1, g2, g3, g4, g5, g6⟩ := hSw; go_simp; (try with_reducible rfl)
        simp only [List.getElem_toArray, List.getElem_cons_succ, List.getElem_cons_zero, Act.put, List.setIfInBounds_toArray, List.set_cons_zero, List.set_cons_succ]
        refine wpAnyH_take (i := 4) (v := ?_) rfl (by kernel_rfl) (by kernel_rfl) (by kernel_rfl) (fun _ _ _ h => h) (Or.inl ⟨by rfl, ?_⟩) (by assumption) ?_
        rotate_left
        · intro w hSw; (try dsimp only at hSw); obtain ⟨g0, g1, g2, g3, g4, g5, g6⟩ := hSw; go_simp; (try with_reducible rfl)
        simp only [List.getElem_toArray, List.getElem_cons_succ, List.getElem_cons_zero, Act.put, List.setIfInBounds_toArray, List.set_cons_zero, List.set_cons_succ]
        refine wpAnyH_take (i := 5) (v := ?_) rfl (by kernel_rfl) (by kernel_rfl) (by kernel_rfl) (fun _ _ _ h => h) (Or.inl ⟨by rfl, ?_⟩) (by assumption) ?_
        rotate_left
        · intro w hSw; (try dsimp only at hSw); obtain ⟨g0, g1, g2, g3, g4, g5, g6⟩ := hSw; go_simp; (try with_reducible rfl)
        simp only [List.getElem_toArray, List.getElem_cons_succ, List.getElem_cons_zero, Act.put, List.setIfInBounds_toArray, List.set_cons_zero, List.set_cons_succ]
        refine wpAnyH_take (i := 6) (v := ?_) rfl (by kernel_rfl) (by kernel_rfl) (by kernel_rfl) (fun _ _ _ h => h) (Or.inl ⟨by rfl, ?_⟩) (by assumption) ?_
        rotate_left
        · intro w hSw; (try dsimp only at hSw); obtain ⟨g0, g1, g2, g3, g4, g5, g6⟩ := hSw; go_simp; (try with_reducible rfl)
        simp only [List.getElem_toArray, List.getElem_cons_succ, List.getElem_cons_zero, Act.put, List.setIfInBounds_toArray, List.set_cons_zero, List.set_cons_succ]
        refine wpAnyH_take (i := 7) (v := ?_) rfl (by kernel_rfl) (by kernel_rfl) (by kernel_rfl) (fun _ _ _ h => h) (Or.inl ⟨by rfl, ?_⟩) (by assumption) ?_
        rotate_left
        · intro w hSw; (try dsimp only at hSw); obtain ⟨g0, g1, g2, g3, g4, g5, g6⟩ := hSw; go_simp; (try with_reducible rfl)
        simp only [List.getElem_toArray, List.getElem_cons_succ, List.getElem_cons_zero, Act.put, List.setIfInBounds_toArray, List.set_cons_zero, List.set_cons_succ]
        refine wpAnyH_take (i := 8) (v := ?_) rfl (by kernel_rfl) (by kernel_rfl) (by kernel_rfl) (fun _ _ _ h => h) (Or.inl ⟨by rfl, ?_⟩) (by assumption) ?_
        rotate_left
        · intro w hSw; (try dsimp only at hSw); obtain ⟨g0, g1, g2, g3, g4, g5, g6⟩ := hSw; go_simp; (try with_reducible rfl)
        simp only [List.getElem_toArray, List.getElem_cons_succ, List.getElem_cons_zero, Act.put, List.setIfInBounds_toArray, List.set_cons_zero, List.set_cons_succ]
        refine wpAnyH_take (i := 9) (v := ?_) rfl (by kernel_rfl) (by kernel_rfl) (by kernel_rfl) (fun _ _ _ h => h) (Or.inl ⟨by rfl, ?_⟩) (by assumption) ?_
        rotate_left
        · intro w hSw; (try dsimp only at hSw); obtain ⟨g0, g1, g2, g3, g4, g5, g6⟩ := hSw; go_simp; (try with_reducible rfl)
        simp only [List.getElem_toArray, List.getElem_cons_succ, List.getElem_cons_zero, Act.put, List.setIfInBounds_toArray, List.set_cons_zero, List.set_cons_succ]
        refine wpAnyH_take (i := 10) (v := ?_) rfl (by kernel_rfl) (by kernel_rfl) (by kernel_rfl) (fun _ _ _ h => h) (Or.inl ⟨by rfl, ?_⟩) (by assumption) ?_
        rotate_left
        · intro w hSw; (try dsimp only at hSw); obtain ⟨g0, g1, g2, g3, g4, g5, g6⟩ := hSw; go_simp; (try with_reducible rfl)
        simp only [List.getElem_toArray, List.getElem_cons_succ, List.getElem_cons_zero, Act.put, List.setIfInBounds_toArray, List.set_cons_zero, List.set_cons_succ]
        refine wpAnyH_take (i := 11) (v := ?_) rfl (by kernel_rfl) (by kernel_rfl) (by kernel_rfl) (fun _ _ _ h => h) (Or.inl ⟨by rfl, ?_⟩) (by assumption) ?_
        rotate_left
        · intro w hSw; (try dsimp only at hSw); obtain ⟨g0, g1, g2, g3, g4, g5, g6⟩ := hSw; go_simp; (try with_reducible rfl)
        simp only [List.getElem_toArray, List.getElem_cons_succ, List.getElem_cons_zero, Act.put, List.setIfInBounds_toArray, List.set_cons_zero, List.set_cons_succ]
        refine wpAnyH_take (i := 12) (v := ?_) rfl (by kernel_rfl) (by kernel_rfl) (by kernel_rfl) (fun _ _ _ h => h) (Or.inl ⟨by rfl, ?_⟩) (by assumption) ?_
        rotate_left
        · intro w hSw; (try dsimp only at hSw); obtain ⟨g0, g1, g2, g3, g4, g5, g6⟩ := hSw; go_simp; (try with_reducible rfl)
        simp only [List.getElem_toArray, List.getElem_cons_succ, List.getElem_cons_zero, Act.put, List.setIfInBounds_toArray, List.set_cons_zero, List.set_cons_succ]
        refine wpAnyH_take (i := 13) (v := ?_) rfl (by kernel_rfl) (by kernel_rfl) (by kernel_rfl) (fun _ _ _ h => h) (Or.inl ⟨by rfl, ?_⟩) (by assumption) ?_
        rotate_left
        · intro w hSw; (try dsimp only at hSw); obtain ⟨g0, g1, g2, g3, g4, g5, g6⟩ := hSw; go_simp; (try with_reducible rfl)
        simp only [List.getElem_toArray, List.getElem_cons_succ, List.getElem_cons_zero, Act.put, List.setIfInBounds_toArray, List.set_cons_zero, List.set_cons_succ]
        refine wpAnyH_take (i := 14) (v := ?_) rfl (by kernel_rfl) (by kernel_rfl) (by kernel_rfl) (fun _ _ _ h => h) (Or.inl ⟨by rfl, ?_⟩) (by assumption) ?_
        rotate_left
        · intro w hSw; (try dsimp only at hSw); obtain ⟨g0, g1, g2, g3, g4, g5, g6⟩ := hSw; go_simp; (try with_reducible rfl)
        simp only [List.getElem_toArray, List.getElem_cons_succ, List.getElem_cons_zero, Act.put, List.setIfInBounds_toArray, List.set_cons_zero, List.set_cons_succ]
        refine wpAnyH_take (i := 15) (v := ?_) rfl (by kernel_rfl) (by kernel_rfl) (by kernel_rfl) (fun _ _ _ h => h) (Or.inl ⟨by rfl, ?_⟩) (by assumption) ?_
        rotate_left
        · intro w hSw; (try dsimp only at hSw); obtain ⟨g0, g1, g2, g3, g4, g5, g6⟩ := hSw; go_simp; (try with_reducible rfl)
        simp only [List.getElem_toArray, List.getElem_cons_succ, List.getElem_cons_zero, Act.put, List.setIfInBounds_toArray, List.set_cons_zero, List.set_cons_succ]
        refine wpAnyH_take (i := 16) (v := ?_) rfl (by kernel_rfl) (by kernel_rfl) (by kernel_rfl) (fun _ _ _ h => h) (Or.inl ⟨by rfl, ?_⟩) (by assumption) ?_
        rotate_left
        · intro w hSw; (try dsimp only at hSw); obtain ⟨g0, g1, g2, g3, g4, g5, g6⟩ := hSw; go_simp; (try with_reducible rfl)
        simp only [List.getElem_toArray, List.getElem_cons_succ, List.getElem_cons_zero, Act.put, List.setIfInBounds_toArray, List.set_cons_zero, List.set_cons_succ]
        refine wpAnyH_take (i := 18) (v := ?_) rfl (by kernel_rfl) (by kernel_rfl) (by kernel_rfl) (fun _ _ _ h => h) (Or.inl ⟨by rfl, ?_⟩) (by assumption) ?_
        rotate_left
        · intro w hSw; (try dsimp only at hSw); obtain ⟨g0, g1, g2, g3, g4, g5, g6⟩ := hSw; go_simp; (try with_reducible rfl)
        simp only [List.getElem_toArray, List.getElem_cons_succ, List.getElem_cons_zero, Act.put, List.setIfInBounds_toArray, List.set_cons_zero, List.set_cons_succ]
        refine wpAnyH_take (i := 19) (v := ?_) rfl (by kernel_rfl) (by kernel_rfl) (by kernel_rfl) (fun _ _ _ h => h) (Or.inl ⟨by rfl, ?_⟩) (by assumption) ?_
        rotate_left
        · intro w hSw; (try dsimp only at hSw); obtain ⟨g0, g1, g2, g3, g4, g5, g6⟩ := hSw; go_simp; (try with_reducible rfl)
        simp only [List.getElem_toArray, List.getElem_cons_succ, List.getElem_cons_zero, Act.put, List.setIfInBounds_toArray, List.set_cons_zero, List.set_cons_succ]
        refine wpAnyH_take (i := 20) (v := ?_) rfl (by kernel_rfl) (by kernel_rfl) (by kernel_rfl) (fun _ _ _ h => h) (Or.inl ⟨by rfl, ?_⟩) (by assumption) ?_
        rotate_left
        · intro w hSw; (try dsimp only at hSw); obtain ⟨g0, g1, g2, g3, g4, g5, g6⟩ := hSw; go_simp; (try with_reducible rfl)
        simp only [List.getElem_toArray, List.getElem_cons_succ, List.getElem_cons_zero, Act.put, List.setIfInBounds_toArray, List.set_cons_zero, List.set_cons_succ]
        refine wpAnyH_take (i := 21) (v := ?_) rfl (by kernel_rfl) (by kernel_rfl) (by kernel_rfl) (fun _ _ _ h => h) (Or.inl ⟨by rfl, ?_⟩) (by assumption) ?_
        rotate_left
        · intro w hSw; (try dsimp only at hSw); obtain ⟨g0, g1, g2, g3, g4, g5, g6⟩ := hSw; go_simp; (try with_reducible rfl)
        simp only [List.getElem_toArray, List.getElem_cons_succ, List.getElem_cons_zero, Act.put, List.setIfInBounds_toArray, List.set_cons_zero, List.set_cons_succ]
        refine wpAnyH_ready (rs := [17]) (by kernel_rfl) (by simp) ?_
        refine AllReadyH.cons rfl (fun K hK => ?_) AllReadyH.nil
        go_simp
        (go_at_call 13; (refine (FI.out (si + 3) si _ (by omega) (by omega) (below_drew B4.out)).mono ?_); rintro z w5 ⟨rfl, b5⟩)
        have B5 := Lib.hid b5
        clear b5
        refine hK.out _ _ ?_ (fun hHeld1 => ?_)
        · exact (AT.out _ B5.out).1
        clear hK K hHeld0
        try simp only [List.getElem_toArray, List.getElem_cons_succ, List.getElem_cons_zero, Act.put, List.setIfInBounds_toArray, List.set_cons_zero, List.set_cons_succ]
        refine wpAnyH_ready (rs := [22]) (by kernel_rfl) (by simp) ?_
        refine AllReadyH.cons rfl (fun K hK => ?_) AllReadyH.nil
        go_simp
        (go_at_call 13; (refine (FI.out 32 ci _ (by omega) (by omega) B5.out).mono ?_); rintro z w6 ⟨rfl, b6⟩)
        have B6 := Lib.hid b6
        clear b6
        refine hK.out _ _ ?_ (fun hHeld2 => ?_)
        · exact (AT.out _ B6.out).1
        clear hK K hHeld1
        try simp only [List.getElem_toArray, List.getElem_cons_succ, List.getElem_cons_zero, Act.put, List.setIfInBounds_toArray, List.set_cons_zero, List.set_cons_succ]
        refine wpAnyH_take (i := 23) (v := ?_) rfl (by kernel_rfl) (by kernel_rfl) (by kernel_rfl) (fun _ _ _ h => h) (Or.inl ⟨by rfl, ?_⟩) (by assumption) ?_
        rotate_left
        · intro w hSw; (try dsimp only at hSw); obtain ⟨g0, g1, g2, g3, g4, g5, g6⟩ := hSw; go_simp; (try with_reducible rfl)
        simp only [List.getElem_toArray, List.getElem_cons_succ, List.getElem_cons_zero, Act.put, List.setIfInBounds_toArray, List.set_cons_zero, List.set_cons_succ]
        obtain ⟨⟨g0, g1, g2, g3, g4, g5, g6⟩, _, hz⟩ := AT.out _ B6.out
        obtain ⟨e0, e1, e2, e3, e4, e5, e6, e7⟩ := EvAt.of (e := ⟨0, 0, 0, 0, 0, ⟨#[]⟩, ⟨#[]⟩, ⟨#[]⟩⟩) hz
        have ef := fun j => frozen_of_row _ _ j _ _ hz
        simp only at e0 e1 e2 e3 e4 e5 e6 e7
        refine wpAnyH_ready (rs := [24]) (by kernel_rfl) (by simp) ?_
        refine AllReadyH.cons rfl (fun K hK => ?_) AllReadyH.nil
        go_simp
        refine hK.out _ _ ?_ (fun hHeld9 => ?_)
        · exact ⟨(ev_far (by omega) _ _ _ _ _ _ _ _ _).trans g0, (ev_far (by omega) _ _ _ _ _ _ _ _ _).trans g1, (ev_far (by omega) _ _ _ _ _ _ _ _ _).trans g2, (ev_far (by omega) _ _ _ _ _ _ _ _ _).trans g3, (ev_far (by omega) _ _ _ _ _ _ _ _ _).trans g4, (ev_far (by omega) _ _ _ _ _ _ _ _ _).trans g5, (ev_far (by omega) _ _ _ _ _ _ _ _ _).trans g6⟩
        clear hK K
        refine wpAnyH_done (by kernel_rfl) ?_ _
        go_wp2_with fail
        refine bodyPost_ret (v := (Evn.mk ki (min (1 + wh) 99) 0 aa na ⟨#[43, 49, 50, 51, 52, 53, 54, 55, 56]⟩ (fillS (si + 3) si) (fillS 32 ci)).agg) ?_ rfl ⟨?_, ?_⟩
        · simp [results, Tryz.f16, go_sem, Evn.agg, e0, e1, e2, e3, e4, e5, e6, e7]
        · rw [E.out, EK.out, EI.out, EZ.out, MN.out, if_pos hk0, if_pos hk0, if_neg h7, if_pos h15]
        · exact (((((((((BB.out _ B6.out).setCell (by first | omega | (simp; omega) | simp) _).setCell (by first | omega | (simp; omega) | simp) _).setCell (by first | omega | (simp; omega) | simp) _).setCell (by first | omega | (simp; omega) | simp) _).setCell (by first | omega | (simp; omega) | simp) _).setCell (by first | omega | (simp; omega) | simp) _).setCell (by first | omega | (simp; omega) | simp) _).setCell (by first | omega | (simp; omega) | simp) _)
    · have h15n : ¬ (mi : Int) = 15 := by omega
      by_cases h7 : c7 = 7
      · skip
        go_enter Tryz.func16, Tryz.ntmps16
        have B4 := Lib.hid (Below.refl (w.heap.size + 3) ((((w.alloc (.cells #[.int .i64 kind, .int .i64 who, .int .i64 mail, .int .i64 salt, .int .i64 chk, .int .i64 at0, .int .i64 nn] 50)).alloc (.cells #[.slice a p.ps.length c, .slice a' p.ss.length c'] 25)).alloc (.cells #[.int .i64 0, .int .i64 0, .int .i64 0, .int .i64 0, .int .i64 0, .string ⟨#[]⟩, .string ⟨#[]⟩, .string ⟨#[]⟩] 46))))
        go_wp2_with fail
        refine wp_region_held_drew (S := fun w' => w'.cell? ⟨w.heap.size, 0, none⟩ = some (.int .i64 kind) ∧ w'.cell? ⟨w.heap.size, 1, none⟩ = some (.int .i64 who) ∧ w'.cell? ⟨w.heap.size, 2, none⟩ = some (.int .i64 mail) ∧ w'.cell? ⟨w.heap.size, 3, none⟩ = some (.int .i64 salt) ∧ w'.cell? ⟨w.heap.size, 4, none⟩ = some (.int .i64 chk) ∧ w'.cell? ⟨w.heap.size, 5, none⟩ = some (.int .i64 at0) ∧ w'.cell? ⟨w.heap.size, 6, none⟩ = some (.int .i64 nn)) (by kernel_rfl) ?_ (fun hHeld0 => ?_)
        · exact (AT.out _ B4.out).1
        refine wpAnyH_take (i := 0) (v := ?_) rfl (by kernel_rfl) (by kernel_rfl) (by kernel_rfl) (fun _ _ _ h => h) (Or.inl ⟨by rfl, ?_⟩) (by assumption) ?_
        rotate_left
        · intro w hSw; (try dsimp only at hSw); obtain ⟨g0, g1, g2, g3, g4, g5, g6⟩ := hSw; go_simp; (try with_reducible rfl)
        simp only [List.getElem_toArray, List.getElem_cons_zero, Act.put, List.setIfInBounds_toArray, List.set_cons_zero, List.set_cons_succ]
        refine wpAnyH_take (i := 1) (v := ?_) rfl (by kernel_rfl) (by kernel_rfl) (by kernel_rfl) (fun _ _ _ h => h) (Or.inl ⟨by rfl, ?_⟩) (by assumption) ?_
        rotate_left
        · intro w hSw; (try dsimp only at hSw); obtain ⟨g0, g1, g2, g3, g4, g5, g6⟩ := hSw; go_simp; (try with_reducible rfl)
        simp only [List.getElem_toArray, List.getElem_cons_succ, List.getElem_cons_zero, Act.put, List.setIfInBounds_toArray, List.set_cons_zero, List.set_cons_succ]
        refine wpAnyH_take (i := 2) (v := ?_) rfl (by kernel_rfl) (by kernel_rfl) (by kernel_rfl) (fun _ _ _ h => h) (Or.inl ⟨by rfl, ?_⟩) (by assumption) ?_
        rotate_left
        · intro w hSw; (try dsimp only at hSw); obtain ⟨g0, g1, g2, g3, g4, g5, g6⟩ := hSw; go_simp; (try with_reducible rfl)
        simp only [List.getElem_toArray, List.getElem_cons_succ, List.getElem_cons_zero, Act.put, List.setIfInBounds_toArray, List.set_cons_zero, List.set_cons_succ]
        refine wpAnyH_take (i := 3) (v := ?_) rfl (by kernel_rfl) (by kernel_rfl) (by kernel_rfl) (fun _ _ _ h => h) (Or.inl ⟨by rfl, ?_⟩) (by assumption) ?_
        rotate_left
        · intro w hSw; (try dsimp only at hSw); obtain ⟨g0, g1, g2, g3, g4, g5, g6⟩ := hSw; go_simp; (try with_reducible rfl)
        simp only [List.getElem_toArray, List.getElem_cons_succ, List.getElem_cons_zero, Act.put, List.setIfInBounds_toArray, List.set_cons_zero, List.set_cons_succ]
        refine wpAnyH_take (i := 4) (v := ?_) rfl (by kernel_rfl) (by kernel_rfl) (by kernel_rfl) (fun _ _ _ h => h) (Or.inl ⟨by rfl, ?_⟩) (by assumption) ?_
        rotate_left
        · intro w hSw; (try dsimp only at hSw); obtain ⟨g0, g1, g2, g3, g4, g5, g6⟩ := hSw; go_simp; (try with_reducible rfl)
        simp only [List.getElem_toArray, List.getElem_cons_succ, List.getElem_cons_zero, Act.put, List.setIfInBounds_toArray, List.set_cons_zero, List.set_cons_succ]
        refine wpAnyH_take (i := 5) (v := ?_) rfl (by kernel_rfl) (by kernel_rfl) (by kernel_rfl) (fun _ _ _ h => h) (Or.inl ⟨by rfl, ?_⟩) (by assumption) ?_
        rotate_left
        · intro w hSw; (try dsimp only at hSw); obtain ⟨g0, g1, g2, g3, g4, g5, g6⟩ := hSw; go_simp; (try with_reducible rfl)
        simp only [List.getElem_toArray, List.getElem_cons_succ, List.getElem_cons_zero, Act.put, List.setIfInBounds_toArray, List.set_cons_zero, List.set_cons_succ]
        refine wpAnyH_take (i := 6) (v := ?_) rfl (by kernel_rfl) (by kernel_rfl) (by kernel_rfl) (fun _ _ _ h => h) (Or.inl ⟨by rfl, ?_⟩) (by assumption) ?_
        rotate_left
        · intro w hSw; (try dsimp only at hSw); obtain ⟨g0, g1, g2, g3, g4, g5, g6⟩ := hSw; go_simp; (try with_reducible rfl)
        simp only [List.getElem_toArray, List.getElem_cons_succ, List.getElem_cons_zero, Act.put, List.setIfInBounds_toArray, List.set_cons_zero, List.set_cons_succ]
        refine wpAnyH_take (i := 7) (v := ?_) rfl (by kernel_rfl) (by kernel_rfl) (by kernel_rfl) (fun _ _ _ h => h) (Or.inl ⟨by rfl, ?_⟩) (by assumption) ?_
        rotate_left
        · intro w hSw; (try dsimp only at hSw); obtain ⟨g0, g1, g2, g3, g4, g5, g6⟩ := hSw; go_simp; (try with_reducible rfl)
        simp only [List.getElem_toArray, List.getElem_cons_succ, List.getElem_cons_zero, Act.put, List.setIfInBounds_toArray, List.set_cons_zero, List.set_cons_succ]
        refine wpAnyH_take (i := 8) (v := ?_) rfl (by kernel_rfl) (by kernel_rfl) (by kernel_rfl) (fun _ _ _ h => h) (Or.inl ⟨by rfl, ?_⟩) (by assumption) ?_
        rotate_left
        · intro w hSw; (try dsimp only at hSw); obtain ⟨g0, g1, g2, g3, g4, g5, g6⟩ := hSw; go_simp; (try with_reducible rfl)
        simp only [List.getElem_toArray, List.getElem_cons_succ, List.getElem_cons_zero, Act.put, List.setIfInBounds_toArray, List.set_cons_zero, List.set_cons_succ]
        refine wpAnyH_take (i := 9) (v := ?_) rfl (by kernel_rfl) (by kernel_rfl) (by kernel_rfl) (fun _ _ _ h => h) (Or.inl ⟨by rfl, ?_⟩) (by assumption) ?_
        rotate_left
        · intro w hSw; (try dsimp only at hSw); obtain ⟨g0, g1, g2, g3, g4, g5, g6⟩ := hSw; go_simp; (try with_reducible rfl)
        simp only [List.getElem_toArray, List.getElem_cons_succ, List.getElem_cons_zero, Act.put, List.setIfInBounds_toArray, List.set_cons_zero, List.set_cons_succ]
        refine wpAnyH_take (i := 10) (v := ?_) rfl (by kernel_rfl) (by kernel_rfl) (by kernel_rfl) (fun _ _ _ h => h) (Or.inl ⟨by rfl, ?_⟩) (by assumption) ?_
        rotate_left
        · intro w hSw; (try dsimp only at hSw); obtain ⟨g0, g1, g2, g3, g4, g5, g6⟩ := hSw; go_simp; (try with_reducible rfl)
        simp only [List.getElem_toArray, List.getElem_cons_succ, List.getElem_cons_zero, Act.put, List.setIfInBounds_toArray, List.set_cons_zero, List.set_cons_succ]
        refine wpAnyH_take (i := 11) (v := ?_) rfl (by kernel_rfl) (by kernel_rfl) (by kernel_rfl) (fun _ _ _ h => h) (Or.inl ⟨by rfl, ?_⟩) (by assumption) ?_
        rotate_left
        · intro w hSw; (try dsimp only at hSw); obtain ⟨g0, g1, g2, g3, g4, g5, g6⟩ := hSw; go_simp; (try with_reducible rfl)
        simp only [List.getElem_toArray, List.getElem_cons_succ, List.getElem_cons_zero, Act.put, List.setIfInBounds_toArray, List.set_cons_zero, List.set_cons_succ]
        refine wpAnyH_take (i := 12) (v := ?_) rfl (by kernel_rfl) (by kernel_rfl) (by kernel_rfl) (fun _ _ _ h => h) (Or.inl ⟨by rfl, ?_⟩) (by assumption) ?_
        rotate_left
        · intro w hSw; (try dsimp only at hSw); obtain ⟨g0, g1, g2, g3, g4, g5, g6⟩ := hSw; go_simp; (try with_reducible rfl)
        simp only [List.getElem_toArray, List.getElem_cons_succ, List.getElem_cons_zero, Act.put, List.setIfInBounds_toArray, List.set_cons_zero, List.set_cons_succ]
        refine wpAnyH_take (i := 13) (v := ?_) rfl (by kernel_rfl) (by kernel_rfl) (by kernel_rfl) (fun _ _ _ h => h) (Or.inl ⟨by rfl, ?_⟩) (by assumption) ?_
        rotate_left
        · intro w hSw; (try dsimp only at hSw); obtain ⟨g0, g1, g2, g3, g4, g5, g6⟩ := hSw; go_simp; (try with_reducible rfl)
        simp only [List.getElem_toArray, List.getElem_cons_succ, List.getElem_cons_zero, Act.put, List.setIfInBounds_toArray, List.set_cons_zero, List.set_cons_succ]
        refine wpAnyH_take (i := 14) (v := ?_) rfl (by kernel_rfl) (by kernel_rfl) (by kernel_rfl) (fun _ _ _ h => h) (Or.inl ⟨by rfl, ?_⟩) (by assumption) ?_
        rotate_left
        · intro w hSw; (try dsimp only at hSw); obtain ⟨g0, g1, g2, g3, g4, g5, g6⟩ := hSw; go_simp; (try with_reducible rfl)
        simp only [List.getElem_toArray, List.getElem_cons_succ, List.getElem_cons_zero, Act.put, List.setIfInBounds_toArray, List.set_cons_zero, List.set_cons_succ]
        refine wpAnyH_take (i := 15) (v := ?_) rfl (by kernel_rfl) (by kernel_rfl) (by kernel_rfl) (fun _ _ _ h => h) (Or.inl ⟨by rfl, ?_⟩) (by assumption) ?_
        rotate_left
        · intro w hSw; (try dsimp only at hSw); obtain ⟨g0, g1, g2, g3, g4, g5, g6⟩ := hSw; go_simp; (try with_reducible rfl)
        simp only [List.getElem_toArray, List.getElem_cons_succ, List.getElem_cons_zero, Act.put, List.setIfInBounds_toArray, List.set_cons_zero, List.set_cons_succ]
        refine wpAnyH_take (i := 16) (v := ?_) rfl (by kernel_rfl) (by kernel_rfl) (by kernel_rfl) (fun _ _ _ h => h) (Or.inl ⟨by rfl, ?_⟩) (by assumption) ?_
        rotate_left
        · intro w hSw; (try dsimp only at hSw); obtain ⟨g0, g1, g2, g3, g4, g5, g6⟩ := hSw; go_simp; (try with_reducible rfl)
        simp only [List.getElem_toArray, List.getElem_cons_succ, List.getElem_cons_zero, Act.put, List.setIfInBounds_toArray, List.set_cons_zero, List.set_cons_succ]
        refine wpAnyH_take (i := 18) (v := ?_) rfl (by kernel_rfl) (by kernel_rfl) (by kernel_rfl) (fun _ _ _ h => h) (Or.inl ⟨by rfl, ?_⟩) (by assumption) ?_
        rotate_left
        · intro w hSw; (try dsimp only at hSw); obtain ⟨g0, g1, g2, g3, g4, g5, g6⟩ := hSw; go_simp; (try with_reducible rfl)
        simp only [List.getElem_toArray, List.getElem_cons_succ, List.getElem_cons_zero, Act.put, List.setIfInBounds_toArray, List.set_cons_zero, List.set_cons_succ]
        refine wpAnyH_take (i := 19) (v := ?_) rfl (by kernel_rfl) (by kernel_rfl) (by kernel_rfl) (fun _ _ _ h => h) (Or.inl ⟨by rfl, ?_⟩) (by assumption) ?_
        rotate_left
        · intro w hSw; (try dsimp only at hSw); obtain ⟨g0, g1, g2, g3, g4, g5, g6⟩ := hSw; go_simp; (try with_reducible rfl)
        simp only [List.getElem_toArray, List.getElem_cons_succ, List.getElem_cons_zero, Act.put, List.setIfInBounds_toArray, List.set_cons_zero, List.set_cons_succ]
        refine wpAnyH_take (i := 20) (v := ?_) rfl (by kernel_rfl) (by kernel_rfl) (by kernel_rfl) (fun _ _ _ h => h) (Or.inl ⟨by rfl, ?_⟩) (by assumption) ?_
        rotate_left
        · intro w hSw; (try dsimp only at hSw); obtain ⟨g0, g1, g2, g3, g4, g5, g6⟩ := hSw; go_simp; (try with_reducible rfl)
        simp only [List.getElem_toArray, List.getElem_cons_succ, List.getElem_cons_zero, Act.put, List.setIfInBounds_toArray, List.set_cons_zero, List.set_cons_succ]
        refine wpAnyH_take (i := 21) (v := ?_) rfl (by kernel_rfl) (by kernel_rfl) (by kernel_rfl) (fun _ _ _ h => h) (Or.inl ⟨by rfl, ?_⟩) (by assumption) ?_
        rotate_left
        · intro w hSw; (try dsimp only at hSw); obtain ⟨g0, g1, g2, g3, g4, g5, g6⟩ := hSw; go_simp; (try with_reducible rfl)
        simp only [List.getElem_toArray, List.getElem_cons_succ, List.getElem_cons_zero, Act.put, List.setIfInBounds_toArray, List.set_cons_zero, List.set_cons_succ]
        refine wpAnyH_ready (rs := [17]) (by kernel_rfl) (by simp) ?_
        refine AllReadyH.cons rfl (fun K hK => ?_) AllReadyH.nil
        go_simp
        (go_at_call 13; (refine (FI.out (si + 3) si _ (by omega) (by omega) (below_drew B4.out)).mono ?_); rintro z w5 ⟨rfl, b5⟩)
        have B5 := Lib.hid b5
        clear b5
        refine hK.out _ _ ?_ (fun hHeld1 => ?_)
        · exact (AT.out _ B5.out).1
        clear hK K hHeld0
        try simp only [List.getElem_toArray, List.getElem_cons_succ, List.getElem_cons_zero, Act.put, List.setIfInBounds_toArray, List.set_cons_zero, List.set_cons_succ]
        refine wpAnyH_ready (rs := [22]) (by kernel_rfl) (by simp) ?_
        refine AllReadyH.cons rfl (fun K hK => ?_) AllReadyH.nil
        go_simp
        (go_at_call 13; (refine (FI.out 31 ci _ (by omega) (by omega) B5.out).mono ?_); rintro z w6 ⟨rfl, b6⟩)
        have B6 := Lib.hid b6
        clear b6
        refine hK.out _ _ ?_ (fun hHeld2 => ?_)
        · exact (AT.out _ B6.out).1
        clear hK K hHeld1
        try simp only [List.getElem_toArray, List.getElem_cons_succ, List.getElem_cons_zero, Act.put, List.setIfInBounds_toArray, List.set_cons_zero, List.set_cons_succ]
        refine wpAnyH_take (i := 23) (v := ?_) rfl (by kernel_rfl) (by kernel_rfl) (by kernel_rfl) (fun _ _ _ h => h) (Or.inl ⟨by rfl, ?_⟩) (by assumption) ?_
        rotate_left
        · intro w hSw; (try dsimp only at hSw); obtain ⟨g0, g1, g2, g3, g4, g5, g6⟩ := hSw; go_simp; (try with_reducible rfl)
        simp only [List.getElem_toArray, List.getElem_cons_succ, List.getElem_cons_zero, Act.put, List.setIfInBounds_toArray, List.set_cons_zero, List.set_cons_succ]
        obtain ⟨⟨g0, g1, g2, g3, g4, g5, g6⟩, _, hz⟩ := AT.out _ B6.out
        obtain ⟨e0, e1, e2, e3, e4, e5, e6, e7⟩ := EvAt.of (e := ⟨0, 0, 0, 0, 0, ⟨#[]⟩, ⟨#[]⟩, ⟨#[]⟩⟩) hz
        have ef := fun j => frozen_of_row _ _ j _ _ hz
        simp only at e0 e1 e2 e3 e4 e5 e6 e7
        refine wpAnyH_ready (rs := [24]) (by kernel_rfl) (by simp) ?_
        refine AllReadyH.cons rfl (fun K hK => ?_) AllReadyH.nil
        go_simp
        refine hK.out _ _ ?_ (fun hHeld9 => ?_)
        · exact ⟨(ev_far (by omega) _ _ _ _ _ _ _ _ _).trans g0, (ev_far (by omega) _ _ _ _ _ _ _ _ _).trans g1, (ev_far (by omega) _ _ _ _ _ _ _ _ _).trans g2, (ev_far (by omega) _ _ _ _ _ _ _ _ _).trans g3, (ev_far (by omega) _ _ _ _ _ _ _ _ _).trans g4, (ev_far (by omega) _ _ _ _ _ _ _ _ _).trans g5, (ev_far (by omega) _ _ _ _ _ _ _ _ _).trans g6⟩
        clear hK K
        refine wpAnyH_done (by kernel_rfl) ?_ _
        go_wp2_with fail
        refine bodyPost_ret (v := (Evn.mk ki (min (1 + wh) 99) 0 aa na (ByteArray.extract ⟨#[97, 98, 99, 100, 101, 102, 103, 104, 105, 106, 107, 108, 109, 110, 111, 112]⟩ mi (mi + 1) ++ ⟨#[64, 98, 46, 99, 100]⟩) (fillS (si + 3) si) (fillS 31 ci)).agg) ?_ rfl ⟨?_, ?_⟩
        · simp [results, Tryz.f16, go_sem, Evn.agg, e0, e1, e2, e3, e4, e5, e6, e7]
        · rw [E.out, EK.out, EI.out, EZ.out, MN.out, if_pos hk0, if_pos hk0, if_pos h7, if_neg h15]
        · exact (((((((((BB.out _ B6.out).setCell (by first | omega | (simp; omega) | simp) _).setCell (by first | omega | (simp; omega) | simp) _).setCell (by first | omega | (simp; omega) | simp) _).setCell (by first | omega | (simp; omega) | simp) _).setCell (by first | omega | (simp; omega) | simp) _).setCell (by first | omega | (simp; omega) | simp) _).setCell (by first | omega | (simp; omega) | simp) _).setCell (by first | omega | (simp; omega) | simp) _)
      · skip
        go_enter Tryz.func16, Tryz.ntmps16
        have B4 := Lib.hid (Below.refl (w.heap.size + 3) ((((w.alloc (.cells #[.int .i64 kind, .int .i64 who, .int .i64 mail, .int .i64 salt, .int .i64 chk, .int .i64 at0, .int .i64 nn] 50)).alloc (.cells #[.slice a p.ps.length c, .slice a' p.ss.length c'] 25)).alloc (.cells #[.int .i64 0, .int .i64 0, .int .i64 0, .int .i64 0, .int .i64 0, .string ⟨#[]⟩, .string ⟨#[]⟩, .string ⟨#[]⟩] 46))))
        go_wp2_with fail
        refine wp_region_held_drew (S := fun w' => w'.cell? ⟨w.heap.size, 0, none⟩ = some (.int .i64 kind) ∧ w'.cell? ⟨w.heap.size, 1, none⟩ = some (.int .i64 who) ∧ w'.cell? ⟨w.heap.size, 2, none⟩ = some (.int .i64 mail) ∧ w'.cell? ⟨w.heap.size, 3, none⟩ = some (.int .i64 salt) ∧ w'.cell? ⟨w.heap.size, 4, none⟩ = some (.int .i64 chk) ∧ w'.cell? ⟨w.heap.size, 5, none⟩ = some (.int .i64 at0) ∧ w'.cell? ⟨w.heap.size, 6, none⟩ = some (.int .i64 nn)) (by kernel_rfl) ?_ (fun hHeld0 => ?_)
        · exact (AT.out _ B4.out).1
        refine wpAnyH_take (i := 0) (v := ?_) rfl (by kernel_rfl) (by kernel_rfl) (by kernel_rfl) (fun _ _ _ h => h) (Or.inl ⟨by rfl, ?_⟩) (by assumption) ?_
        rotate_left
        · intro w hSw; (try dsimp only at hSw); obtain ⟨g0, g1, g2, g3, g4, g5, g6⟩ := hSw; go_simp; (try with_reducible rfl)
        simp only [List.getElem_toArray, List.getElem_cons_zero, Act.put, List.setIfInBounds_toArray, List.set_cons_zero, List.set_cons_succ]
        refine wpAnyH_take (i := 1) (v := ?_) rfl (by kernel_rfl) (by kernel_rfl) (by kernel_rfl) (fun _ _ _ h => h) (Or.inl ⟨by rfl, ?_⟩) (by assumption) ?_
        rotate_left
        · intro w hSw; (try dsimp only at hSw); obtain ⟨g0, g1, g2, g3, g4, g5, g6⟩ := hSw; go_simp; (try with_reducible rfl)
        simp only [List.getElem_toArray, List.getElem_cons_succ, List.getElem_cons_zero, Act.put, List.setIfInBounds_toArray, List.set_cons_zero, List.set_cons_succ]
        refine wpAnyH_take (i := 2) (v := ?_) rfl (by kernel_rfl) (by kernel_rfl) (by kernel_rfl) (fun _ _ _ h => h) (Or.inl ⟨by rfl, ?_⟩) (by assumption) ?_
        rotate_left
        · intro w hSw; (try dsimp only at hSw); obtain ⟨g0, g1, g2, g3, g4, g5, g6⟩ := hSw; go_simp; (try with_reducible rfl)
        simp only [List.getElem_toArray, List.getElem_cons_succ, List.getElem_cons_zero, Act.put, List.setIfInBounds_toArray, List.set_cons_zero, List.set_cons_succ]
        refine wpAnyH_take (i := 3) (v := ?_) rfl (by kernel_rfl) (by kernel_rfl) (by kernel_rfl) (fun _ _ _ h => h) (Or.inl ⟨by rfl, ?_⟩) (by assumption) ?_
        rotate_left
        · intro w hSw; (try dsimp only at hSw); obtain ⟨g0, g1, g2, g3, g4, g5, g6⟩ := hSw; go_simp; (try with_reducible rfl)
        simp only [List.getElem_toArray, List.getElem_cons_succ, List.getElem_cons_zero, Act.put, List.setIfInBounds_toArray, List.set_cons_zero, List.set_cons_succ]
        refine wpAnyH_take (i := 4) (v := ?_) rfl (by kernel_rfl) (by kernel_rfl) (by kernel_rfl) (fun _ _ _ h => h) (Or.inl ⟨by rfl, ?_⟩) (by assumption) ?_
        rotate_left
        · intro w hSw; (try dsimp only at hSw); obtain ⟨g0, g1, g2, g3, g4, g5, g6⟩ := hSw; go_simp; (try with_reducible rfl)
        simp only [List.getElem_toArray, List.getElem_cons_succ, List.getElem_cons_zero, Act.put, List.setIfInBounds_toArray, List.set_cons_zero, List.set_cons_succ]
        refine wpAnyH_take (i := 5) (v := ?_) rfl (by kernel_rfl) (by kernel_rfl) (by kernel_rfl) (fun _ _ _ h => h) (Or.inl ⟨by rfl, ?_⟩) (by assumption) ?_
        rotate_left
        · intro w hSw; (try dsimp only at hSw); obtain ⟨g0, g1, g2, g3, g4, g5, g6⟩ := hSw; go_simp; (try with_reducible rfl)
        simp only [List.getElem_toArray, List.getElem_cons_succ, List.getElem_cons_zero, Act.put, List.setIfInBounds_toArray, List.set_cons_zero, List.set_cons_succ]
        refine wpAnyH_take (i := 6) (v := ?_) rfl (by kernel_rfl) (by kernel_rfl) (by kernel_rfl) (fun _ _ _ h => h) (Or.inl ⟨by rfl, ?_⟩) (by assumption) ?_
        rotate_left
        · intro w hSw; (try dsimp only at hSw); obtain ⟨g0, g1, g2, g3, g4, g5, g6⟩ := hSw; go_simp; (try with_reducible rfl)
        simp only [List.getElem_toArray, List.getElem_cons_succ, List.getElem_cons_zero, Act.put, List.setIfInBounds_toArray, List.set_cons_zero, List.set_cons_succ]
        refine wpAnyH_take (i := 7) (v := ?_) rfl (by kernel_rfl) (by kernel_rfl) (by kernel_rfl) (fun _ _ _ h => h) (Or.inl ⟨by rfl, ?_⟩) (by assumption) ?_
        rotate_left
        · intro w hSw; (try dsimp only at hSw); obtain ⟨g0, g1, g2, g3, g4, g5, g6⟩ := hSw; go_simp; (try with_reducible rfl)
        simp only [List.getElem_toArray, List.getElem_cons_succ, List.getElem_cons_zero, Act.put, List.setIfInBounds_toArray, List.set_cons_zero, List.set_cons_succ]
        refine wpAnyH_take (i := 8) (v := ?_) rfl (by kernel_rfl) (by kernel_rfl) (by kernel_rfl) (fun _ _ _ h => h) (Or.inl ⟨by rfl, ?_⟩) (by assumption) ?_
        rotate_left
        · intro w hSw; (try dsimp only at hSw); obtain ⟨g0, g1, g2, g3, g4, g5, g6⟩ := hSw; go_simp; (try with_reducible rfl)
        simp only [List.getElem_toArray, List.getElem_cons_succ, List.getElem_cons_zero, Act.put, List.setIfInBounds_toArray, List.set_cons_zero, List.set_cons_succ]
        refine wpAnyH_take (i := 9) (v := ?_) rfl (by kernel_rfl) (by kernel_rfl) (by kernel_rfl) (fun _ _ _ h => h) (Or.inl ⟨by rfl, ?_⟩) (by assumption) ?_
        rotate_left
        · intro w hSw; (try dsimp only at hSw); obtain ⟨g0, g1, g2, g3, g4, g5, g6⟩ := hSw; go_simp; (try with_reducible rfl)
        simp only [List.getElem_toArray, List.getElem_cons_succ, List.getElem_cons_zero, Act.put, List.setIfInBounds_toArray, List.set_cons_zero, List.set_cons_succ]
        refine wpAnyH_take (i := 10) (v := ?_) rfl (by kernel_rfl) (by kernel_rfl) (by kernel_rfl) (fun _ _ _ h => h) (Or.inl ⟨by rfl, ?_⟩) (by assumption) ?_
        rotate_left
        · intro w hSw; (try dsimp only at hSw); obtain ⟨g0, g1, g2, g3, g4, g5, g6⟩ := hSw; go_simp; (try with_reducible rfl)
        simp only [List.getElem_toArray, List.getElem_cons_succ, List.getElem_cons_zero, Act.put, List.setIfInBounds_toArray, List.set_cons_zero, List.set_cons_succ]
        refine wpAnyH_take (i := 11) (v := ?_) rfl (by kernel_rfl) (by kernel_rfl) (by kernel_rfl) (fun _ _ _ h => h) (Or.inl ⟨by rfl, ?_⟩) (by assumption) ?_
        rotate_left
        · intro w hSw; (try dsimp only at hSw); obtain ⟨g0, g1, g2, g3, g4, g5, g6⟩ := hSw; go_simp; (try with_reducible rfl)
        simp only [List.getElem_toArray, List.getElem_cons_succ, List.getElem_cons_zero, Act.put, List.setIfInBounds_toArray, List.set_cons_zero, List.set_cons_succ]
        refine wpAnyH_take (i := 12) (v := ?_) rfl (by kernel_rfl) (by kernel_rfl) (by kernel_rfl) (fun _ _ _ h => h) (Or.inl ⟨by rfl, ?_⟩) (by assumption) ?_
        rotate_left
        · intro w hSw; (try dsimp only at hSw); obtain ⟨g0, g1, g2, g3, g4, g5, g6⟩ := hSw; go_simp; (try with_reducible rfl)
        simp only [List.getElem_toArray, List.getElem_cons_succ, List.getElem_cons_zero, Act.put, List.setIfInBounds_toArray, List.set_cons_zero, List.set_cons_succ]
        refine wpAnyH_take (i := 13) (v := ?_) rfl (by kernel_rfl) (by kernel_rfl) (by kernel_rfl) (fun _ _ _ h => h) (Or.inl ⟨by rfl, ?_⟩) (by assumption) ?_
        rotate_left
        · intro w hSw; (try dsimp only at hSw); obtain ⟨g0, g1, g2, g3, g4, g5, g6⟩ := hSw; go_simp; (try with_reducible rfl)
        simp only [List.getElem_toArray, List.getElem_cons_succ, List.getElem_cons_zero, Act.put, List.setIfInBounds_toArray, List.set_cons_zero, List.set_cons_succ]
        refine wpAnyH_take (i := 14) (v := ?_) rfl (by kernel_rfl) (by kernel_rfl) (by kernel_rfl) (fun _ _ _ h => h) (Or.inl ⟨by rfl, ?_⟩) (by assumption) ?_
        rotate_left
        · intro w hSw; (try dsimp only at hSw); obtain ⟨g0, g1, g2, g3, g4, g5, g6⟩ := hSw; go_simp; (try with_reducible rfl)
        simp only [List.getElem_toArray, List.getElem_cons_succ, List.getElem_cons_zero, Act.put, List.setIfInBounds_toArray, List.set_cons_zero, List.set_cons_succ]
        refine wpAnyH_take (i := 15) (v := ?_) rfl (by kernel_rfl) (by kernel_rfl) (by kernel_rfl) (fun _ _ _ h => h) (Or.inl ⟨by rfl, ?_⟩) (by assumption) ?_
        rotate_left
        · intro w hSw; (try dsimp only at hSw); obtain ⟨g0, g1, g2, g3, g4, g5, g6⟩ := hSw; go_simp; (try with_reducible rfl)
        simp only [List.getElem_toArray, List.getElem_cons_succ, List.getElem_cons_zero, Act.put, List.setIfInBounds_toArray, List.set_cons_zero, List.set_cons_succ]
        refine wpAnyH_take (i := 16) (v := ?_) rfl (by kernel_rfl) (by kernel_rfl) (by kernel_rfl) (fun _ _ _ h => h) (Or.inl ⟨by rfl, ?_⟩) (by assumption) ?_
        rotate_left
        · intro w hSw; (try dsimp only at hSw); obtain ⟨g0, g1, g2, g3, g4, g5, g6⟩ := hSw; go_simp; (try with_reducible rfl)
        simp only [List.getElem_toArray, List.getElem_cons_succ, List.getElem_cons_zero, Act.put, List.setIfInBounds_toArray, List.set_cons_zero, List.set_cons_succ]
        refine wpAnyH_take (i := 18) (v := ?_) rfl (by kernel_rfl) (by kernel_rfl) (by kernel_rfl) (fun _ _ _ h => h) (Or.inl ⟨by rfl, ?_⟩) (by assumption) ?_
        rotate_left
        · intro w hSw; (try dsimp only at hSw); obtain ⟨g0, g1, g2, g3, g4, g5, g6⟩ := hSw; go_simp; (try with_reducible rfl)
        simp only [List.getElem_toArray, List.getElem_cons_succ, List.getElem_cons_zero, Act.put, List.setIfInBounds_toArray, List.set_cons_zero, List.set_cons_succ]
        refine wpAnyH_take (i := 19) (v := ?_) rfl (by kernel_rfl) (by kernel_rfl) (by kernel_rfl) (fun _ _ _ h => h) (Or.inl ⟨by rfl, ?_⟩) (by assumption) ?_
        rotate_left
        · intro w hSw; (try dsimp only at hSw); obtain ⟨g0, g1, g2, g3, g4, g5, g6⟩ := hSw; go_simp; (try with_reducible rfl)
        simp only [List.getElem_toArray, List.getElem_cons_succ, List.getElem_cons_zero, Act.put, List.setIfInBounds_toArray, List.set_cons_zero, List.set_cons_succ]
        refine wpAnyH_take (i := 20) (v := ?_) rfl (by kernel_rfl) (by kernel_rfl) (by kernel_rfl) (fun _ _ _ h => h) (Or.inl ⟨by rfl, ?_⟩) (by assumption) ?_
        rotate_left
        · intro w hSw; (try dsimp only at hSw); obtain ⟨g0, g1, g2, g3, g4, g5, g6⟩ := hSw; go_simp; (try with_reducible rfl)
        simp only [List.getElem_toArray, List.getElem_cons_succ, List.getElem_cons_zero, Act.put, List.setIfInBounds_toArray, List.set_cons_zero, List.set_cons_succ]
        refine wpAnyH_take (i := 21) (v := ?_) rfl (by kernel_rfl) (by kernel_rfl) (by kernel_rfl) (fun _ _ _ h => h) (Or.inl ⟨by rfl, ?_⟩) (by assumption) ?_
        rotate_left
        · intro w hSw; (try dsimp only at hSw); obtain ⟨g0, g1, g2, g3, g4, g5, g6⟩ := hSw; go_simp; (try with_reducible rfl)
        simp only [List.getElem_toArray, List.getElem_cons_succ, List.getElem_cons_zero, Act.put, List.setIfInBounds_toArray, List.set_cons_zero, List.set_cons_succ]
        refine wpAnyH_ready (rs := [17]) (by kernel_rfl) (by simp) ?_
        refine AllReadyH.cons rfl (fun K hK => ?_) AllReadyH.nil
        go_simp
        (go_at_call 13; (refine (FI.out (si + 3) si _ (by omega) (by omega) (below_drew B4.out)).mono ?_); rintro z w5 ⟨rfl, b5⟩)
        have B5 := Lib.hid b5
        clear b5
        refine hK.out _ _ ?_ (fun hHeld1 => ?_)
        · exact (AT.out _ B5.out).1
        clear hK K hHeld0
        try simp only [List.getElem_toArray, List.getElem_cons_succ, List.getElem_cons_zero, Act.put, List.setIfInBounds_toArray, List.set_cons_zero, List.set_cons_succ]
        refine wpAnyH_ready (rs := [22]) (by kernel_rfl) (by simp) ?_
        refine AllReadyH.cons rfl (fun K hK => ?_) AllReadyH.nil
        go_simp
        (go_at_call 13; (refine (FI.out 32 ci _ (by omega) (by omega) B5.out).mono ?_); rintro z w6 ⟨rfl, b6⟩)
        have B6 := Lib.hid b6
        clear b6
        refine hK.out _ _ ?_ (fun hHeld2 => ?_)
        · exact (AT.out _ B6.out).1
        clear hK K hHeld1
        try simp only [List.getElem_toArray, List.getElem_cons_succ, List.getElem_cons_zero, Act.put, List.setIfInBounds_toArray, List.set_cons_zero, List.set_cons_succ]
        refine wpAnyH_take (i := 23) (v := ?_) rfl (by kernel_rfl) (by kernel_rfl) (by kernel_rfl) (fun _ _ _ h => h) (Or.inl ⟨by rfl, ?_⟩) (by assumption) ?_
        rotate_left
        · intro w hSw; (try dsimp only at hSw); obtain ⟨g0, g1, g2, g3, g4, g5, g6⟩ := hSw; go_simp; (try with_reducible rfl)
        simp only [List.getElem_toArray, List.getElem_cons_succ, List.getElem_cons_zero, Act.put, List.setIfInBounds_toArray, List.set_cons_zero, List.set_cons_succ]
        obtain ⟨⟨g0, g1, g2, g3, g4, g5, g6⟩, _, hz⟩ := AT.out _ B6.out
        obtain ⟨e0, e1, e2, e3, e4, e5, e6, e7⟩ := EvAt.of (e := ⟨0, 0, 0, 0, 0, ⟨#[]⟩, ⟨#[]⟩, ⟨#[]⟩⟩) hz
        have ef := fun j => frozen_of_row _ _ j _ _ hz
        simp only at e0 e1 e2 e3 e4 e5 e6 e7
        refine wpAnyH_ready (rs := [24]) (by kernel_rfl) (by simp) ?_
        refine AllReadyH.cons rfl (fun K hK => ?_) AllReadyH.nil
        go_simp
        refine hK.out _ _ ?_ (fun hHeld9 => ?_)
        · exact ⟨(ev_far (by omega) _ _ _ _ _ _ _ _ _).trans g0, (ev_far (by omega) _ _ _ _ _ _ _ _ _).trans g1, (ev_far (by omega) _ _ _ _ _ _ _ _ _).trans g2, (ev_far (by omega) _ _ _ _ _ _ _ _ _).trans g3, (ev_far (by omega) _ _ _ _ _ _ _ _ _).trans g4, (ev_far (by omega) _ _ _ _ _ _ _ _ _).trans g5, (ev_far (by omega) _ _ _ _ _ _ _ _ _).trans g6⟩
        clear hK K
        refine wpAnyH_done (by kernel_rfl) ?_ _
        go_wp2_with fail
        refine bodyPost_ret (v := (Evn.mk ki (min (1 + wh) 99) 0 aa na (ByteArray.extract ⟨#[97, 98, 99, 100, 101, 102, 103, 104, 105, 106, 107, 108, 109, 110, 111, 112]⟩ mi (mi + 1) ++ ⟨#[64, 98, 46, 99, 100]⟩) (fillS (si + 3) si) (fillS 32 ci)).agg) ?_ rfl ⟨?_, ?_⟩
        · simp [results, Tryz.f16, go_sem, Evn.agg, e0, e1, e2, e3, e4, e5, e6, e7]
        · rw [E.out, EK.out, EI.out, EZ.out, MN.out, if_pos hk0, if_pos hk0, if_neg h7, if_neg h15]
        · exact (((((((((BB.out _ B6.out).setCell (by first | omega | (simp; omega) | simp) _).setCell (by first | omega | (simp; omega) | simp) _).setCell (by first | omega | (simp; omega) | simp) _).setCell (by first | omega | (simp; omega) | simp) _).setCell (by first | omega | (simp; omega) | simp) _).setCell (by first | omega | (simp; omega) | simp) _).setCell (by first | omega | (simp; omega) | simp) _).setCell (by first | omega | (simp; omega) | simp) _)
  · by_cases hk1 : (ki : Int) < 1
    · skip
      by_cases h15 : mi = 15
      · have h15n : (mi : Int) = 15 := by omega
        by_cases h7 : c7 = 7
        · skip
          go_enter Tryz.func16, Tryz.ntmps16
          go_wp2_with (go_at_call 44; (refine (NX.out _ (Below.refl _ _)).mono ?_); rintro z w4 ⟨rfl, b4⟩; have B4 := Lib.hid b4; clear b4; obtain ⟨⟨k0, k1, k2, k3, k4, k5, k6⟩, ⟨y0, y1⟩, _⟩ := AT.out _ B4.out)
          refine wp_region_held_drew (S := fun w' => w'.cell? ⟨w.heap.size, 0, none⟩ = some (.int .i64 kind) ∧ w'.cell? ⟨w.heap.size, 1, none⟩ = some (.int .i64 who) ∧ w'.cell? ⟨w.heap.size, 2, none⟩ = some (.int .i64 mail) ∧ w'.cell? ⟨w.heap.size, 3, none⟩ = some (.int .i64 salt) ∧ w'.cell? ⟨w.heap.size, 4, none⟩ = some (.int .i64 chk) ∧ w'.cell? ⟨w.heap.size, 5, none⟩ = some (.int .i64 at0) ∧ w'.cell? ⟨w.heap.size, 6, none⟩ = some (.int .i64 nn)) (by kernel_rfl) ?_ (fun hHeld0 => ?_)
          · exact (AT.out _ B4.out).1
          refine wpAnyH_take (i := 0) (v := ?_) rfl (by kernel_rfl) (by kernel_rfl) (by kernel_rfl) (fun _ _ _ h => h) (Or.inl ⟨by rfl, ?_⟩) (by assumption) ?_
          rotate_left
          · intro w hSw; (try dsimp only at hSw); obtain ⟨g0, g1, g2, g3, g4, g5, g6⟩ := hSw; go_simp; (try with_reducible rfl)
          simp only [List.getElem_toArray, List.getElem_cons_zero, Act.put, List.setIfInBounds_toArray, List.set_cons_zero, List.set_cons_succ]
          refine wpAnyH_take (i := 1) (v := ?_) rfl (by kernel_rfl) (by kernel_rfl) (by kernel_rfl) (fun _ _ _ h => h) (Or.inl ⟨by rfl, ?_⟩) (by assumption) ?_
          rotate_left
          · intro w hSw; (try dsimp only at hSw); obtain ⟨g0, g1, g2, g3, g4, g5, g6⟩ := hSw; go_simp; (try with_reducible rfl)
          simp only [List.getElem_toArray, List.getElem_cons_succ, List.getElem_cons_zero, Act.put, List.setIfInBounds_toArray, List.set_cons_zero, List.set_cons_succ]
          refine wpAnyH_take (i := 2) (v := ?_) rfl (by kernel_rfl) (by kernel_rfl) (by kernel_rfl) (fun _ _ _ h => h) (Or.inl ⟨by rfl, ?_⟩) (by assumption) ?_
          rotate_left
          · intro w hSw; (try dsimp only at hSw); obtain ⟨g0, g1, g2, g3, g4, g5, g6⟩ := hSw; go_simp; (try with_reducible rfl)
          simp only [List.getElem_toArray, List.getElem_cons_succ, List.getElem_cons_zero, Act.put, List.setIfInBounds_toArray, List.set_cons_zero, List.set_cons_succ]
          refine wpAnyH_take (i := 3) (v := ?_) rfl (by kernel_rfl) (by kernel_rfl) (by kernel_rfl) (fun _ _ _ h => h) (Or.inl ⟨by rfl, ?_⟩) (by assumption) ?_
          rotate_left
          · intro w hSw; (try dsimp only at hSw); obtain ⟨g0, g1, g2, g3, g4, g5, g6⟩ := hSw; go_simp; (try with_reducible rfl)
          simp only [List.getElem_toArray, List.getElem_cons_succ, List.getElem_cons_zero, Act.put, List.setIfInBounds_toArray, List.set_cons_zero, List.set_cons_succ]
          refine wpAnyH_take (i := 4) (v := ?_) rfl (by kernel_rfl) (by kernel_rfl) (by kernel_rfl) (fun _ _ _ h => h) (Or.inl ⟨by rfl, ?_⟩) (by assumption) ?_
          rotate_left
          · intro w hSw; (try dsimp only at hSw); obtain ⟨g0, g1, g2, g3, g4, g5, g6⟩ := hSw; go_simp; (try with_reducible rfl)
          simp only [List.getElem_toArray, List.getElem_cons_succ, List.getElem_cons_zero, Act.put, List.setIfInBounds_toArray, List.set_cons_zero, List.set_cons_succ]
          refine wpAnyH_take (i := 5) (v := ?_) rfl (by kernel_rfl) (by kernel_rfl) (by kernel_rfl) (fun _ _ _ h => h) (Or.inl ⟨by rfl, ?_⟩) (by assumption) ?_
          rotate_left
          · intro w hSw; (try dsimp only at hSw); obtain ⟨g0, g1, g2, g3, g4, g5, g6⟩ := hSw; go_simp; (try with_reducible rfl)
          simp only [List.getElem_toArray, List.getElem_cons_succ, List.getElem_cons_zero, Act.put, List.setIfInBounds_toArray, List.set_cons_zero, List.set_cons_succ]
          refine wpAnyH_take (i := 6) (v := ?_) rfl (by kernel_rfl) (by kernel_rfl) (by kernel_rfl) (fun _ _ _ h => h) (Or.inl ⟨by rfl, ?_⟩) (by assumption) ?_
          rotate_left
          · intro w hSw; (try dsimp only at hSw); obtain ⟨g0, g1, g2, g3, g4, g5, g6⟩ := hSw; go_simp; (try with_reducible rfl)
          simp only [List.getElem_toArray, List.getElem_cons_succ, List.getElem_cons_zero, Act.put, List.setIfInBounds_toArray, List.set_cons_zero, List.set_cons_succ]
          refine wpAnyH_take (i := 7) (v := ?_) rfl (by kernel_rfl) (by kernel_rfl) (by kernel_rfl) (fun _ _ _ h => h) (Or.inl ⟨by rfl, ?_⟩) (by assumption) ?_
          rotate_left
          · intro w hSw; (try dsimp only at hSw); obtain ⟨g0, g1, g2, g3, g4, g5, g6⟩ := hSw; go_simp; (try with_reducible rfl)
          simp only [List.getElem_toArray, List.getElem_cons_succ, List.getElem_cons_zero, Act.put, List.setIfInBounds_toArray, List.set_cons_zero, List.set_cons_succ]
          refine wpAnyH_take (i := 8) (v := ?_) rfl (by kernel_rfl) (by kernel_rfl) (by kernel_rfl) (fun _ _ _ h => h) (Or.inl ⟨by rfl, ?_⟩) (by assumption) ?_
          rotate_left
          · intro w hSw; (try dsimp only at hSw); obtain ⟨g0, g1, g2, g3, g4, g5, g6⟩ := hSw; go_simp; (try with_reducible rfl)
          simp only [List.getElem_toArray, List.getElem_cons_succ, List.getElem_cons_zero, Act.put, List.setIfInBounds_toArray, List.set_cons_zero, List.set_cons_succ]
          refine wpAnyH_take (i := 9) (v := ?_) rfl (by kernel_rfl) (by kernel_rfl) (by kernel_rfl) (fun _ _ _ h => h) (Or.inl ⟨by rfl, ?_⟩) (by assumption) ?_
          rotate_left
          · intro w hSw; (try dsimp only at hSw); obtain ⟨g0, g1, g2, g3, g4, g5, g6⟩ := hSw; go_simp; (try with_reducible rfl)
          simp only [List.getElem_toArray, List.getElem_cons_succ, List.getElem_cons_zero, Act.put, List.setIfInBounds_toArray, List.set_cons_zero, List.set_cons_succ]
          refine wpAnyH_take (i := 10) (v := ?_) rfl (by kernel_rfl) (by kernel_rfl) (by kernel_rfl) (fun _ _ _ h => h) (Or.inl ⟨by rfl, ?_⟩) (by assumption) ?_
          rotate_left
          · intro w hSw; (try dsimp only at hSw); obtain ⟨g0, g1, g2, g3, g4, g5, g6⟩ := hSw; go_simp; (try with_reducible rfl)
          simp only [List.getElem_toArray, List.getElem_cons_succ, List.getElem_cons_zero, Act.put, List.setIfInBounds_toArray, List.set_cons_zero, List.set_cons_succ]
          refine wpAnyH_take (i := 11) (v := ?_) rfl (by kernel_rfl) (by kernel_rfl) (by kernel_rfl) (fun _ _ _ h => h) (Or.inl ⟨by rfl, ?_⟩) (by assumption) ?_
          rotate_left
          · intro w hSw; (try dsimp only at hSw); obtain ⟨g0, g1, g2, g3, g4, g5, g6⟩ := hSw; go_simp; (try with_reducible rfl)
          simp only [List.getElem_toArray, List.getElem_cons_succ, List.getElem_cons_zero, Act.put, List.setIfInBounds_toArray, List.set_cons_zero, List.set_cons_succ]
          refine wpAnyH_take (i := 12) (v := ?_) rfl (by kernel_rfl) (by kernel_rfl) (by kernel_rfl) (fun _ _ _ h => h) (Or.inl ⟨by rfl, ?_⟩) (by assumption) ?_
          rotate_left
          · intro w hSw; (try dsimp only at hSw); obtain ⟨g0, g1, g2, g3, g4, g5, g6⟩ := hSw; go_simp; (try with_reducible rfl)
          simp only [List.getElem_toArray, List.getElem_cons_succ, List.getElem_cons_zero, Act.put, List.setIfInBounds_toArray, List.set_cons_zero, List.set_cons_succ]
          refine wpAnyH_take (i := 13) (v := ?_) rfl (by kernel_rfl) (by kernel_rfl) (by kernel_rfl) (fun _ _ _ h => h) (Or.inl ⟨by rfl, ?_⟩) (by assumption) ?_
          rotate_left
          · intro w hSw; (try dsimp only at hSw); obtain ⟨g0, g1, g2, g3, g4, g5, g6⟩ := hSw; go_simp; (try with_reducible rfl)
          simp only [List.getElem_toArray, List.getElem_cons_succ, List.getElem_cons_zero, Act.put, List.setIfInBounds_toArray, List.set_cons_zero, List.set_cons_succ]
          refine wpAnyH_take (i := 14) (v := ?_) rfl (by kernel_rfl) (by kernel_rfl) (by kernel_rfl) (fun _ _ _ h => h) (Or.inl ⟨by rfl, ?_⟩) (by assumption) ?_
          rotate_left
          · intro w hSw; (try dsimp only at hSw); obtain ⟨g0, g1, g2, g3, g4, g5, g6⟩ := hSw; go_simp; (try with_reducible rfl)
          simp only [List.getElem_toArray, List.getElem_cons_succ, List.getElem_cons_zero, Act.put, List.setIfInBounds_toArray, List.set_cons_zero, List.set_cons_succ]
          refine wpAnyH_take (i := 15) (v := ?_) rfl (by kernel_rfl) (by kernel_rfl) (by kernel_rfl) (fun _ _ _ h => h) (Or.inl ⟨by rfl, ?_⟩) (by assumption) ?_
          rotate_left
          · intro w hSw; (try dsimp only at hSw); obtain ⟨g0, g1, g2, g3, g4, g5, g6⟩ := hSw; go_simp; (try with_reducible rfl)
          simp only [List.getElem_toArray, List.getElem_cons_succ, List.getElem_cons_zero, Act.put, List.setIfInBounds_toArray, List.set_cons_zero, List.set_cons_succ]
          refine wpAnyH_take (i := 16) (v := ?_) rfl (by kernel_rfl) (by kernel_rfl) (by kernel_rfl) (fun _ _ _ h => h) (Or.inl ⟨by rfl, ?_⟩) (by assumption) ?_
          rotate_left
          · intro w hSw; (try dsimp only at hSw); obtain ⟨g0, g1, g2, g3, g4, g5, g6⟩ := hSw; go_simp; (try with_reducible rfl)
          simp only [List.getElem_toArray, List.getElem_cons_succ, List.getElem_cons_zero, Act.put, List.setIfInBounds_toArray, List.set_cons_zero, List.set_cons_succ]
          refine wpAnyH_take (i := 18) (v := ?_) rfl (by kernel_rfl) (by kernel_rfl) (by kernel_rfl) (fun _ _ _ h => h) (Or.inl ⟨by rfl, ?_⟩) (by assumption) ?_
          rotate_left
          · intro w hSw; (try dsimp only at hSw); obtain ⟨g0, g1, g2, g3, g4, g5, g6⟩ := hSw; go_simp; (try with_reducible rfl)
          simp only [List.getElem_toArray, List.getElem_cons_succ, List.getElem_cons_zero, Act.put, List.setIfInBounds_toArray, List.set_cons_zero, List.set_cons_succ]
          refine wpAnyH_take (i := 19) (v := ?_) rfl (by kernel_rfl) (by kernel_rfl) (by kernel_rfl) (fun _ _ _ h => h) (Or.inl ⟨by rfl, ?_⟩) (by assumption) ?_
          rotate_left
          · intro w hSw; (try dsimp only at hSw); obtain ⟨g0, g1, g2, g3, g4, g5, g6⟩ := hSw; go_simp; (try with_reducible rfl)
          simp only [List.getElem_toArray, List.getElem_cons_succ, List.getElem_cons_zero, Act.put, List.setIfInBounds_toArray, List.set_cons_zero, List.set_cons_succ]
          refine wpAnyH_take (i := 20) (v := ?_) rfl (by kernel_rfl) (by kernel_rfl) (by kernel_rfl) (fun _ _ _ h => h) (Or.inl ⟨by rfl, ?_⟩) (by assumption) ?_
          rotate_left
          · intro w hSw; (try dsimp only at hSw); obtain ⟨g0, g1, g2, g3, g4, g5, g6⟩ := hSw; go_simp; (try with_reducible rfl)
          simp only [List.getElem_toArray, List.getElem_cons_succ, List.getElem_cons_zero, Act.put, List.setIfInBounds_toArray, List.set_cons_zero, List.set_cons_succ]
          refine wpAnyH_take (i := 21) (v := ?_) rfl (by kernel_rfl) (by kernel_rfl) (by kernel_rfl) (fun _ _ _ h => h) (Or.inl ⟨by rfl, ?_⟩) (by assumption) ?_
          rotate_left
          · intro w hSw; (try dsimp only at hSw); obtain ⟨g0, g1, g2, g3, g4, g5, g6⟩ := hSw; go_simp; (try with_reducible rfl)
          simp only [List.getElem_toArray, List.getElem_cons_succ, List.getElem_cons_zero, Act.put, List.setIfInBounds_toArray, List.set_cons_zero, List.set_cons_succ]
          refine wpAnyH_ready (rs := [17]) (by kernel_rfl) (by simp) ?_
          refine AllReadyH.cons rfl (fun K hK => ?_) AllReadyH.nil
          go_simp
          (go_at_call 13; (refine (FI.out (si + 3) si _ (by omega) (by omega) (below_drew B4.out)).mono ?_); rintro z w5 ⟨rfl, b5⟩)
          have B5 := Lib.hid b5
          clear b5
          refine hK.out _ _ ?_ (fun hHeld1 => ?_)
          · exact (AT.out _ B5.out).1
          clear hK K hHeld0
          try simp only [List.getElem_toArray, List.getElem_cons_succ, List.getElem_cons_zero, Act.put, List.setIfInBounds_toArray, List.set_cons_zero, List.set_cons_succ]
          refine wpAnyH_ready (rs := [22]) (by kernel_rfl) (by simp) ?_
          refine AllReadyH.cons rfl (fun K hK => ?_) AllReadyH.nil
          go_simp
          (go_at_call 13; (refine (FI.out 31 ci _ (by omega) (by omega) B5.out).mono ?_); rintro z w6 ⟨rfl, b6⟩)
          have B6 := Lib.hid b6
          clear b6
          refine hK.out _ _ ?_ (fun hHeld2 => ?_)
          · exact (AT.out _ B6.out).1
          clear hK K hHeld1
          try simp only [List.getElem_toArray, List.getElem_cons_succ, List.getElem_cons_zero, Act.put, List.setIfInBounds_toArray, List.set_cons_zero, List.set_cons_succ]
          refine wpAnyH_take (i := 23) (v := ?_) rfl (by kernel_rfl) (by kernel_rfl) (by kernel_rfl) (fun _ _ _ h => h) (Or.inl ⟨by rfl, ?_⟩) (by assumption) ?_
          rotate_left
          · intro w hSw; (try dsimp only at hSw); obtain ⟨g0, g1, g2, g3, g4, g5, g6⟩ := hSw; go_simp; (try with_reducible rfl)
          simp only [List.getElem_toArray, List.getElem_cons_succ, List.getElem_cons_zero, Act.put, List.setIfInBounds_toArray, List.set_cons_zero, List.set_cons_succ]
          obtain ⟨⟨g0, g1, g2, g3, g4, g5, g6⟩, _, hz⟩ := AT.out _ B6.out
          obtain ⟨e0, e1, e2, e3, e4, e5, e6, e7⟩ := EvAt.of (e := ⟨0, 0, 0, 0, 0, ⟨#[]⟩, ⟨#[]⟩, ⟨#[]⟩⟩) hz
          have ef := fun j => frozen_of_row _ _ j _ _ hz
          simp only at e0 e1 e2 e3 e4 e5 e6 e7
          refine wpAnyH_ready (rs := [24]) (by kernel_rfl) (by simp) ?_
          refine AllReadyH.cons rfl (fun K hK => ?_) AllReadyH.nil
          go_simp
          refine hK.out _ _ ?_ (fun hHeld9 => ?_)
          · exact ⟨(ev_far (by omega) _ _ _ _ _ _ _ _ _).trans g0, (ev_far (by omega) _ _ _ _ _ _ _ _ _).trans g1, (ev_far (by omega) _ _ _ _ _ _ _ _ _).trans g2, (ev_far (by omega) _ _ _ _ _ _ _ _ _).trans g3, (ev_far (by omega) _ _ _ _ _ _ _ _ _).trans g4, (ev_far (by omega) _ _ _ _ _ _ _ _ _).trans g5, (ev_far (by omega) _ _ _ _ _ _ _ _ _).trans g6⟩
          clear hK K
          refine wpAnyH_done (by kernel_rfl) ?_ _
          go_wp2_with fail
          refine bodyPost_ret (v := (Evn.mk 1 (min nx 99) 0 aa na ⟨#[43, 49, 50, 51, 52, 53, 54, 55, 56]⟩ (fillS (si + 3) si) (fillS 31 ci)).agg) ?_ rfl ⟨?_, ?_⟩
          · simp [results, Tryz.f16, go_sem, Evn.agg, e0, e1, e2, e3, e4, e5, e6, e7]
          · rw [E.out, EK.out, EI.out, EZ.out, MN.out, if_neg hk0, if_neg hk0, if_pos h7, if_pos h15]
          · exact (((((((((BB.out _ B6.out).setCell (by first | omega | (simp; omega) | simp) _).setCell (by first | omega | (simp; omega) | simp) _).setCell (by first | omega | (simp; omega) | simp) _).setCell (by first | omega | (simp; omega) | simp) _).setCell (by first | omega | (simp; omega) | simp) _).setCell (by first | omega | (simp; omega) | simp) _).setCell (by first | omega | (simp; omega) | simp) _).setCell (by first | omega | (simp; omega) | simp) _)
        · skip
          go_enter Tryz.func16, Tryz.ntmps16
          go_wp2_with (go_at_call 44; (refine (NX.out _ (Below.refl _ _)).mono ?_); rintro z w4 ⟨rfl, b4⟩; have B4 := Lib.hid b4; clear b4; obtain ⟨⟨k0, k1, k2, k3, k4, k5, k6⟩, ⟨y0, y1⟩, _⟩ := AT.out _ B4.out)
          refine wp_region_held_drew (S := fun w' => w'.cell? ⟨w.heap.size, 0, none⟩ = some (.int .i64 kind) ∧ w'.cell? ⟨w.heap.size, 1, none⟩ = some (.int .i64 who) ∧ w'.cell? ⟨w.heap.size, 2, none⟩ = some (.int .i64 mail) ∧ w'.cell? ⟨w.heap.size, 3, none⟩ = some (.int .i64 salt) ∧ w'.cell? ⟨w.heap.size, 4, none⟩ = some (.int .i64 chk) ∧ w'.cell? ⟨w.heap.size, 5, none⟩ = some (.int .i64 at0) ∧ w'.cell? ⟨w.heap.size, 6, none⟩ = some (.int .i64 nn)) (by kernel_rfl) ?_ (fun hHeld0 => ?_)
          · exact (AT.out _ B4.out).1
          refine wpAnyH_take (i := 0) (v := ?_) rfl (by kernel_rfl) (by kernel_rfl) (by kernel_rfl) (fun _ _ _ h => h) (Or.inl ⟨by rfl, ?_⟩) (by assumption) ?_
          rotate_left
          · intro w hSw; (try dsimp only at hSw); obtain ⟨g0, g1, g2, g3, g4, g5, g6⟩ := hSw; go_simp; (try with_reducible rfl)
          simp only [List.getElem_toArray, List.getElem_cons_zero, Act.put, List.setIfInBounds_toArray, List.set_cons_zero, List.set_cons_succ]
          refine wpAnyH_take (i := 1) (v := ?_) rfl (by kernel_rfl) (by kernel_rfl) (by kernel_rfl) (fun _ _ _ h => h) (Or.inl ⟨by rfl, ?_⟩) (by assumption) ?_
          rotate_left
          · intro w hSw; (try dsimp only at hSw); obtain ⟨g0, g1, g2, g3, g4, g5, g6⟩ := hSw; go_simp; (try with_reducible rfl)
          simp only [List.getElem_toArray, List.getElem_cons_succ, List.getElem_cons_zero, Act.put, List.setIfInBounds_toArray, List.set_cons_zero, List.set_cons_succ]
          refine wpAnyH_take (i := 2) (v := ?_) rfl (by kernel_rfl) (by kernel_rfl) (by kernel_rfl) (fun _ _ _ h => h) (Or.inl ⟨by rfl, ?_⟩) (by assumption) ?_
          rotate_left
          · intro w hSw; (try dsimp only at hSw); obtain ⟨g0, g1, g2, g3, g4, g5, g6⟩ := hSw; go_simp; (try with_reducible rfl)
          simp only [List.getElem_toArray, List.getElem_cons_succ, List.getElem_cons_zero, Act.put, List.setIfInBounds_toArray, List.set_cons_zero, List.set_cons_succ]
          refine wpAnyH_take (i := 3) (v := ?_) rfl (by kernel_rfl) (by kernel_rfl) (by kernel_rfl) (fun _ _ _ h => h) (Or.inl ⟨by rfl, ?_⟩) (by assumption) ?_
          rotate_left
          · intro w hSw; (try dsimp only at hSw); obtain ⟨g0, g1, g2, g3, g4, g5, g6⟩ := hSw; go_simp; (try with_reducible rfl)
          simp only [List.getElem_toArray, List.getElem_cons_succ, List.getElem_cons_zero, Act.put, List.setIfInBounds_toArray, List.set_cons_zero, List.set_cons_succ]
          refine wpAnyH_take (i := 4) (v := ?_) rfl (by kernel_rfl) (by kernel_rfl) (by kernel_rfl) (fun _ _ _ h => h) (Or.inl ⟨by rfl, ?_⟩) (by assumption) ?_
          rotate_left
          · intro w hSw; (try dsimp only at hSw); obtain ⟨g0, g1, g2, g3, g4, g5, g6⟩ := hSw; go_simp; (try with_reducible rfl)
          simp only [List.getElem_toArray, List.getElem_cons_succ, List.getElem_cons_zero, Act.put, List.setIfInBounds_toArray, List.set_cons_zero, List.set_cons_succ]
          refine wpAnyH_take (i := 5) (v := ?_) rfl (by kernel_rfl) (by kernel_rfl) (by kernel_rfl) (fun _ _ _ h => h) (Or.inl ⟨by rfl, ?_⟩) (by assumption) ?_
          rotate_left
          · intro w hSw; (try dsimp only at hSw); obtain ⟨g0, g1, g2, g3, g4, g5, g6⟩ := hSw; go_simp; (try with_reducible rfl)
          simp only [List.getElem_toArray, List.getElem_cons_succ, List.getElem_cons_zero, Act.put, List.setIfInBounds_toArray, List.set_cons_zero, List.set_cons_succ]
          refine wpAnyH_take (i := 6) (v := ?_) rfl (by kernel_rfl) (by kernel_rfl) (by kernel_rfl) (fun _ _ _ h => h) (Or.inl ⟨by rfl, ?_⟩) (by assumption) ?_
          rotate_left
          · intro w hSw; (try dsimp only at hSw); obtain ⟨g0, g1, g2, g3, g4, g5, g6⟩ := hSw; go_simp; (try with_reducible rfl)
          simp only [List.getElem_toArray, List.getElem_cons_succ, List.getElem_cons_zero, Act.put, List.setIfInBounds_toArray, List.set_cons_zero, List.set_cons_succ]
          refine wpAnyH_take (i := 7) (v := ?_) rfl (by kernel_rfl) (by kernel_rfl) (by kernel_rfl) (fun _ _ _ h => h) (Or.inl ⟨by rfl, ?_⟩) (by assumption) ?_
          rotate_left
          · intro w hSw; (try dsimp only at hSw); obtain ⟨g0, g1, g2, g3, g4, g5, g6⟩ := hSw; go_simp; (try with_reducible rfl)
          simp only [List.getElem_toArray, List.getElem_cons_succ, List.getElem_cons_zero, Act.put, List.setIfInBounds_toArray, List.set_cons_zero, List.set_cons_succ]
          refine wpAnyH_take (i := 8) (v := ?_) rfl (by kernel_rfl) (by kernel_rfl) (by kernel_rfl) (fun _ _ _ h => h) (Or.inl ⟨by rfl, ?_⟩) (by assumption) ?_
          rotate_left
          · intro w hSw; (try dsimp only at hSw); obtain ⟨g0, g1, g2, g3, g4, g5, g6⟩ := hSw; go_simp; (try with_reducible rfl)
          simp only [List.getElem_toArray, List.getElem_cons_succ, List.getElem_cons_zero, Act.put, List.setIfInBounds_toArray, List.set_cons_zero, List.set_cons_succ]
          refine wpAnyH_take (i := 9) (v := ?_) rfl (by kernel_rfl) (by kernel_rfl) (by kernel_rfl) (fun _ _ _ h => h) (Or.inl ⟨by rfl, ?_⟩) (by assumption) ?_
          rotate_left
          · intro w hSw; (try dsimp only at hSw); obtain ⟨g0, g1, g2, g3, g4, g5, g6⟩ := hSw; go_simp; (try with_reducible rfl)
          simp only [List.getElem_toArray, List.getElem_cons_succ, List.getElem_cons_zero, Act.put, List.setIfInBounds_toArray, List.set_cons_zero, List.set_cons_succ]
          refine wpAnyH_take (i := 10) (v := ?_) rfl (by kernel_rfl) (by kernel_rfl) (by kernel_rfl) (fun _ _ _ h => h) (Or.inl ⟨by rfl, ?_⟩) (by assumption) ?_
          rotate_left
          · intro w hSw; (try dsimp only at hSw); obtain ⟨g0, g1, g2, g3, g4, g5, g6⟩ := hSw; go_simp; (try with_reducible rfl)
          simp only [List.getElem_toArray, List.getElem_cons_succ, List.getElem_cons_zero, Act.put, List.setIfInBounds_toArray, List.set_cons_zero, List.set_cons_succ]
          refine wpAnyH_take (i := 11) (v := ?_) rfl (by kernel_rfl) (by kernel_rfl) (by kernel_rfl) (fun _ _ _ h => h) (Or.inl ⟨by rfl, ?_⟩) (by assumption) ?_
          rotate_left
          · intro w hSw; (try dsimp only at hSw); obtain ⟨g0, g1, g2, g3, g4, g5, g6⟩ := hSw; go_simp; (try with_reducible rfl)
          simp only [List.getElem_toArray, List.getElem_cons_succ, List.getElem_cons_zero, Act.put, List.setIfInBounds_toArray, List.set_cons_zero, List.set_cons_succ]
          refine wpAnyH_take (i := 12) (v := ?_) rfl (by kernel_rfl) (by kernel_rfl) (by kernel_rfl) (fun _ _ _ h => h) (Or.inl ⟨by rfl, ?_⟩) (by assumption) ?_
          rotate_left
          · intro w hSw; (try dsimp only at hSw); obtain ⟨g0, g1, g2, g3, g4, g5, g6⟩ := hSw; go_simp; (try with_reducible rfl)
          simp only [List.getElem_toArray, List.getElem_cons_succ, List.getElem_cons_zero, Act.put, List.setIfInBounds_toArray, List.set_cons_zero, List.set_cons_succ]
          refine wpAnyH_take (i := 13) (v := ?_) rfl (by kernel_rfl) (by kernel_rfl) (by kernel_rfl) (fun _ _ _ h => h) (Or.inl ⟨by rfl, ?_⟩) (by assumption) ?_
          rotate_left
          · intro w hSw; (try dsimp only at hSw); obtain ⟨g0, g1, g2, g3, g4, g5, g6⟩ := hSw; go_simp; (try with_reducible rfl)
          simp only [List.getElem_toArray, List.getElem_cons_succ, List.getElem_cons_zero, Act.put, List.setIfInBounds_toArray, List.set_cons_zero, List.set_cons_succ]
          refine wpAnyH_take (i := 14) (v := ?_) rfl (by kernel_rfl) (by kernel_rfl) (by kernel_rfl) (fun _ _ _ h => h) (Or.inl ⟨by rfl, ?_⟩) (by assumption) ?_
          rotate_left
          · intro w hSw; (try dsimp only at hSw); obtain ⟨g0, g1, g2, g3, g4, g5, g6⟩ := hSw; go_simp; (try with_reducible rfl)
          simp only [List.getElem_toArray, List.getElem_cons_succ, List.getElem_cons_zero, Act.put, List.setIfInBounds_toArray, List.set_cons_zero, List.set_cons_succ]
          refine wpAnyH_take (i := 15) (v := ?_) rfl (by kernel_rfl) (by kernel_rfl) (by kernel_rfl) (fun _ _ _ h => h) (Or.inl ⟨by rfl, ?_⟩) (by assumption) ?_
          rotate_left
          · intro w hSw; (try dsimp only at hSw); obtain ⟨g0, g1, g2, g3, g4, g5, g6⟩ := hSw; go_simp; (try with_reducible rfl)
          simp only [List.getElem_toArray, List.getElem_cons_succ, List.getElem_cons_zero, Act.put, List.setIfInBounds_toArray, List.set_cons_zero, List.set_cons_succ]
          refine wpAnyH_take (i := 16) (v := ?_) rfl (by kernel_rfl) (by kernel_rfl) (by kernel_rfl) (fun _ _ _ h => h) (Or.inl ⟨by rfl, ?_⟩) (by assumption) ?_
          rotate_left
          · intro w hSw; (try dsimp only at hSw); obtain ⟨g0, g1, g2, g3, g4, g5, g6⟩ := hSw; go_simp; (try with_reducible rfl)
          simp only [List.getElem_toArray, List.getElem_cons_succ, List.getElem_cons_zero, Act.put, List.setIfInBounds_toArray, List.set_cons_zero, List.set_cons_succ]
          refine wpAnyH_take (i := 18) (v := ?_) rfl (by kernel_rfl) (by kernel_rfl) (by kernel_rfl) (fun _ _ _ h => h) (Or.inl ⟨by rfl, ?_⟩) (by assumption) ?_
          rotate_left
          · intro w hSw; (try dsimp only at hSw); obtain ⟨g0, g1, g2, g3, g4, g5, g6⟩ := hSw; go_simp; (try with_reducible rfl)
          simp only [List.getElem_toArray, List.getElem_cons_succ, List.getElem_cons_zero, Act.put, List.setIfInBounds_toArray, List.set_cons_zero, List.set_cons_succ]
          refine wpAnyH_take (i := 19) (v := ?_) rfl (by kernel_rfl) (by kernel_rfl) (by kernel_rfl) (fun _ _ _ h => h) (Or.inl ⟨by rfl, ?_⟩) (by assumption) ?_
          rotate_left
          · intro w hSw; (try dsimp only at hSw); obtain ⟨g0, g1, g2, g3, g4, g5, g6⟩ := hSw; go_simp; (try with_reducible rfl)
          simp only [List.getElem_toArray, List.getElem_cons_succ, List.getElem_cons_zero, Act.put, List.setIfInBounds_toArray, List.set_cons_zero, List.set_cons_succ]
          refine wpAnyH_take (i := 20) (v := ?_) rfl (by kernel_rfl) (by kernel_rfl) (by kernel_rfl) (fun _ _ _ h => h) (Or.inl ⟨by rfl, ?_⟩) (by assumption) ?_
          rotate_left
          · intro w hSw; (try dsimp only at hSw); obtain ⟨g0, g1, g2, g3, g4, g5, g6⟩ := hSw; go_simp; (try with_reducible rfl)
          simp only [List.getElem_toArray, List.getElem_cons_succ, List.getElem_cons_zero, Act.put, List.setIfInBounds_toArray, List.set_cons_zero, List.set_cons_succ]
          refine wpAnyH_take (i := 21) (v := ?_) rfl (by kernel_rfl) (by kernel_rfl) (by kernel_rfl) (fun _ _ _ h => h) (Or.inl ⟨by rfl, ?_⟩) (by assumption) ?_
          rotate_left
          · intro w hSw; (try dsimp only at hSw); obtain ⟨g0, g1, g2, g3, g4, g5, g6⟩ := hSw; go_simp; (try with_reducible rfl)
          simp only [List.getElem_toArray, List.getElem_cons_succ, List.getElem_cons_zero, Act.put, List.setIfInBounds_toArray, List.set_cons_zero, List.set_cons_succ]
          refine wpAnyH_ready (rs := [17]) (by kernel_rfl) (by simp) ?_
          refine AllReadyH.cons rfl (fun K hK => ?_) AllReadyH.nil
          go_simp
          (go_at_call 13; (refine (FI.out (si + 3) si _ (by omega) (by omega) (below_drew B4.out)).mono ?_); rintro z w5 ⟨rfl, b5⟩)
          have B5 := Lib.hid b5
          clear b5
          refine hK.out _ _ ?_ (fun hHeld1 => ?_)
          · exact (AT.out _ B5.out).1
          clear hK K hHeld0
          try simp only [List.getElem_toArray, List.getElem_cons_succ, List.getElem_cons_zero, Act.put, List.setIfInBounds_toArray, List.set_cons_zero, List.set_cons_succ]
          refine wpAnyH_ready (rs := [22]) (by kernel_rfl) (by simp) ?_
          refine AllReadyH.cons rfl (fun K hK => ?_) AllReadyH.nil
          go_simp
          (go_at_call 13; (refine (FI.out 32 ci _ (by omega) (by omega) B5.out).mono ?_); rintro z w6 ⟨rfl, b6⟩)
          have B6 := Lib.hid b6
          clear b6
          refine hK.out _ _ ?_ (fun hHeld2 => ?_)
          · exact (AT.out _ B6.out).1
          clear hK K hHeld1
          try simp only [List.getElem_toArray, List.getElem_cons_succ, List.getElem_cons_zero, Act.put, List.setIfInBounds_toArray, List.set_cons_zero, List.set_cons_succ]
          refine wpAnyH_take (i := 23) (v := ?_) rfl (by kernel_rfl) (by kernel_rfl) (by kernel_rfl) (fun _ _ _ h => h) (Or.inl ⟨by rfl, ?_⟩) (by assumption) ?_
          rotate_left
          · intro w hSw; (try dsimp only at hSw); obtain ⟨g0, g1, g2, g3, g4, g5, g6⟩ := hSw; go_simp; (try with_reducible rfl)
          simp only [List.getElem_toArray, List.getElem_cons_succ, List.getElem_cons_zero, Act.put, List.setIfInBounds_toArray, List.set_cons_zero, List.set_cons_succ]
          obtain ⟨⟨g0, g1, g2, g3, g4, g5, g6⟩, _, hz⟩ := AT.out _ B6.out
          obtain ⟨e0, e1, e2, e3, e4, e5, e6, e7⟩ := EvAt.of (e := ⟨0, 0, 0, 0, 0, ⟨#[]⟩, ⟨#[]⟩, ⟨#[]⟩⟩) hz
          have ef := fun j => frozen_of_row _ _ j _ _ hz
          simp only at e0 e1 e2 e3 e4 e5 e6 e7
          refine wpAnyH_ready (rs := [24]) (by kernel_rfl) (by simp) ?_
          refine AllReadyH.cons rfl (fun K hK => ?_) AllReadyH.nil
          go_simp
          refine hK.out _ _ ?_ (fun hHeld9 => ?_)
          · exact ⟨(ev_far (by omega) _ _ _ _ _ _ _ _ _).trans g0, (ev_far (by omega) _ _ _ _ _ _ _ _ _).trans g1, (ev_far (by omega) _ _ _ _ _ _ _ _ _).trans g2, (ev_far (by omega) _ _ _ _ _ _ _ _ _).trans g3, (ev_far (by omega) _ _ _ _ _ _ _ _ _).trans g4, (ev_far (by omega) _ _ _ _ _ _ _ _ _).trans g5, (ev_far (by omega) _ _ _ _ _ _ _ _ _).trans g6⟩
          clear hK K
          refine wpAnyH_done (by kernel_rfl) ?_ _
          go_wp2_with fail
          refine bodyPost_ret (v := (Evn.mk 1 (min nx 99) 0 aa na ⟨#[43, 49, 50, 51, 52, 53, 54, 55, 56]⟩ (fillS (si + 3) si) (fillS 32 ci)).agg) ?_ rfl ⟨?_, ?_⟩
          · simp [results, Tryz.f16, go_sem, Evn.agg, e0, e1, e2, e3, e4, e5, e6, e7]
          · rw [E.out, EK.out, EI.out, EZ.out, MN.out, if_neg hk0, if_neg hk0, if_neg h7, if_pos h15]
          · exact (((((((((BB.out _ B6.out).setCell (by first | omega | (simp; omega) | simp) _).setCell (by first | omega | (simp; omega) | simp) _).setCell (by first | omega | (simp; omega) | simp) _).setCell (by first | omega | (simp; omega) | simp) _).setCell (by first | omega | (simp; omega) | simp) _).setCell (by first | omega | (simp; omega) | simp) _).setCell (by first | omega | (simp; omega) | simp) _).setCell (by first | omega | (simp; omega) | simp) _)
      · have h15n : ¬ (mi : Int) = 15 := by omega
        by_cases h7 : c7 = 7
        · skip
          go_enter Tryz.func16, Tryz.ntmps16
          go_wp2_with (go_at_call 44; (refine (NX.out _ (Below.refl _ _)).mono ?_); rintro z w4 ⟨rfl, b4⟩; have B4 := Lib.hid b4; clear b4; obtain ⟨⟨k0, k1, k2, k3, k4, k5, k6⟩, ⟨y0, y1⟩, _⟩ := AT.out _ B4.out)
          refine wp_region_held_drew (S := fun w' => w'.cell? ⟨w.heap.size, 0, none⟩ = some (.int .i64 kind) ∧ w'.cell? ⟨w.heap.size, 1, none⟩ = some (.int .i64 who) ∧ w'.cell? ⟨w.heap.size, 2, none⟩ = some (.int .i64 mail) ∧ w'.cell? ⟨w.heap.size, 3, none⟩ = some (.int .i64 salt) ∧ w'.cell? ⟨w.heap.size, 4, none⟩ = some (.int .i64 chk) ∧ w'.cell? ⟨w.heap.size, 5, none⟩ = some (.int .i64 at0) ∧ w'.cell? ⟨w.heap.size, 6, none⟩ = some (.int .i64 nn)) (by kernel_rfl) ?_ (fun hHeld0 => ?_)
          · exact (AT.out _ B4.out).1
          refine wpAnyH_take (i := 0) (v := ?_) rfl (by kernel_rfl) (by kernel_rfl) (by kernel_rfl) (fun _ _ _ h => h) (Or.inl ⟨by rfl, ?_⟩) (by assumption) ?_
          rotate_left
          · intro w hSw; (try dsimp only at hSw); obtain ⟨g0, g1, g2, g3, g4, g5, g6⟩ := hSw; go_simp; (try with_reducible rfl)
          simp only [List.getElem_toArray, List.getElem_cons_zero, Act.put, List.setIfInBounds_toArray, List.set_cons_zero, List.set_cons_succ]
          refine wpAnyH_take (i := 1) (v := ?_) rfl (by kernel_rfl) (by kernel_rfl) (by kernel_rfl) (fun _ _ _ h => h) (Or.inl ⟨by rfl, ?_⟩) (by assumption) ?_
          rotate_left
          · intro w hSw; (try dsimp only at hSw); obtain ⟨g0, g1, g2, g3, g4, g5, g6⟩ := hSw; go_simp; (try with_reducible rfl)
          simp only [List.getElem_toArray, List.getElem_cons_succ, List.getElem_cons_zero, Act.put, List.setIfInBounds_toArray, List.set_cons_zero, List.set_cons_succ]
          refine wpAnyH_take (i := 2) (v := ?_) rfl (by kernel_rfl) (by kernel_rfl) (by kernel_rfl) (fun _ _ _ h => h) (Or.inl ⟨by rfl, ?_⟩) (by assumption) ?_
          rotate_left
          · intro w hSw; (try dsimp only at hSw); obtain ⟨g0, g1, g2, g3, g4, g5, g6⟩ := hSw; go_simp; (try with_reducible rfl)
          simp only [List.getElem_toArray, List.getElem_cons_succ, List.getElem_cons_zero, Act.put, List.setIfInBounds_toArray, List.set_cons_zero, List.set_cons_succ]
          refine wpAnyH_take (i := 3) (v := ?_) rfl (by kernel_rfl) (by kernel_rfl) (by kernel_rfl) (fun _ _ _ h => h) (Or.inl ⟨by rfl, ?_⟩) (by assumption) ?_
          rotate_left
          · intro w hSw; (try dsimp only at hSw); obtain ⟨g0, g1, g2, g3, g4, g5, g6⟩ := hSw; go_simp; (try with_reducible rfl)
          simp only [List.getElem_toArray, List.getElem_cons_succ, List.getElem_cons_zero, Act.put, List.setIfInBounds_toArray, List.set_cons_zero, List.set_cons_succ]
          refine wpAnyH_take (i := 4) (v := ?_) rfl (by kernel_rfl) (by kernel_rfl) (by kernel_rfl) (fun _ _ _ h => h) (Or.inl ⟨by rfl, ?_⟩) (by assumption) ?_
          rotate_left
          · intro w hSw; (try dsimp only at hSw); obtain ⟨g0, g1, g2, g3, g4, g5, g6⟩ := hSw; go_simp; (try with_reducible rfl)
          simp only [List.getElem_toArray, List.getElem_cons_succ, List.getElem_cons_zero, Act.put, List.setIfInBounds_toArray, List.set_cons_zero, List.set_cons_succ]
          refine wpAnyH_take (i := 5) (v := ?_) rfl (by kernel_rfl) (by kernel_rfl) (by kernel_rfl) (fun _ _ _ h => h) (Or.inl ⟨by rfl, ?_⟩) (by assumption) ?_
          rotate_left
          · intro w hSw; (try dsimp only at hSw); obtain ⟨g0, g1, g2, g3, g4, g5, g6⟩ := hSw; go_simp; (try with_reducible rfl)
          simp only [List.getElem_toArray, List.getElem_cons_succ, List.getElem_cons_zero, Act.put, List.setIfInBounds_toArray, List.set_cons_zero, List.set_cons_succ]
          refine wpAnyH_take (i := 6) (v := ?_) rfl (by kernel_rfl) (by kernel_rfl) (by kernel_rfl) (fun _ _ _ h => h) (Or.inl ⟨by rfl, ?_⟩) (by assumption) ?_
          rotate_left
          · intro w hSw; (try dsimp only at hSw); obtain ⟨g0, g1, g2, g3, g4, g5, g6⟩ := hSw; go_simp; (try with_reducible rfl)
          simp only [List.getElem_toArray, List.getElem_cons_succ, List.getElem_cons_zero, Act.put, List.setIfInBounds_toArray, List.set_cons_zero, List.set_cons_succ]
          refine wpAnyH_take (i := 7) (v := ?_) rfl (by kernel_rfl) (by kernel_rfl) (by kernel_rfl) (fun _ _ _ h => h) (Or.inl ⟨by rfl, ?_⟩) (by assumption) ?_
          rotate_left
          · intro w hSw; (try dsimp only at hSw); obtain ⟨g0, g1, g2, g3, g4, g5, g6⟩ := hSw; go_simp; (try with_reducible rfl)
          simp only [List.getElem_toArray, List.getElem_cons_succ, List.getElem_cons_zero, Act.put, List.setIfInBounds_toArray, List.set_cons_zero, List.set_cons_succ]
          refine wpAnyH_take (i := 8) (v := ?_) rfl (by kernel_rfl) (by kernel_rfl) (by kernel_rfl) (fun _ _ _ h => h) (Or.inl ⟨by rfl, ?_⟩) (by assumption) ?_
          rotate_left
          · intro w hSw; (try dsimp only at hSw); obtain ⟨g0, g1, g2, g3, g4, g5, g6⟩ := hSw; go_simp; (try with_reducible rfl)
          simp only [List.getElem_toArray, List.getElem_cons_succ, List.getElem_cons_zero, Act.put, List.setIfInBounds_toArray, List.set_cons_zero, List.set_cons_succ]
          refine wpAnyH_take (i := 9) (v := ?_) rfl (by kernel_rfl) (by kernel_rfl) (by kernel_rfl) (fun _ _ _ h => h) (Or.inl ⟨by rfl, ?_⟩) (by assumption) ?_
          rotate_left
          · intro w hSw; (try dsimp only at hSw); obtain ⟨g0, g1, g2, g3, g4, g5, g6⟩ := hSw; go_simp; (try with_reducible rfl)
          simp only [List.getElem_toArray, List.getElem_cons_succ, List.getElem_cons_zero, Act.put, List.setIfInBounds_toArray, List.set_cons_zero, List.set_cons_succ]
          refine wpAnyH_take (i := 10) (v := ?_) rfl (by kernel_rfl) (by kernel_rfl) (by kernel_rfl) (fun _ _ _ h => h) (Or.inl ⟨by rfl, ?_⟩) (by assumption) ?_
          rotate_left
          · intro w hSw; (try dsimp only at hSw); obtain ⟨g0, g1, g2, g3, g4, g5, g6⟩ := hSw; go_simp; (try with_reducible rfl)
          simp only [List.getElem_toArray, List.getElem_cons_succ, List.getElem_cons_zero, Act.put, List.setIfInBounds_toArray, List.set_cons_zero, List.set_cons_succ]
          refine wpAnyH_take (i := 11) (v := ?_) rfl (by kernel_rfl) (by kernel_rfl) (by kernel_rfl) (fun _ _ _ h => h) (Or.inl ⟨by rfl, ?_⟩) (by assumption) ?_
          rotate_left
          · intro w hSw; (try dsimp only at hSw); obtain ⟨g0, g1, g2, g3, g4, g5, g6⟩ := hSw; go_simp; (try with_reducible rfl)
          simp only [List.getElem_toArray, List.getElem_cons_succ, List.getElem_cons_zero, Act.put, List.setIfInBounds_toArray, List.set_cons_zero, List.set_cons_succ]
          refine wpAnyH_take (i := 12) (v := ?_) rfl (by kernel_rfl) (by kernel_rfl) (by kernel_rfl) (fun _ _ _ h => h) (Or.inl ⟨by rfl, ?_⟩) (by assumption) ?_
          rotate_left
          · intro w hSw; (try dsimp only at hSw); obtain ⟨g0, g1, g2, g3, g4, g5, g6⟩ := hSw; go_simp; (try with_reducible rfl)
          simp only [List.getElem_toArray, List.getElem_cons_succ, List.getElem_cons_zero, Act.put, List.setIfInBounds_toArray, List.set_cons_zero, List.set_cons_succ]
          refine wpAnyH_take (i := 13) (v := ?_) rfl (by kernel_rfl) (by kernel_rfl) (by kernel_rfl) (fun _ _ _ h => h) (Or.inl ⟨by rfl, ?_⟩) (by assumption) ?_
          rotate_left
          · intro w hSw; (try dsimp only at hSw); obtain ⟨g0, g1, g2, g3, g4, g5, g6⟩ := hSw; go_simp; (try with_reducible rfl)
          simp only [List.getElem_toArray, List.getElem_cons_succ, List.getElem_cons_zero, Act.put, List.setIfInBounds_toArray, List.set_cons_zero, List.set_cons_succ]
          refine wpAnyH_take (i := 14) (v := ?_) rfl (by kernel_rfl) (by kernel_rfl) (by kernel_rfl) (fun _ _ _ h => h) (Or.inl ⟨by rfl, ?_⟩) (by assumption) ?_
          rotate_left
          · intro w hSw; (try dsimp only at hSw); obtain ⟨g0, g1, g2, g3, g4, g5, g6⟩ := hSw; go_simp; (try with_reducible rfl)
          simp only [List.getElem_toArray, List.getElem_cons_succ, List.getElem_cons_zero, Act.put, List.setIfInBounds_toArray, List.set_cons_zero, List.set_cons_succ]
          refine wpAnyH_take (i := 15) (v := ?_) rfl (by kernel_rfl) (by kernel_rfl) (by kernel_rfl) (fun _ _ _ h => h) (Or.inl ⟨by rfl, ?_⟩) (by assumption) ?_
          rotate_left
          · intro w hSw; (try dsimp only at hSw); obtain ⟨g0, g1, g2, g3, g4, g5, g6⟩ := hSw; go_simp; (try with_reducible rfl)
          simp only [List.getElem_toArray, List.getElem_cons_succ, List.getElem_cons_zero, Act.put, List.setIfInBounds_toArray, List.set_cons_zero, List.set_cons_succ]
          refine wpAnyH_take (i := 16) (v := ?_) rfl (by kernel_rfl) (by kernel_rfl) (by kernel_rfl) (fun _ _ _ h => h) (Or.inl ⟨by rfl, ?_⟩) (by assumption) ?_
          rotate_left
          · intro w hSw; (try dsimp only at hSw); obtain ⟨g0, g1, g2, g3, g4, g5, g6⟩ := hSw; go_simp; (try with_reducible rfl)
          simp only [List.getElem_toArray, List.getElem_cons_succ, List.getElem_cons_zero, Act.put, List.setIfInBounds_toArray, List.set_cons_zero, List.set_cons_succ]
          refine wpAnyH_take (i := 18) (v := ?_) rfl (by kernel_rfl) (by kernel_rfl) (by kernel_rfl) (fun _ _ _ h => h) (Or.inl ⟨by rfl, ?_⟩) (by assumption) ?_
          rotate_left
          · intro w hSw; (try dsimp only at hSw); obtain ⟨g0, g1, g2, g3, g4, g5, g6⟩ := hSw; go_simp; (try with_reducible rfl)
          simp only [List.getElem_toArray, List.getElem_cons_succ, List.getElem_cons_zero, Act.put, List.setIfInBounds_toArray, List.set_cons_zero, List.set_cons_succ]
          refine wpAnyH_take (i := 19) (v := ?_) rfl (by kernel_rfl) (by kernel_rfl) (by kernel_rfl) (fun _ _ _ h => h) (Or.inl ⟨by rfl, ?_⟩) (by assumption) ?_
          rotate_left
          · intro w hSw; (try dsimp only at hSw); obtain ⟨g0, g1, g2, g3, g4, g5, g6⟩ := hSw; go_simp; (try with_reducible rfl)
          simp only [List.getElem_toArray, List.getElem_cons_succ, List.getElem_cons_zero, Act.put, List.setIfInBounds_toArray, List.set_cons_zero, List.set_cons_succ]
          refine wpAnyH_take (i := 20) (v := ?_) rfl (by kernel_rfl) (by kernel_rfl) (by kernel_rfl) (fun _ _ _ h => h) (Or.inl ⟨by rfl, ?_⟩) (by assumption) ?_
          rotate_left
          · intro w hSw; (try dsimp only at hSw); obtain ⟨g0, g1, g2, g3, g4, g5, g6⟩ := hSw; go_simp; (try with_reducible rfl)
          simp only [List.getElem_toArray, List.getElem_cons_succ, List.getElem_cons_zero, Act.put, List.setIfInBounds_toArray, List.set_cons_zero, List.set_cons_succ]
          refine wpAnyH_take (i := 21) (v := ?_) rfl (by kernel_rfl) (by kernel_rfl) (by kernel_rfl) (fun _ _ _ h => h) (Or.inl ⟨by rfl, ?_⟩) (by assumption) ?_
          rotate_left
          · intro w hSw; (try dsimp only at hSw); obtain ⟨g0, g1, g2, g3, g4, g5, g6⟩ := hSw; go_simp; (try with_reducible rfl)
          simp only [List.getElem_toArray, List.getElem_cons_succ, List.getElem_cons_zero, Act.put, List.setIfInBounds_toArray, List.set_cons_zero, List.set_cons_succ]
          refine wpAnyH_ready (rs := [17]) (by kernel_rfl) (by simp) ?_
          refine AllReadyH.cons rfl (fun K hK => ?_) AllReadyH.nil
          go_simp
          (go_at_call 13; (refine (FI.out (si + 3) si _ (by omega) (by omega) (below_drew B4.out)).mono ?_); rintro z w5 ⟨rfl, b5⟩)
          have B5 := Lib.hid b5
          clear b5
          refine hK.out _ _ ?_ (fun hHeld1 => ?_)
          · exact (AT.out _ B5.out).1
          clear hK K hHeld0
          try simp only [List.getElem_toArray, List.getElem_cons_succ, List.getElem_cons_zero, Act.put, List.setIfInBounds_toArray, List.set_cons_zero, List.set_cons_succ]
          refine wpAnyH_ready (rs := [22]) (by kernel_rfl) (by simp) ?_
          refine AllReadyH.cons rfl (fun K hK => ?_) AllReadyH.nil
          go_simp
          (go_at_call 13; (refine (FI.out 31 ci _ (by omega) (by omega) B5.out).mono ?_); rintro z w6 ⟨rfl, b6⟩)
          have B6 := Lib.hid b6
          clear b6
          refine hK.out _ _ ?_ (fun hHeld2 => ?_)
          · exact (AT.out _ B6.out).1
          clear hK K hHeld1
          try simp only [List.getElem_toArray, List.getElem_cons_succ, List.getElem_cons_zero, Act.put, List.setIfInBounds_toArray, List.set_cons_zero, List.set_cons_succ]
          refine wpAnyH_take (i := 23) (v := ?_) rfl (by kernel_rfl) (by kernel_rfl) (by kernel_rfl) (fun _ _ _ h => h) (Or.inl ⟨by rfl, ?_⟩) (by assumption) ?_
          rotate_left
          · intro w hSw; (try dsimp only at hSw); obtain ⟨g0, g1, g2, g3, g4, g5, g6⟩ := hSw; go_simp; (try with_reducible rfl)
          simp only [List.getElem_toArray, List.getElem_cons_succ, List.getElem_cons_zero, Act.put, List.setIfInBounds_toArray, List.set_cons_zero, List.set_cons_succ]
          obtain ⟨⟨g0, g1, g2, g3, g4, g5, g6⟩, _, hz⟩ := AT.out _ B6.out
          obtain ⟨e0, e1, e2, e3, e4, e5, e6, e7⟩ := EvAt.of (e := ⟨0, 0, 0, 0, 0, ⟨#[]⟩, ⟨#[]⟩, ⟨#[]⟩⟩) hz
          have ef := fun j => frozen_of_row _ _ j _ _ hz
          simp only at e0 e1 e2 e3 e4 e5 e6 e7
          refine wpAnyH_ready (rs := [24]) (by kernel_rfl) (by simp) ?_
          refine AllReadyH.cons rfl (fun K hK => ?_) AllReadyH.nil
          go_simp
          refine hK.out _ _ ?_ (fun hHeld9 => ?_)
          · exact ⟨(ev_far (by omega) _ _ _ _ _ _ _ _ _).trans g0, (ev_far (by omega) _ _ _ _ _ _ _ _ _).trans g1, (ev_far (by omega) _ _ _ _ _ _ _ _ _).trans g2, (ev_far (by omega) _ _ _ _ _ _ _ _ _).trans g3, (ev_far (by omega) _ _ _ _ _ _ _ _ _).trans g4, (ev_far (by omega) _ _ _ _ _ _ _ _ _).trans g5, (ev_far (by omega) _ _ _ _ _ _ _ _ _).trans g6⟩
          clear hK K
          refine wpAnyH_done (by kernel_rfl) ?_ _
          go_wp2_with fail
          refine bodyPost_ret (v := (Evn.mk 1 (min nx 99) 0 aa na (ByteArray.extract ⟨#[97, 98, 99, 100, 101, 102, 103, 104, 105, 106, 107, 108, 109, 110, 111, 112]⟩ mi (mi + 1) ++ ⟨#[64, 98, 46, 99, 100]⟩) (fillS (si + 3) si) (fillS 31 ci)).agg) ?_ rfl ⟨?_, ?_⟩
          · simp [results, Tryz.f16, go_sem, Evn.agg, e0, e1, e2, e3, e4, e5, e6, e7]
          · rw [E.out, EK.out, EI.out, EZ.out, MN.out, if_neg hk0, if_neg hk0, if_pos h7, if_neg h15]
          · exact (((((((((BB.out _ B6.out).setCell (by first | omega | (simp; omega) | simp) _).setCell (by first | omega | (simp; omega) | simp) _).setCell (by first | omega | (simp; omega) | simp) _).setCell (by first | omega | (simp; omega) | simp) _).setCell (by first | omega | (simp; omega) | simp) _).setCell (by first | omega | (simp; omega) | simp) _).setCell (by first | omega | (simp; omega) | simp) _).setCell (by first | omega | (simp; omega) | simp) _)
        · skip
          go_enter Tryz.func16, Tryz.ntmps16
          go_wp2_with (go_at_call 44; (refine (NX.out _ (Below.refl _ _)).mono ?_); rintro z w4 ⟨rfl, b4⟩; have B4 := Lib.hid b4; clear b4; obtain ⟨⟨k0, k1, k2, k3, k4, k5, k6⟩, ⟨y0, y1⟩, _⟩ := AT.out _ B4.out)
          refine wp_region_held_drew (S := fun w' => w'.cell? ⟨w.heap.size, 0, none⟩ = some (.int .i64 kind) ∧ w'.cell? ⟨w.heap.size, 1, none⟩ = some (.int .i64 who) ∧ w'.cell? ⟨w.heap.size, 2, none⟩ = some (.int .i64 mail) ∧ w'.cell? ⟨w.heap.size, 3, none⟩ = some (.int .i64 salt) ∧ w'.cell? ⟨w.heap.size, 4, none⟩ = some (.int .i64 chk) ∧ w'.cell? ⟨w.heap.size, 5, none⟩ = some (.int .i64 at0) ∧ w'.cell? ⟨w.heap.size, 6, none⟩ = some (.int .i64 nn)) (by kernel_rfl) ?_ (fun hHeld0 => ?_)
          · exact (AT.out _ B4.out).1
          refine wpAnyH_take (i := 0) (v := ?_) rfl (by kernel_rfl) (by kernel_rfl) (by kernel_rfl) (fun _ _ _ h => h) (Or.inl ⟨by rfl, ?_⟩) (by assumption) ?_
          rotate_left
          · intro w hSw; (try dsimp only at hSw); obtain ⟨g0, g1, g2, g3, g4, g5, g6⟩ := hSw; go_simp; (try with_reducible rfl)
          simp only [List.getElem_toArray, List.getElem_cons_zero, Act.put, List.setIfInBounds_toArray, List.set_cons_zero, List.set_cons_succ]
          refine wpAnyH_take (i := 1) (v := ?_) rfl (by kernel_rfl) (by kernel_rfl) (by kernel_rfl) (fun _ _ _ h => h) (Or.inl ⟨by rfl, ?_⟩) (by assumption) ?_
          rotate_left
          · intro w hSw; (try dsimp only at hSw); obtain ⟨g0, g1, g2, g3, g4, g5, g6⟩ := hSw; go_simp; (try with_reducible rfl)
          simp only [List.getElem_toArray, List.getElem_cons_succ, List.getElem_cons_zero, Act.put, List.setIfInBounds_toArray, List.set_cons_zero, List.set_cons_succ]
          refine wpAnyH_take (i := 2) (v := ?_) rfl (by kernel_rfl) (by kernel_rfl) (by kernel_rfl) (fun _ _ _ h => h) (Or.inl ⟨by rfl, ?_⟩) (by assumption) ?_
          rotate_left
          · intro w hSw; (try dsimp only at hSw); obtain ⟨g0, g1, g2, g3, g4, g5, g6⟩ := hSw; go_simp; (try with_reducible rfl)
          simp only [List.getElem_toArray, List.getElem_cons_succ, List.getElem_cons_zero, Act.put, List.setIfInBounds_toArray, List.set_cons_zero, List.set_cons_succ]
          refine wpAnyH_take (i := 3) (v := ?_) rfl (by kernel_rfl) (by kernel_rfl) (by kernel_rfl) (fun _ _ _ h => h) (Or.inl ⟨by rfl, ?_⟩) (by assumption) ?_
          rotate_left
          · intro w hSw; (try dsimp only at hSw); obtain ⟨g0, g1, g2, g3, g4, g5, g6⟩ := hSw; go_simp; (try with_reducible rfl)
          simp only [List.getElem_toArray, List.getElem_cons_succ, List.getElem_cons_zero, Act.put, List.setIfInBounds_toArray, List.set_cons_zero, List.set_cons_succ]
          refine wpAnyH_take (i := 4) (v := ?_) rfl (by kernel_rfl) (by kernel_rfl) (by kernel_rfl) (fun _ _ _ h => h) (Or.inl ⟨by rfl, ?_⟩) (by assumption) ?_
          rotate_left
          · intro w hSw; (try dsimp only at hSw); obtain ⟨g0, g1, g2, g3, g4, g5, g6⟩ := hSw; go_simp; (try with_reducible rfl)
          simp only [List.getElem_toArray, List.getElem_cons_succ, List.getElem_cons_zero, Act.put, List.setIfInBounds_toArray, List.set_cons_zero, List.set_cons_succ]
          refine wpAnyH_take (i := 5) (v := ?_) rfl (by kernel_rfl) (by kernel_rfl) (by kernel_rfl) (fun _ _ _ h => h) (Or.inl ⟨by rfl, ?_⟩) (by assumption) ?_
          rotate_left
          · intro w hSw; (try dsimp only at hSw); obtain ⟨g0, g1, g2, g3, g4, g5, g6⟩ := hSw; go_simp; (try with_reducible rfl)
          simp only [List.getElem_toArray, List.getElem_cons_succ, List.getElem_cons_zero, Act.put, List.setIfInBounds_toArray, List.set_cons_zero, List.set_cons_succ]
          refine wpAnyH_take (i := 6) (v := ?_) rfl (by kernel_rfl) (by kernel_rfl) (by kernel_rfl) (fun _ _ _ h => h) (Or.inl ⟨by rfl, ?_⟩) (by assumption) ?_
          rotate_left
          · intro w hSw; (try dsimp only at hSw); obtain ⟨g0, g1, g2, g3, g4, g5, g6⟩ := hSw; go_simp; (try with_reducible rfl)
          simp only [List.getElem_toArray, List.getElem_cons_succ, List.getElem_cons_zero, Act.put, List.setIfInBounds_toArray, List.set_cons_zero, List.set_cons_succ]
          refine wpAnyH_take (i := 7) (v := ?_) rfl (by kernel_rfl) (by kernel_rfl) (by kernel_rfl) (fun _ _ _ h => h) (Or.inl ⟨by rfl, ?_⟩) (by assumption) ?_
          rotate_left
          · intro w hSw; (try dsimp only at hSw); obtain ⟨g0, g1, g2, g3, g4, g5, g6⟩ := hSw; go_simp; (try with_reducible rfl)
          simp only [List.getElem_toArray, List.getElem_cons_succ, List.getElem_cons_zero, Act.put, List.setIfInBounds_toArray, List.set_cons_zero, List.set_cons_succ]
          refine wpAnyH_take (i := 8) (v := ?_) rfl (by kernel_rfl) (by kernel_rfl) (by kernel_rfl) (fun _ _ _ h => h) (Or.inl ⟨by rfl, ?_⟩) (by assumption) ?_
          rotate_left
          · intro w hSw; (try dsimp only at hSw); obtain ⟨g0, g1, g2, g3, g4, g5, g6⟩ := hSw; go_simp; (try with_reducible rfl)
          simp only [List.getElem_toArray, List.getElem_cons_succ, List.getElem_cons_zero, Act.put, List.setIfInBounds_toArray, List.set_cons_zero, List.set_cons_succ]
          refine wpAnyH_take (i := 9) (v := ?_) rfl (by kernel_rfl) (by kernel_rfl) (by kernel_rfl) (fun _ _ _ h => h) (Or.inl ⟨by rfl, ?_⟩) (by assumption) ?_
          rotate_left
          · intro w hSw; (try dsimp only at hSw); obtain ⟨g0, g1, g2, g3, g4, g5, g6⟩ := hSw; go_simp; (try with_reducible rfl)
          simp only [List.getElem_toArray, List.getElem_cons_succ, List.getElem_cons_zero, Act.put, List.setIfInBounds_toArray, List.set_cons_zero, List.set_cons_succ]
          refine wpAnyH_take (i := 10) (v := ?_) rfl (by kernel_rfl) (by kernel_rfl) (by kernel_rfl) (fun _ _ _ h => h) (Or.inl ⟨by rfl, ?_⟩) (by assumption) ?_
          rotate_left
          · intro w hSw; (try dsimp only at hSw); obtain ⟨g0, g1, g2, g3, g4, g5, g6⟩ := hSw; go_simp; (try with_reducible rfl)
          simp only [List.getElem_toArray, List.getElem_cons_succ, List.getElem_cons_zero, Act.put, List.setIfInBounds_toArray, List.set_cons_zero, List.set_cons_succ]
          refine wpAnyH_take (i := 11) (v := ?_) rfl (by kernel_rfl) (by kernel_rfl) (by kernel_rfl) (fun _ _ _ h => h) (Or.inl ⟨by rfl, ?_⟩) (by assumption) ?_
          rotate_left
          · intro w hSw; (try dsimp only at hSw); obtain ⟨g0, g1, g2, g3, g4, g5, g6⟩ := hSw; go_simp; (try with_reducible rfl)
          simp only [List.getElem_toArray, List.getElem_cons_succ, List.getElem_cons_zero, Act.put, List.setIfInBounds_toArray, List.set_cons_zero, List.set_cons_succ]
          refine wpAnyH_take (i := 12) (v := ?_) rfl (by kernel_rfl) (by kernel_rfl) (by kernel_rfl) (fun _ _ _ h => h) (Or.inl ⟨by rfl, ?_⟩) (by assumption) ?_
          rotate_left
          · intro w hSw; (try dsimp only at hSw); obtain ⟨g0, g1, g2, g3, g4, g5, g6⟩ := hSw; go_simp; (try with_reducible rfl)
          simp only [List.getElem_toArray, List.getElem_cons_succ, List.getElem_cons_zero, Act.put, List.setIfInBounds_toArray, List.set_cons_zero, List.set_cons_succ]
          refine wpAnyH_take (i := 13) (v := ?_) rfl (by kernel_rfl) (by kernel_rfl) (by kernel_rfl) (fun _ _ _ h => h) (Or.inl ⟨by rfl, ?_⟩) (by assumption) ?_
          rotate_left
          · intro w hSw; (try dsimp only at hSw); obtain ⟨g0, g1, g2, g3, g4, g5, g6⟩ := hSw; go_simp; (try with_reducible rfl)
          simp only [List.getElem_toArray, List.getElem_cons_succ, List.getElem_cons_zero, Act.put, List.setIfInBounds_toArray, List.set_cons_zero, List.set_cons_succ]
          refine wpAnyH_take (i := 14) (v := ?_) rfl (by kernel_rfl) (by kernel_rfl) (by kernel_rfl) (fun _ _ _ h => h) (Or.inl ⟨by rfl, ?_⟩) (by assumption) ?_
          rotate_left
          · intro w hSw; (try dsimp only at hSw); obtain ⟨g0, g1, g2, g3, g4, g5, g6⟩ := hSw; go_simp; (try with_reducible rfl)
          simp only [List.getElem_toArray, List.getElem_cons_succ, List.getElem_cons_zero, Act.put, List.setIfInBounds_toArray, List.set_cons_zero, List.set_cons_succ]
          refine wpAnyH_take (i := 15) (v := ?_) rfl (by kernel_rfl) (by kernel_rfl) (by kernel_rfl) (fun _ _ _ h => h) (Or.inl ⟨by rfl, ?_⟩) (by assumption) ?_
          rotate_left
          · intro w hSw; (try dsimp only at hSw); obtain ⟨g0, g1, g2, g3, g4, g5, g6⟩ := hSw; go_simp; (try with_reducible rfl)
          simp only [List.getElem_toArray, List.getElem_cons_succ, List.getElem_cons_zero, Act.put, List.setIfInBounds_toArray, List.set_cons_zero, List.set_cons_succ]
          refine wpAnyH_take (i := 16) (v := ?_) rfl (by kernel_rfl) (by kernel_rfl) (by kernel_rfl) (fun _ _ _ h => h) (Or.inl ⟨by rfl, ?_⟩) (by assumption) ?_
          rotate_left
          · intro w hSw; (try dsimp only at hSw); obtain ⟨g0, g1, g2, g3, g4, g5, g6⟩ := hSw; go_simp; (try with_reducible rfl)
          simp only [List.getElem_toArray, List.getElem_cons_succ, List.getElem_cons_zero, Act.put, List.setIfInBounds_toArray, List.set_cons_zero, List.set_cons_succ]
          refine wpAnyH_take (i := 18) (v := ?_) rfl (by kernel_rfl) (by kernel_rfl) (by kernel_rfl) (fun _ _ _ h => h) (Or.inl ⟨by rfl, ?_⟩) (by assumption) ?_
          rotate_left
          · intro w hSw; (try dsimp only at hSw); obtain ⟨g0, g1, g2, g3, g4, g5, g6⟩ := hSw; go_simp; (try with_reducible rfl)
          simp only [List.getElem_toArray, List.getElem_cons_succ, List.getElem_cons_zero, Act.put, List.setIfInBounds_toArray, List.set_cons_zero, List.set_cons_succ]
          refine wpAnyH_take (i := 19) (v := ?_) rfl (by kernel_rfl) (by kernel_rfl) (by kernel_rfl) (fun _ _ _ h => h) (Or.inl ⟨by rfl, ?_⟩) (by assumption) ?_
          rotate_left
          · intro w hSw; (try dsimp only at hSw); obtain ⟨g0, g1, g2, g3, g4, g5, g6⟩ := hSw; go_simp; (try with_reducible rfl)
          simp only [List.getElem_toArray, List.getElem_cons_succ, List.getElem_cons_zero, Act.put, List.setIfInBounds_toArray, List.set_cons_zero, List.set_cons_succ]
          refine wpAnyH_take (i := 20) (v := ?_) rfl (by kernel_rfl) (by kernel_rfl) (by kernel_rfl) (fun _ _ _ h => h) (Or.inl ⟨by rfl, ?_⟩) (by assumption) ?_
          rotate_left
          · intro w hSw; (try dsimp only at hSw); obtain ⟨g0, g1, g2, g3, g4, g5, g6⟩ := hSw; go_simp; (try with_reducible rfl)
          simp only [List.getElem_toArray, List.getElem_cons_succ, List.getElem_cons_zero, Act.put, List.setIfInBounds_toArray, List.set_cons_zero, List.set_cons_succ]
          refine wpAnyH_take (i := 21) (v := ?_) rfl (by kernel_rfl) (by kernel_rfl) (by kernel_rfl) (fun _ _ _ h => h) (Or.inl ⟨by rfl, ?_⟩) (by assumption) ?_
          rotate_left
          · intro w hSw; (try dsimp only at hSw); obtain ⟨g0, g1, g2, g3, g4, g5, g6⟩ := hSw; go_simp; (try with_reducible rfl)
          simp only [List.getElem_toArray, List.getElem_cons_succ, List.getElem_cons_zero, Act.put, List.setIfInBounds_toArray, List.set_cons_zero, List.set_cons_succ]
          refine wpAnyH_ready (rs := [17]) (by kernel_rfl) (by simp) ?_
          refine AllReadyH.cons rfl (fun K hK => ?_) AllReadyH.nil
          go_simp
          (go_at_call 13; (refine (FI.out (si + 3) si _ (by omega) (by omega) (below_drew B4.out)).mono ?_); rintro z w5 ⟨rfl, b5⟩)
          have B5 := Lib.hid b5
          clear b5
          refine hK.out _ _ ?_ (fun hHeld1 => ?_)
          · exact (AT.out _ B5.out).1
          clear hK K hHeld0
          try simp only [List.getElem_toArray, List.getElem_cons_succ, List.getElem_cons_zero, Act.put, List.setIfInBounds_toArray, List.set_cons_zero, List.set_cons_succ]
          refine wpAnyH_ready (rs := [22]) (by kernel_rfl) (by simp) ?_
          refine AllReadyH.cons rfl (fun K hK => ?_) AllReadyH.nil
          go_simp
          (go_at_call 13; (refine (FI.out 32 ci _ (by omega) (by omega) B5.out).mono ?_); rintro z w6 ⟨rfl, b6⟩)
          have B6 := Lib.hid b6
          clear b6
          refine hK.out _ _ ?_ (fun hHeld2 => ?_)
          · exact (AT.out _ B6.out).1
          clear hK K hHeld1
          try simp only [List.getElem_toArray, List.getElem_cons_succ, List.getElem_cons_zero, Act.put, List.setIfInBounds_toArray, List.set_cons_zero, List.set_cons_succ]
          refine wpAnyH_take (i := 23) (v := ?_) rfl (by kernel_rfl) (by kernel_rfl) (by kernel_rfl) (fun _ _ _ h => h) (Or.inl ⟨by rfl, ?_⟩) (by assumption) ?_
          rotate_left
          · intro w hSw; (try dsimp only at hSw); obtain ⟨g0, g1, g2, g3, g4, g5, g6⟩ := hSw; go_simp; (try with_reducible rfl)
          simp only [List.getElem_toArray, List.getElem_cons_succ, List.getElem_cons_zero, Act.put, List.setIfInBounds_toArray, List.set_cons_zero, List.set_cons_succ]
          obtain ⟨⟨g0, g1, g2, g3, g4, g5, g6⟩, _, hz⟩ := AT.out _ B6.out
          obtain ⟨e0, e1, e2, e3, e4, e5, e6, e7⟩ := EvAt.of (e := ⟨0, 0, 0, 0, 0, ⟨#[]⟩, ⟨#[]⟩, ⟨#[]⟩⟩) hz
          have ef := fun j => frozen_of_row _ _ j _ _ hz
          simp only at e0 e1 e2 e3 e4 e5 e6 e7
          refine wpAnyH_ready (rs := [24]) (by kernel_rfl) (by simp) ?_
          refine AllReadyH.cons rfl (fun K hK => ?_) AllReadyH.nil
          go_simp
          refine hK.out _ _ ?_ (fun hHeld9 => ?_)
          · exact ⟨(ev_far (by omega) _ _ _ _ _ _ _ _ _).trans g0, (ev_far (by omega) _ _ _ _ _ _ _ _ _).trans g1, (ev_far (by omega) _ _ _ _ _ _ _ _ _).trans g2, (ev_far (by omega) _ _ _ _ _ _ _ _ _).trans g3, (ev_far (by omega) _ _ _ _ _ _ _ _ _).trans g4, (ev_far (by omega) _ _ _ _ _ _ _ _ _).trans g5, (ev_far (by omega) _ _ _ _ _ _ _ _ _).trans g6⟩
          clear hK K
          refine wpAnyH_done (by kernel_rfl) ?_ _
          go_wp2_with fail
          refine bodyPost_ret (v := (Evn.mk 1 (min nx 99) 0 aa na (ByteArray.extract ⟨#[97, 98, 99, 100, 101, 102, 103, 104, 105, 106, 107, 108, 109, 110, 111, 112]⟩ mi (mi + 1) ++ ⟨#[64, 98, 46, 99, 100]⟩) (fillS (si + 3) si) (fillS 32 ci)).agg) ?_ rfl ⟨?_, ?_⟩
          · simp [results, Tryz.f16, go_sem, Evn.agg, e0, e1, e2, e3, e4, e5, e6, e7]
          · rw [E.out, EK.out, EI.out, EZ.out, MN.out, if_neg hk0, if_neg hk0, if_neg h7, if_neg h15]
          · exact (((((((((BB.out _ B6.out).setCell (by first | omega | (simp; omega) | simp) _).setCell (by first | omega | (simp; omega) | simp) _).setCell (by first | omega | (simp; omega) | simp) _).setCell (by first | omega | (simp; omega) | simp) _).setCell (by first | omega | (simp; omega) | simp) _).setCell (by first | omega | (simp; omega) | simp) _).setCell (by first | omega | (simp; omega) | simp) _).setCell (by first | omega | (simp; omega) | simp) _)
    · have hk1' : decide ((ki : Int) < 1) = false := decide_eq_false hk1
      have hk2 : 9 < (ki : Int) := by omega
      by_cases h15 : mi = 15
      · have h15n : (mi : Int) = 15 := by omega
        by_cases h7 : c7 = 7
        · skip
          go_enter Tryz.func16, Tryz.ntmps16
          go_wp2_with (go_at_call 44; (refine (NX.out _ (Below.refl _ _)).mono ?_); rintro z w4 ⟨rfl, b4⟩; have B4 := Lib.hid b4; clear b4; obtain ⟨⟨k0, k1, k2, k3, k4, k5, k6⟩, ⟨y0, y1⟩, _⟩ := AT.out _ B4.out)
          refine wp_region_held_drew (S := fun w' => w'.cell? ⟨w.heap.size, 0, none⟩ = some (.int .i64 kind) ∧ w'.cell? ⟨w.heap.size, 1, none⟩ = some (.int .i64 who) ∧ w'.cell? ⟨w.heap.size, 2, none⟩ = some (.int .i64 mail) ∧ w'.cell? ⟨w.heap.size, 3, none⟩ = some (.int .i64 salt) ∧ w'.cell? ⟨w.heap.size, 4, none⟩ = some (.int .i64 chk) ∧ w'.cell? ⟨w.heap.size, 5, none⟩ = some (.int .i64 at0) ∧ w'.cell? ⟨w.heap.size, 6, none⟩ = some (.int .i64 nn)) (by kernel_rfl) ?_ (fun hHeld0 => ?_)
          · exact (AT.out _ B4.out).1
          refine wpAnyH_take (i := 0) (v := ?_) rfl (by kernel_rfl) (by kernel_rfl) (by kernel_rfl) (fun _ _ _ h => h) (Or.inl ⟨by rfl, ?_⟩) (by assumption) ?_
          rotate_left
          · intro w hSw; (try dsimp only at hSw); obtain ⟨g0, g1, g2, g3, g4, g5, g6⟩ := hSw; go_simp; (try with_reducible rfl)
          simp only [List.getElem_toArray, List.getElem_cons_zero, Act.put, List.setIfInBounds_toArray, List.set_cons_zero, List.set_cons_succ]
          refine wpAnyH_take (i := 1) (v := ?_) rfl (by kernel_rfl) (by kernel_rfl) (by kernel_rfl) (fun _ _ _ h => h) (Or.inl ⟨by rfl, ?_⟩) (by assumption) ?_
          rotate_left
          · intro w hSw; (try dsimp only at hSw); obtain ⟨g0, g1, g2, g3, g4, g5, g6⟩ := hSw; go_simp; (try with_reducible rfl)
          simp only [List.getElem_toArray, List.getElem_cons_succ, List.getElem_cons_zero, Act.put, List.setIfInBounds_toArray, List.set_cons_zero, List.set_cons_succ]
          refine wpAnyH_take (i := 2) (v := ?_) rfl (by kernel_rfl) (by kernel_rfl) (by kernel_rfl) (fun _ _ _ h => h) (Or.inl ⟨by rfl, ?_⟩) (by assumption) ?_
          rotate_left
          · intro w hSw; (try dsimp only at hSw); obtain ⟨g0, g1, g2, g3, g4, g5, g6⟩ := hSw; go_simp; (try with_reducible rfl)
          simp only [List.getElem_toArray, List.getElem_cons_succ, List.getElem_cons_zero, Act.put, List.setIfInBounds_toArray, List.set_cons_zero, List.set_cons_succ]
          refine wpAnyH_take (i := 3) (v := ?_) rfl (by kernel_rfl) (by kernel_rfl) (by kernel_rfl) (fun _ _ _ h => h) (Or.inl ⟨by rfl, ?_⟩) (by assumption) ?_
          rotate_left
          · intro w hSw; (try dsimp only at hSw); obtain ⟨g0, g1, g2, g3, g4, g5, g6⟩ := hSw; go_simp; (try with_reducible rfl)
          simp only [List.getElem_toArray, List.getElem_cons_succ, List.getElem_cons_zero, Act.put, List.setIfInBounds_toArray, List.set_cons_zero, List.set_cons_succ]
          refine wpAnyH_take (i := 4) (v := ?_) rfl (by kernel_rfl) (by kernel_rfl) (by kernel_rfl) (fun _ _ _ h => h) (Or.inl ⟨by rfl, ?_⟩) (by assumption) ?_
          rotate_left
          · intro w hSw; (try dsimp only at hSw); obtain ⟨g0, g1, g2, g3, g4, g5, g6⟩ := hSw; go_simp; (try with_reducible rfl)
          simp only [List.getElem_toArray, List.getElem_cons_succ, List.getElem_cons_zero, Act.put, List.setIfInBounds_toArray, List.set_cons_zero, List.set_cons_succ]
          refine wpAnyH_take (i := 5) (v := ?_) rfl (by kernel_rfl) (by kernel_rfl) (by kernel_rfl) (fun _ _ _ h => h) (Or.inl ⟨by rfl, ?_⟩) (by assumption) ?_
          rotate_left
          · intro w hSw; (try dsimp only at hSw); obtain ⟨g0, g1, g2, g3, g4, g5, g6⟩ := hSw; go_simp; (try with_reducible rfl)
          simp only [List.getElem_toArray, List.getElem_cons_succ, List.getElem_cons_zero, Act.put, List.setIfInBounds_toArray, List.set_cons_zero, List.set_cons_succ]
          refine wpAnyH_take (i := 6) (v := ?_) rfl (by kernel_rfl) (by kernel_rfl) (by kernel_rfl) (fun _ _ _ h => h) (Or.inl ⟨by rfl, ?_⟩) (by assumption) ?_
          rotate_left
          · intro w hSw; (try dsimp only at hSw); obtain ⟨g0, g1, g2, g3, g4, g5, g6⟩ := hSw; go_simp; (try with_reducible rfl)
          simp only [List.getElem_toArray, List.getElem_cons_succ, List.getElem_cons_zero, Act.put, List.setIfInBounds_toArray, List.set_cons_zero, List.set_cons_succ]
          refine wpAnyH_take (i := 7) (v := ?_) rfl (by kernel_rfl) (by kernel_rfl) (by kernel_rfl) (fun _ _ _ h => h) (Or.inl ⟨by rfl, ?_⟩) (by assumption) ?_
          rotate_left
          · intro w hSw; (try dsimp only at hSw); obtain ⟨g0, g1, g2, g3, g4, g5, g6⟩ := hSw; go_simp; (try with_reducible rfl)
          simp only [List.getElem_toArray, List.getElem_cons_succ, List.getElem_cons_zero, Act.put, List.setIfInBounds_toArray, List.set_cons_zero, List.set_cons_succ]
          refine wpAnyH_take (i := 8) (v := ?_) rfl (by kernel_rfl) (by kernel_rfl) (by kernel_rfl) (fun _ _ _ h => h) (Or.inl ⟨by rfl, ?_⟩) (by assumption) ?_
          rotate_left
          · intro w hSw; (try dsimp only at hSw); obtain ⟨g0, g1, g2, g3, g4, g5, g6⟩ := hSw; go_simp; (try with_reducible rfl)
          simp only [List.getElem_toArray, List.getElem_cons_succ, List.getElem_cons_zero, Act.put, List.setIfInBounds_toArray, List.set_cons_zero, List.set_cons_succ]
          refine wpAnyH_take (i := 9) (v := ?_) rfl (by kernel_rfl) (by kernel_rfl) (by kernel_rfl) (fun _ _ _ h => h) (Or.inl ⟨by rfl, ?_⟩) (by assumption) ?_
          rotate_left
          · intro w hSw; (try dsimp only at hSw); obtain ⟨g0, g1, g2, g3, g4, g5, g6⟩ := hSw; go_simp; (try with_reducible rfl)
          simp only [List.getElem_toArray, List.getElem_cons_succ, List.getElem_cons_zero, Act.put, List.setIfInBounds_toArray, List.set_cons_zero, List.set_cons_succ]
          refine wpAnyH_take (i := 10) (v := ?_) rfl (by kernel_rfl) (by kernel_rfl) (by kernel_rfl) (fun _ _ _ h => h) (Or.inl ⟨by rfl, ?_⟩) (by assumption) ?_
          rotate_left
          · intro w hSw; (try dsimp only at hSw); obtain ⟨g0, g1, g2, g3, g4, g5, g6⟩ := hSw; go_simp; (try with_reducible rfl)
          simp only [List.getElem_toArray, List.getElem_cons_succ, List.getElem_cons_zero, Act.put, List.setIfInBounds_toArray, List.set_cons_zero, List.set_cons_succ]
          refine wpAnyH_take (i := 11) (v := ?_) rfl (by kernel_rfl) (by kernel_rfl) (by kernel_rfl) (fun _ _ _ h => h) (Or.inl ⟨by rfl, ?_⟩) (by assumption) ?_
          rotate_left
          · intro w hSw; (try dsimp only at hSw); obtain ⟨g0, g1, g2, g3, g4, g5, g6⟩ := hSw; go_simp; (try with_reducible rfl)
          simp only [List.getElem_toArray, List.getElem_cons_succ, List.getElem_cons_zero, Act.put, List.setIfInBounds_toArray, List.set_cons_zero, List.set_cons_succ]
          refine wpAnyH_take (i := 12) (v := ?_) rfl (by kernel_rfl) (by kernel_rfl) (by kernel_rfl) (fun _ _ _ h => h) (Or.inl ⟨by rfl, ?_⟩) (by assumption) ?_
          rotate_left
          · intro w hSw; (try dsimp only at hSw); obtain ⟨g0, g1, g2, g3, g4, g5, g6⟩ := hSw; go_simp; (try with_reducible rfl)
          simp only [List.getElem_toArray, List.getElem_cons_succ, List.getElem_cons_zero, Act.put, List.setIfInBounds_toArray, List.set_cons_zero, List.set_cons_succ]
          refine wpAnyH_take (i := 13) (v := ?_) rfl (by kernel_rfl) (by kernel_rfl) (by kernel_rfl) (fun _ _ _ h => h) (Or.inl ⟨by rfl, ?_⟩) (by assumption) ?_
          rotate_left
          · intro w hSw; (try dsimp only at hSw); obtain ⟨g0, g1, g2, g3, g4, g5, g6⟩ := hSw; go_simp; (try with_reducible rfl)
          simp only [List.getElem_toArray, List.getElem_cons_succ, List.getElem_cons_zero, Act.put, List.setIfInBounds_toArray, List.set_cons_zero, List.set_cons_succ]
          refine wpAnyH_take (i := 14) (v := ?_) rfl (by kernel_rfl) (by kernel_rfl) (by kernel_rfl) (fun _ _ _ h => h) (Or.inl ⟨by rfl, ?_⟩) (by assumption) ?_
          rotate_left
          · intro w hSw; (try dsimp only at hSw); obtain ⟨g0, g1, g2, g3, g4, g5, g6⟩ := hSw; go_simp; (try with_reducible rfl)
          simp only [List.getElem_toArray, List.getElem_cons_succ, List.getElem_cons_zero, Act.put, List.setIfInBounds_toArray, List.set_cons_zero, List.set_cons_succ]
          refine wpAnyH_take (i := 15) (v := ?_) rfl (by kernel_rfl) (by kernel_rfl) (by kernel_rfl) (fun _ _ _ h => h) (Or.inl ⟨by rfl, ?_⟩) (by assumption) ?_
          rotate_left
          · intro w hSw; (try dsimp only at hSw); obtain ⟨g0, g1, g2, g3, g4, g5, g6⟩ := hSw; go_simp; (try with_reducible rfl)
          simp only [List.getElem_toArray, List.getElem_cons_succ, List.getElem_cons_zero, Act.put, List.setIfInBounds_toArray, List.set_cons_zero, List.set_cons_succ]
          refine wpAnyH_take (i := 16) (v := ?_) rfl (by kernel_rfl) (by kernel_rfl) (by kernel_rfl) (fun _ _ _ h => h) (Or.inl ⟨by rfl, ?_⟩) (by assumption) ?_
          rotate_left
          · intro w hSw; (try dsimp only at hSw); obtain ⟨g0, g1, g2, g3, g4, g5, g6⟩ := hSw; go_simp; (try with_reducible rfl)
          simp only [List.getElem_toArray, List.getElem_cons_succ, List.getElem_cons_zero, Act.put, List.setIfInBounds_toArray, List.set_cons_zero, List.set_cons_succ]
          refine wpAnyH_take (i := 18) (v := ?_) rfl (by kernel_rfl) (by kernel_rfl) (by kernel_rfl) (fun _ _ _ h => h) (Or.inl ⟨by rfl, ?_⟩) (by assumption) ?_
          rotate_left
          · intro w hSw; (try dsimp only at hSw); obtain ⟨g0, g1, g2, g3, g4, g5, g6⟩ := hSw; go_simp; (try with_reducible rfl)
          simp only [List.getElem_toArray, List.getElem_cons_succ, List.getElem_cons_zero, Act.put, List.setIfInBounds_toArray, List.set_cons_zero, List.set_cons_succ]
          refine wpAnyH_take (i := 19) (v := ?_) rfl (by kernel_rfl) (by kernel_rfl) (by kernel_rfl) (fun _ _ _ h => h) (Or.inl ⟨by rfl, ?_⟩) (by assumption) ?_
          rotate_left
          · intro w hSw; (try dsimp only at hSw); obtain ⟨g0, g1, g2, g3, g4, g5, g6⟩ := hSw; go_simp; (try with_reducible rfl)
          simp only [List.getElem_toArray, List.getElem_cons_succ, List.getElem_cons_zero, Act.put, List.setIfInBounds_toArray, List.set_cons_zero, List.set_cons_succ]
          refine wpAnyH_take (i := 20) (v := ?_) rfl (by kernel_rfl) (by kernel_rfl) (by kernel_rfl) (fun _ _ _ h => h) (Or.inl ⟨by rfl, ?_⟩) (by assumption) ?_
          rotate_left
          · intro w hSw; (try dsimp only at hSw); obtain ⟨g0, g1, g2, g3, g4, g5, g6⟩ := hSw; go_simp; (try with_reducible rfl)
          simp only [List.getElem_toArray, List.getElem_cons_succ, List.getElem_cons_zero, Act.put, List.setIfInBounds_toArray, List.set_cons_zero, List.set_cons_succ]
          refine wpAnyH_take (i := 21) (v := ?_) rfl (by kernel_rfl) (by kernel_rfl) (by kernel_rfl) (fun _ _ _ h => h) (Or.inl ⟨by rfl, ?_⟩) (by assumption) ?_
          rotate_left
          · intro w hSw; (try dsimp only at hSw); obtain ⟨g0, g1, g2, g3, g4, g5, g6⟩ := hSw; go_simp; (try with_reducible rfl)
          simp only [List.getElem_toArray, List.getElem_cons_succ, List.getElem_cons_zero, Act.put, List.setIfInBounds_toArray, List.set_cons_zero, List.set_cons_succ]
          refine wpAnyH_ready (rs := [17]) (by kernel_rfl) (by simp) ?_
          refine AllReadyH.cons rfl (fun K hK => ?_) AllReadyH.nil
          go_simp
          (go_at_call 13; (refine (FI.out (si + 3) si _ (by omega) (by omega) (below_drew B4.out)).mono ?_); rintro z w5 ⟨rfl, b5⟩)
          have B5 := Lib.hid b5
          clear b5
          refine hK.out _ _ ?_ (fun hHeld1 => ?_)
          · exact (AT.out _ B5.out).1
          clear hK K hHeld0
          try simp only [List.getElem_toArray, List.getElem_cons_succ, List.getElem_cons_zero, Act.put, List.setIfInBounds_toArray, List.set_cons_zero, List.set_cons_succ]
          refine wpAnyH_ready (rs := [22]) (by kernel_rfl) (by simp) ?_
          refine AllReadyH.cons rfl (fun K hK => ?_) AllReadyH.nil
          go_simp
          (go_at_call 13; (refine (FI.out 31 ci _ (by omega) (by omega) B5.out).mono ?_); rintro z w6 ⟨rfl, b6⟩)
          have B6 := Lib.hid b6
          clear b6
          refine hK.out _ _ ?_ (fun hHeld2 => ?_)
          · exact (AT.out _ B6.out).1
          clear hK K hHeld1
          try simp only [List.getElem_toArray, List.getElem_cons_succ, List.getElem_cons_zero, Act.put, List.setIfInBounds_toArray, List.set_cons_zero, List.set_cons_succ]
          refine wpAnyH_take (i := 23) (v := ?_) rfl (by kernel_rfl) (by kernel_rfl) (by kernel_rfl) (fun _ _ _ h => h) (Or.inl ⟨by rfl, ?_⟩) (by assumption) ?_
          rotate_left
          · intro w hSw; (try dsimp only at hSw); obtain ⟨g0, g1, g2, g3, g4, g5, g6⟩ := hSw; go_simp; (try with_reducible rfl)
          simp only [List.getElem_toArray, List.getElem_cons_succ, List.getElem_cons_zero, Act.put, List.setIfInBounds_toArray, List.set_cons_zero, List.set_cons_succ]
          obtain ⟨⟨g0, g1, g2, g3, g4, g5, g6⟩, _, hz⟩ := AT.out _ B6.out
          obtain ⟨e0, e1, e2, e3, e4, e5, e6, e7⟩ := EvAt.of (e := ⟨0, 0, 0, 0, 0, ⟨#[]⟩, ⟨#[]⟩, ⟨#[]⟩⟩) hz
          have ef := fun j => frozen_of_row _ _ j _ _ hz
          simp only at e0 e1 e2 e3 e4 e5 e6 e7
          refine wpAnyH_ready (rs := [24]) (by kernel_rfl) (by simp) ?_
          refine AllReadyH.cons rfl (fun K hK => ?_) AllReadyH.nil
          go_simp
          refine hK.out _ _ ?_ (fun hHeld9 => ?_)
          · exact ⟨(ev_far (by omega) _ _ _ _ _ _ _ _ _).trans g0, (ev_far (by omega) _ _ _ _ _ _ _ _ _).trans g1, (ev_far (by omega) _ _ _ _ _ _ _ _ _).trans g2, (ev_far (by omega) _ _ _ _ _ _ _ _ _).trans g3, (ev_far (by omega) _ _ _ _ _ _ _ _ _).trans g4, (ev_far (by omega) _ _ _ _ _ _ _ _ _).trans g5, (ev_far (by omega) _ _ _ _ _ _ _ _ _).trans g6⟩
          clear hK K
          refine wpAnyH_done (by kernel_rfl) ?_ _
          go_wp2_with fail
          refine bodyPost_ret (v := (Evn.mk 1 (min nx 99) 0 aa na ⟨#[43, 49, 50, 51, 52, 53, 54, 55, 56]⟩ (fillS (si + 3) si) (fillS 31 ci)).agg) ?_ rfl ⟨?_, ?_⟩
          · simp [results, Tryz.f16, go_sem, Evn.agg, e0, e1, e2, e3, e4, e5, e6, e7]
          · rw [E.out, EK.out, EI.out, EZ.out, MN.out, if_neg hk0, if_neg hk0, if_pos h7, if_pos h15]
          · exact (((((((((BB.out _ B6.out).setCell (by first | omega | (simp; omega) | simp) _).setCell (by first | omega | (simp; omega) | simp) _).setCell (by first | omega | (simp; omega) | simp) _).setCell (by first | omega | (simp; omega) | simp) _).setCell (by first | omega | (simp; omega) | simp) _).setCell (by first | omega | (simp; omega) | simp) _).setCell (by first | omega | (simp; omega) | simp) _).setCell (by first | omega | (simp; omega) | simp) _)
        · skip
          go_enter Tryz.func16, Tryz.ntmps16
          go_wp2_with (go_at_call 44; (refine (NX.out _ (Below.refl _ _)).mono ?_); rintro z w4 ⟨rfl, b4⟩; have B4 := Lib.hid b4; clear b4; obtain ⟨⟨k0, k1, k2, k3, k4, k5, k6⟩, ⟨y0, y1⟩, _⟩ := AT.out _ B4.out)
          refine wp_region_held_drew (S := fun w' => w'.cell? ⟨w.heap.size, 0, none⟩ = some (.int .i64 kind) ∧ w'.cell? ⟨w.heap.size, 1, none⟩ = some (.int .i64 who) ∧ w'.cell? ⟨w.heap.size, 2, none⟩ = some (.int .i64 mail) ∧ w'.cell? ⟨w.heap.size, 3, none⟩ = some (.int .i64 salt) ∧ w'.cell? ⟨w.heap.size, 4, none⟩ = some (.int .i64 chk) ∧ w'.cell? ⟨w.heap.size, 5, none⟩ = some (.int .i64 at0) ∧ w'.cell? ⟨w.heap.size, 6, none⟩ = some (.int .i64 nn)) (by kernel_rfl) ?_ (fun hHeld0 => ?_)
          · exact (AT.out _ B4.out).1
          refine wpAnyH_take (i := 0) (v := ?_) rfl (by kernel_rfl) (by kernel_rfl) (by kernel_rfl) (fun _ _ _ h => h) (Or.inl ⟨by rfl, ?_⟩) (by assumption) ?_
          rotate_left
          · intro w hSw; (try dsimp only at hSw); obtain ⟨g0, g1, g2, g3, g4, g5, g6⟩ := hSw; go_simp; (try with_reducible rfl)
          simp only [List.getElem_toArray, List.getElem_cons_zero, Act.put, List.setIfInBounds_toArray, List.set_cons_zero, List.set_cons_succ]
          refine wpAnyH_take (i := 1) (v := ?_) rfl (by kernel_rfl) (by kernel_rfl) (by kernel_rfl) (fun _ _ _ h => h) (Or.inl ⟨by rfl, ?_⟩) (by assumption) ?_
          rotate_left
          · intro w hSw; (try dsimp only at hSw); obtain ⟨g0, g1, g2, g3, g4, g5, g6⟩ := hSw; go_simp; (try with_reducible rfl)
          simp only [List.getElem_toArray, List.getElem_cons_succ, List.getElem_cons_zero, Act.put, List.setIfInBounds_toArray, List.set_cons_zero, List.set_cons_succ]
          refine wpAnyH_take (i := 2) (v := ?_) rfl (by kernel_rfl) (by kernel_rfl) (by kernel_rfl) (fun _ _ _ h => h) (Or.inl ⟨by rfl, ?_⟩) (by assumption) ?_
          rotate_left
          · intro w hSw; (try dsimp only at hSw); obtain ⟨g0, g1, g2, g3, g4, g5, g6⟩ := hSw; go_simp; (try with_reducible rfl)
          simp only [List.getElem_toArray, List.getElem_cons_succ, List.getElem_cons_zero, Act.put, List.setIfInBounds_toArray, List.set_cons_zero, List.set_cons_succ]
          refine wpAnyH_take (i := 3) (v := ?_) rfl (by kernel_rfl) (by kernel_rfl) (by kernel_rfl) (fun _ _ _ h => h) (Or.inl ⟨by rfl, ?_⟩) (by assumption) ?_
          rotate_left
          · intro w hSw; (try dsimp only at hSw); obtain ⟨g0, g1, g2, g3, g4, g5, g6⟩ := hSw; go_simp; (try with_reducible rfl)
          simp only [List.getElem_toArray, List.getElem_cons_succ, List.getElem_cons_zero, Act.put, List.setIfInBounds_toArray, List.set_cons_zero, List.set_cons_succ]
          refine wpAnyH_take (i := 4) (v := ?_) rfl (by kernel_rfl) (by kernel_rfl) (by kernel_rfl) (fun _ _ _ h => h) (Or.inl ⟨by rfl, ?_⟩) (by assumption) ?_
          rotate_left
          · intro w hSw; (try dsimp only at hSw); obtain ⟨g0, g1, g2, g3, g4, g5, g6⟩ := hSw; go_simp; (try with_reducible rfl)
          simp only [List.getElem_toArray, List.getElem_cons_succ, List.getElem_cons_zero, Act.put, List.setIfInBounds_toArray, List.set_cons_zero, List.set_cons_succ]
          refine wpAnyH_take (i := 5) (v := ?_) rfl (by kernel_rfl) (by kernel_rfl) (by kernel_rfl) (fun _ _ _ h => h) (Or.inl ⟨by rfl, ?_⟩) (by assumption) ?_
          rotate_left
          · intro w hSw; (try dsimp only at hSw); obtain ⟨g0, g1, g2, g3, g4, g5, g6⟩ := hSw; go_simp; (try with_reducible rfl)
          simp only [List.getElem_toArray, List.getElem_cons_succ, List.getElem_cons_zero, Act.put, List.setIfInBounds_toArray, List.set_cons_zero, List.set_cons_succ]
          refine wpAnyH_take (i := 6) (v := ?_) rfl (by kernel_rfl) (by kernel_rfl) (by kernel_rfl) (fun _ _ _ h => h) (Or.inl ⟨by rfl, ?_⟩) (by assumption) ?_
          rotate_left
          · intro w hSw; (try dsimp only at hSw); obtain ⟨g0, g1, g2, g3, g4, g5, g6⟩ := hSw; go_simp; (try with_reducible rfl)
          simp only [List.getElem_toArray, List.getElem_cons_succ, List.getElem_cons_zero, Act.put, List.setIfInBounds_toArray, List.set_cons_zero, List.set_cons_succ]
          refine wpAnyH_take (i := 7) (v := ?_) rfl (by kernel_rfl) (by kernel_rfl) (by kernel_rfl) (fun _ _ _ h => h) (Or.inl ⟨by rfl, ?_⟩) (by assumption) ?_
          rotate_left
          · intro w hSw; (try dsimp only at hSw); obtain ⟨g0, g1, g2, g3, g4, g5, g6⟩ := hSw; go_simp; (try with_reducible rfl)
          simp only [List.getElem_toArray, List.getElem_cons_succ, List.getElem_cons_zero, Act.put, List.setIfInBounds_toArray, List.set_cons_zero, List.set_cons_succ]
          refine wpAnyH_take (i := 8) (v := ?_) rfl (by kernel_rfl) (by kernel_rfl) (by kernel_rfl) (fun _ _ _ h => h) (Or.inl ⟨by rfl, ?_⟩) (by assumption) ?_
          rotate_left
          · intro w hSw; (try dsimp only at hSw); obtain ⟨g0, g1, g2, g3, g4, g5, g6⟩ := hSw; go_simp; (try with_reducible rfl)
          simp only [List.getElem_toArray, List.getElem_cons_succ, List.getElem_cons_zero, Act.put, List.setIfInBounds_toArray, List.set_cons_zero, List.set_cons_succ]
          refine wpAnyH_take (i := 9) (v := ?_) rfl (by kernel_rfl) (by kernel_rfl) (by kernel_rfl) (fun _ _ _ h => h) (Or.inl ⟨by rfl, ?_⟩) (by assumption) ?_
          rotate_left
          · intro w hSw; (try dsimp only at hSw); obtain ⟨g0, g1, g2, g3, g4, g5, g6⟩ := hSw; go_simp; (try with_reducible rfl)
          simp only [List.getElem_toArray, List.getElem_cons_succ, List.getElem_cons_zero, Act.put, List.setIfInBounds_toArray, List.set_cons_zero, List.set_cons_succ]
          refine wpAnyH_take (i := 10) (v := ?_) rfl (by kernel_rfl) (by kernel_rfl) (by kernel_rfl) (fun _ _ _ h => h) (Or.inl ⟨by rfl, ?_⟩) (by assumption) ?_
          rotate_left
          · intro w hSw; (try dsimp only at hSw); obtain ⟨g0, g1, g2, g3, g4, g5, g6⟩ := hSw; go_simp; (try with_reducible rfl)
          simp only [List.getElem_toArray, List.getElem_cons_succ, List.getElem_cons_zero, Act.put, List.setIfInBounds_toArray, List.set_cons_zero, List.set_cons_succ]
          refine wpAnyH_take (i := 11) (v := ?_) rfl (by kernel_rfl) (by kernel_rfl) (by kernel_rfl) (fun _ _ _ h => h) (Or.inl ⟨by rfl, ?_⟩) (by assumption) ?_
          rotate_left
          · intro w hSw; (try dsimp only at hSw); obtain ⟨g0, g1, g2, g3, g4, g5, g6⟩ := hSw; go_simp; (try with_reducible rfl)
          simp only [List.getElem_toArray, List.getElem_cons_succ, List.getElem_cons_zero, Act.put, List.setIfInBounds_toArray, List.set_cons_zero, List.set_cons_succ]
          refine wpAnyH_take (i := 12) (v := ?_) rfl (by kernel_rfl) (by kernel_rfl) (by kernel_rfl) (fun _ _ _ h => h) (Or.inl ⟨by rfl, ?_⟩) (by assumption) ?_
          rotate_left
          · intro w hSw; (try dsimp only at hSw); obtain ⟨g0, g1, g2, g3, g4, g5, g6⟩ := hSw; go_simp; (try with_reducible rfl)
          simp only [List.getElem_toArray, List.getElem_cons_succ, List.getElem_cons_zero, Act.put, List.setIfInBounds_toArray, List.set_cons_zero, List.set_cons_succ]
          refine wpAnyH_take (i := 13) (v := ?_) rfl (by kernel_rfl) (by kernel_rfl) (by kernel_rfl) (fun _ _ _ h => h) (Or.inl ⟨by rfl, ?_⟩) (by assumption) ?_
          rotate_left
          · intro w hSw; (try dsimp only at hSw); obtain ⟨g0, g1, g2, g3, g4, g5, g6⟩ := hSw; go_simp; (try with_reducible rfl)
          simp only [List.getElem_toArray, List.getElem_cons_succ, List.getElem_cons_zero, Act.put, List.setIfInBounds_toArray, List.set_cons_zero, List.set_cons_succ]
          refine wpAnyH_take (i := 14) (v := ?_) rfl (by kernel_rfl) (by kernel_rfl) (by kernel_rfl) (fun _ _ _ h => h) (Or.inl ⟨by rfl, ?_⟩) (by assumption) ?_
          rotate_left
          · intro w hSw; (try dsimp only at hSw); obtain ⟨g0, g1, g2, g3, g4, g5, g6⟩ := hSw; go_simp; (try with_reducible rfl)
          simp only [List.getElem_toArray, List.getElem_cons_succ, List.getElem_cons_zero, Act.put, List.setIfInBounds_toArray, List.set_cons_zero, List.set_cons_succ]
          refine wpAnyH_take (i := 15) (v := ?_) rfl (by kernel_rfl) (by kernel_rfl) (by kernel_rfl) (fun _ _ _ h => h) (Or.inl ⟨by rfl, ?_⟩) (by assumption) ?_
          rotate_left
          · intro w hSw; (try dsimp only at hSw); obtain ⟨g0, g1, g2, g3, g4, g5, g6⟩ := hSw; go_simp; (try with_reducible rfl)
          simp only [List.getElem_toArray, List.getElem_cons_succ, List.getElem_cons_zero, Act.put, List.setIfInBounds_toArray, List.set_cons_zero, List.set_cons_succ]
          refine wpAnyH_take (i := 16) (v := ?_) rfl (by kernel_rfl) (by kernel_rfl) (by kernel_rfl) (fun _ _ _ h => h) (Or.inl ⟨by rfl, ?_⟩) (by assumption) ?_
          rotate_left
          · intro w hSw; (try dsimp only at hSw); obtain ⟨g0, g1, g2, g3, g4, g5, g6⟩ := hSw; go_simp; (try with_reducible rfl)
          simp only [List.getElem_toArray, List.getElem_cons_succ, List.getElem_cons_zero, Act.put, List.setIfInBounds_toArray, List.set_cons_zero, List.set_cons_succ]
          refine wpAnyH_take (i := 18) (v := ?_) rfl (by kernel_rfl) (by kernel_rfl) (by kernel_rfl) (fun _ _ _ h => h) (Or.inl ⟨by rfl, ?_⟩) (by assumption) ?_
          rotate_left
          · intro w hSw; (try dsimp only at hSw); obtain ⟨g0, g1, g2, g3, g4, g5, g6⟩ := hSw; go_simp; (try with_reducible rfl)
          simp only [List.getElem_toArray, List.getElem_cons_succ, List.getElem_cons_zero, Act.put, List.setIfInBounds_toArray, List.set_cons_zero, List.set_cons_succ]
          refine wpAnyH_take (i := 19) (v := ?_) rfl (by kernel_rfl) (by kernel_rfl) (by kernel_rfl) (fun _ _ _ h => h) (Or.inl ⟨by rfl, ?_⟩) (by assumption) ?_
          rotate_left
          · intro w hSw; (try dsimp only at hSw); obtain ⟨g0, g1, g2, g3, g4, g5, g6⟩ := hSw; go_simp; (try with_reducible rfl)
          simp only [List.getElem_toArray, List.getElem_cons_succ, List.getElem_cons_zero, Act.put, List.setIfInBounds_toArray, List.set_cons_zero, List.set_cons_succ]
          refine wpAnyH_take (i := 20) (v := ?_) rfl (by kernel_rfl) (by kernel_rfl) (by kernel_rfl) (fun _ _ _ h => h) (Or.inl ⟨by rfl, ?_⟩) (by assumption) ?_
          rotate_left
          · intro w hSw; (try dsimp only at hSw); obtain ⟨g0, g1, g2, g3, g4, g5, g6⟩ := hSw; go_simp; (try with_reducible rfl)
          simp only [List.getElem_toArray, List.getElem_cons_succ, List.getElem_cons_zero, Act.put, List.setIfInBounds_toArray, List.set_cons_zero, List.set_cons_succ]
          refine wpAnyH_take (i := 21) (v := ?_) rfl (by kernel_rfl) (by kernel_rfl) (by kernel_rfl) (fun _ _ _ h => h) (Or.inl ⟨by rfl, ?_⟩) (by assumption) ?_
          rotate_left
          · intro w hSw; (try dsimp only at hSw); obtain ⟨g0, g1, g2, g3, g4, g5, g6⟩ := hSw; go_simp; (try with_reducible rfl)
          simp only [List.getElem_toArray, List.getElem_cons_succ, List.getElem_cons_zero, Act.put, List.setIfInBounds_toArray, List.set_cons_zero, List.set_cons_succ]
          refine wpAnyH_ready (rs := [17]) (by kernel_rfl) (by simp) ?_
          refine AllReadyH.cons rfl (fun K hK => ?_) AllReadyH.nil
          go_simp
          (go_at_call 13; (refine (FI.out (si + 3) si _ (by omega) (by omega) (below_drew B4.out)).mono ?_); rintro z w5 ⟨rfl, b5⟩)
          have B5 := Lib.hid b5
          clear b5
          refine hK.out _ _ ?_ (fun hHeld1 => ?_)
          · exact (AT.out _ B5.out).1
          clear hK K hHeld0
          try simp only [List.getElem_toArray, List.getElem_cons_succ, List.getElem_cons_zero, Act.put, List.setIfInBounds_toArray, List.set_cons_zero, List.set_cons_succ]
          refine wpAnyH_ready (rs := [22]) (by kernel_rfl) (by simp) ?_
          refine AllReadyH.cons rfl (fun K hK => ?_) AllReadyH.nil
          go_simp
          (go_at_call 13; (refine (FI.out 32 ci _ (by omega) (by omega) B5.out).mono ?_); rintro z w6 ⟨rfl, b6⟩)
          have B6 := Lib.hid b6
          clear b6
          refine hK.out _ _ ?_ (fun hHeld2 => ?_)
          · exact (AT.out _ B6.out).1
          clear hK K hHeld1
          try simp only [List.getElem_toArray, List.getElem_cons_succ, List.getElem_cons_zero, Act.put, List.setIfInBounds_toArray, List.set_cons_zero, List.set_cons_succ]
          refine wpAnyH_take (i := 23) (v := ?_) rfl (by kernel_rfl) (by kernel_rfl) (by kernel_rfl) (fun _ _ _ h => h) (Or.inl ⟨by rfl, ?_⟩) (by assumption) ?_
          rotate_left
          · intro w hSw; (try dsimp only at hSw); obtain ⟨g0, g1, g2, g3, g4, g5, g6⟩ := hSw; go_simp; (try with_reducible rfl)
          simp only [List.getElem_toArray, List.getElem_cons_succ, List.getElem_cons_zero, Act.put, List.setIfInBounds_toArray, List.set_cons_zero, List.set_cons_succ]
          obtain ⟨⟨g0, g1, g2, g3, g4, g5, g6⟩, _, hz⟩ := AT.out _ B6.out
          obtain ⟨e0, e1, e2, e3, e4, e5, e6, e7⟩ := EvAt.of (e := ⟨0, 0, 0, 0, 0, ⟨#[]⟩, ⟨#[]⟩, ⟨#[]⟩⟩) hz
          have ef := fun j => frozen_of_row _ _ j _ _ hz
          simp only at e0 e1 e2 e3 e4 e5 e6 e7
          refine wpAnyH_ready (rs := [24]) (by kernel_rfl) (by simp) ?_
          refine AllReadyH.cons rfl (fun K hK => ?_) AllReadyH.nil
          go_simp
          refine hK.out _ _ ?_ (fun hHeld9 => ?_)
          · exact ⟨(ev_far (by omega) _ _ _ _ _ _ _ _ _).trans g0, (ev_far (by omega) _ _ _ _ _ _ _ _ _).trans g1, (ev_far (by omega) _ _ _ _ _ _ _ _ _).trans g2, (ev_far (by omega) _ _ _ _ _ _ _ _ _).trans g3, (ev_far (by omega) _ _ _ _ _ _ _ _ _).trans g4, (ev_far (by omega) _ _ _ _ _ _ _ _ _).trans g5, (ev_far (by omega) _ _ _ _ _ _ _ _ _).trans g6⟩
          clear hK K
          refine wpAnyH_done (by kernel_rfl) ?_ _
          go_wp2_with fail
          refine bodyPost_ret (v := (Evn.mk 1 (min nx 99) 0 aa na ⟨#[43, 49, 50, 51, 52, 53, 54, 55, 56]⟩ (fillS (si + 3) si) (fillS 32 ci)).agg) ?_ rfl ⟨?_, ?_⟩
          · simp [results, Tryz.f16, go_sem, Evn.agg, e0, e1, e2, e3, e4, e5, e6, e7]
          · rw [E.out, EK.out, EI.out, EZ.out, MN.out, if_neg hk0, if_neg hk0, if_neg h7, if_pos h15]
          · exact (((((((((BB.out _ B6.out).setCell (by first | omega | (simp; omega) | simp) _).setCell (by first | omega | (simp; omega) | simp) _).setCell (by first | omega | (simp; omega) | simp) _).setCell (by first | omega | (simp; omega) | simp) _).setCell (by first | omega | (simp; omega) | simp) _).setCell (by first | omega | (simp; omega) | simp) _).setCell (by first | omega | (simp; omega) | simp) _).setCell (by first | omega | (simp; omega) | simp) _)
      · have h15n : ¬ (mi : Int) = 15 := by omega
        by_cases h7 : c7 = 7
        · skip
          go_enter Tryz.func16, Tryz.ntmps16
          go_wp2_with (go_at_call 44; (refine (NX.out _ (Below.refl _ _)).mono ?_); rintro z w4 ⟨rfl, b4⟩; have B4 := Lib.hid b4; clear b4; obtain ⟨⟨k0, k1, k2, k3, k4, k5, k6⟩, ⟨y0, y1⟩, _⟩ := AT.out _ B4.out)
          refine wp_region_held_drew (S := fun w' => w'.cell? ⟨w.heap.size, 0, none⟩ = some (.int .i64 kind) ∧ w'.cell? ⟨w.heap.size, 1, none⟩ = some (.int .i64 who) ∧ w'.cell? ⟨w.heap.size, 2, none⟩ = some (.int .i64 mail) ∧ w'.cell? ⟨w.heap.size, 3, none⟩ = some (.int .i64 salt) ∧ w'.cell? ⟨w.heap.size, 4, none⟩ = some (.int .i64 chk) ∧ w'.cell? ⟨w.heap.size, 5, none⟩ = some (.int .i64 at0) ∧ w'.cell? ⟨w.heap.size, 6, none⟩ = some (.int .i64 nn)) (by kernel_rfl) ?_ (fun hHeld0 => ?_)
          · exact (AT.out _ B4.out).1
          refine wpAnyH_take (i := 0) (v := ?_) rfl (by kernel_rfl) (by kernel_rfl) (by kernel_rfl) (fun _ _ _ h => h) (Or.inl ⟨by rfl, ?_⟩) (by assumption) ?_
          rotate_left
          · intro w hSw; (try dsimp only at hSw); obtain ⟨g0, g1, g2, g3, g4, g5, g6⟩ := hSw; go_simp; (try with_reducible rfl)
          simp only [List.getElem_toArray, List.getElem_cons_zero, Act.put, List.setIfInBounds_toArray, List.set_cons_zero, List.set_cons_succ]
          refine wpAnyH_take (i := 1) (v := ?_) rfl (by kernel_rfl) (by kernel_rfl) (by kernel_rfl) (fun _ _ _ h => h) (Or.inl ⟨by rfl, ?_⟩) (by assumption) ?_
          rotate_left
          · intro w hSw; (try dsimp only at hSw); obtain ⟨g0, g1, g2, g3, g4, g5, g6⟩ := hSw; go_simp; (try with_reducible rfl)
          simp only [List.getElem_toArray, List.getElem_cons_succ, List.getElem_cons_zero, Act.put, List.setIfInBounds_toArray, List.set_cons_zero, List.set_cons_succ]
          refine wpAnyH_take (i := 2) (v := ?_) rfl (by kernel_rfl) (by kernel_rfl) (by kernel_rfl) (fun _ _ _ h => h) (Or.inl ⟨by rfl, ?_⟩) (by assumption) ?_
          rotate_left
          · intro w hSw; (try dsimp only at hSw); obtain ⟨g0, g1, g2, g3, g4, g5, g6⟩ := hSw; go_simp; (try with_reducible rfl)
          simp only [List.getElem_toArray, List.getElem_cons_succ, List.getElem_cons_zero, Act.put, List.setIfInBounds_toArray, List.set_cons_zero, List.set_cons_succ]
          refine wpAnyH_take (i := 3) (v := ?_) rfl (by kernel_rfl) (by kernel_rfl) (by kernel_rfl) (fun _ _ _ h => h) (Or.inl ⟨by rfl, ?_⟩) (by assumption) ?_
          rotate_left
          · intro w hSw; (try dsimp only at hSw); obtain ⟨g0, g1, g2, g3, g4, g5, g6⟩ := hSw; go_simp; (try with_reducible rfl)
          simp only [List.getElem_toArray, List.getElem_cons_succ, List.getElem_cons_zero, Act.put, List.setIfInBounds_toArray, List.set_cons_zero, List.set_cons_succ]
          refine wpAnyH_take (i := 4) (v := ?_) rfl (by kernel_rfl) (by kernel_rfl) (by kernel_rfl) (fun _ _ _ h => h) (Or.inl ⟨by rfl, ?_⟩) (by assumption) ?_
          rotate_left
          · intro w hSw; (try dsimp only at hSw); obtain ⟨g0, g1, g2, g3, g4, g5, g6⟩ := hSw; go_simp; (try with_reducible rfl)
          simp only [List.getElem_toArray, List.getElem_cons_succ, List.getElem_cons_zero, Act.put, List.setIfInBounds_toArray, List.set_cons_zero, List.set_cons_succ]
          refine wpAnyH_take (i := 5) (v := ?_) rfl (by kernel_rfl) (by kernel_rfl) (by kernel_rfl) (fun _ _ _ h => h) (Or.inl ⟨by rfl, ?_⟩) (by assumption) ?_
          rotate_left
          · intro w hSw; (try dsimp only at hSw); obtain ⟨g0, g1, g2, g3, g4, g5, g6⟩ := hSw; go_simp; (try with_reducible rfl)
          simp only [List.getElem_toArray, List.getElem_cons_succ, List.getElem_cons_zero, Act.put, List.setIfInBounds_toArray, List.set_cons_zero, List.set_cons_succ]
          refine wpAnyH_take (i := 6) (v := ?_) rfl (by kernel_rfl) (by kernel_rfl) (by kernel_rfl) (fun _ _ _ h => h) (Or.inl ⟨by rfl, ?_⟩) (by assumption) ?_
          rotate_left
          · intro w hSw; (try dsimp only at hSw); obtain ⟨g0, g1, g2, g3, g4, g5, g6⟩ := hSw; go_simp; (try with_reducible rfl)
          simp only [List.getElem_toArray, List.getElem_cons_succ, List.getElem_cons_zero, Act.put, List.setIfInBounds_toArray, List.set_cons_zero, List.set_cons_succ]
          refine wpAnyH_take (i := 7) (v := ?_) rfl (by kernel_rfl) (by kernel_rfl) (by kernel_rfl) (fun _ _ _ h => h) (Or.inl ⟨by rfl, ?_⟩) (by assumption) ?_
          rotate_left
          · intro w hSw; (try dsimp only at hSw); obtain ⟨g0, g1, g2, g3, g4, g5, g6⟩ := hSw; go_simp; (try with_reducible rfl)
          simp only [List.getElem_toArray, List.getElem_cons_succ, List.getElem_cons_zero, Act.put, List.setIfInBounds_toArray, List.set_cons_zero, List.set_cons_succ]
          refine wpAnyH_take (i := 8) (v := ?_) rfl (by kernel_rfl) (by kernel_rfl) (by kernel_rfl) (fun _ _ _ h => h) (Or.inl ⟨by rfl, ?_⟩) (by assumption) ?_
          rotate_left
          · intro w hSw; (try dsimp only at hSw); obtain ⟨g0, g1, g2, g3, g4, g5, g6⟩ := hSw; go_simp; (try with_reducible rfl)
          simp only [List.getElem_toArray, List.getElem_cons_succ, List.getElem_cons_zero, Act.put, List.setIfInBounds_toArray, List.set_cons_zero, List.set_cons_succ]
          refine wpAnyH_take (i := 9) (v := ?_) rfl (by kernel_rfl) (by kernel_rfl) (by kernel_rfl) (fun _ _ _ h => h) (Or.inl ⟨by rfl, ?_⟩) (by assumption) ?_
          rotate_left
          · intro w hSw; (try dsimp only at hSw); obtain ⟨g0, g1, g2, g3, g4, g5, g6⟩ := hSw; go_simp; (try with_reducible rfl)
          simp only [List.getElem_toArray, List.getElem_cons_succ, List.getElem_cons_zero, Act.put, List.setIfInBounds_toArray, List.set_cons_zero, List.set_cons_succ]
          refine wpAnyH_take (i := 10) (v := ?_) rfl (by kernel_rfl) (by kernel_rfl) (by kernel_rfl) (fun _ _ _ h => h) (Or.inl ⟨by rfl, ?_⟩) (by assumption) ?_
          rotate_left
          · intro w hSw; (try dsimp only at hSw); obtain ⟨g0, g1, g2, g3, g4, g5, g6⟩ := hSw; go_simp; (try with_reducible rfl)
          simp only [List.getElem_toArray, List.getElem_cons_succ, List.getElem_cons_zero, Act.put, List.setIfInBounds_toArray, List.set_cons_zero, List.set_cons_succ]
          refine wpAnyH_take (i := 11) (v := ?_) rfl (by kernel_rfl) (by kernel_rfl) (by kernel_rfl) (fun _ _ _ h => h) (Or.inl ⟨by rfl, ?_⟩) (by assumption) ?_
          rotate_left
          · intro w hSw; (try dsimp only at hSw); obtain ⟨g0, g1, g2, g3, g4, g5, g6⟩ := hSw; go_simp; (try with_reducible rfl)
          simp only [List.getElem_toArray, List.getElem_cons_succ, List.getElem_cons_zero, Act.put, List.setIfInBounds_toArray, List.set_cons_zero, List.set_cons_succ]
          refine wpAnyH_take (i := 12) (v := ?_) rfl (by kernel_rfl) (by kernel_rfl) (by kernel_rfl) (fun _ _ _ h => h) (Or.inl ⟨by rfl, ?_⟩) (by assumption) ?_
          rotate_left
          · intro w hSw; (try dsimp only at hSw); obtain ⟨g0, g1, g2, g3, g4, g5, g6⟩ := hSw; go_simp; (try with_reducible rfl)
          simp only [List.getElem_toArray, List.getElem_cons_succ, List.getElem_cons_zero, Act.put, List.setIfInBounds_toArray, List.set_cons_zero, List.set_cons_succ]
          refine wpAnyH_take (i := 13) (v := ?_) rfl (by kernel_rfl) (by kernel_rfl) (by kernel_rfl) (fun _ _ _ h => h) (Or.inl ⟨by rfl, ?_⟩) (by assumption) ?_
          rotate_left
          · intro w hSw; (try dsimp only at hSw); obtain ⟨g0, g1, g2, g3, g4, g5, g6⟩ := hSw; go_simp; (try with_reducible rfl)
          simp only [List.getElem_toArray, List.getElem_cons_succ, List.getElem_cons_zero, Act.put, List.setIfInBounds_toArray, List.set_cons_zero, List.set_cons_succ]
          refine wpAnyH_take (i := 14) (v := ?_) rfl (by kernel_rfl) (by kernel_rfl) (by kernel_rfl) (fun _ _ _ h => h) (Or.inl ⟨by rfl, ?_⟩) (by assumption) ?_
          rotate_left
          · intro w hSw; (try dsimp only at hSw); obtain ⟨g0, g1, g2, g3, g4, g5, g6⟩ := hSw; go_simp; (try with_reducible rfl)
          simp only [List.getElem_toArray, List.getElem_cons_succ, List.getElem_cons_zero, Act.put, List.setIfInBounds_toArray, List.set_cons_zero, List.set_cons_succ]
          refine wpAnyH_take (i := 15) (v := ?_) rfl (by kernel_rfl) (by kernel_rfl) (by kernel_rfl) (fun _ _ _ h => h) (Or.inl ⟨by rfl, ?_⟩) (by assumption) ?_
          rotate_left
          · intro w hSw; (try dsimp only at hSw); obtain ⟨g0, g1, g2, g3, g4, g5, g6⟩ := hSw; go_simp; (try with_reducible rfl)
          simp only [List.getElem_toArray, List.getElem_cons_succ, List.getElem_cons_zero, Act.put, List.setIfInBounds_toArray, List.set_cons_zero, List.set_cons_succ]
          refine wpAnyH_take (i := 16) (v := ?_) rfl (by kernel_rfl) (by kernel_rfl) (by kernel_rfl) (fun _ _ _ h => h) (Or.inl ⟨by rfl, ?_⟩) (by assumption) ?_
          rotate_left
          · intro w hSw; (try dsimp only at hSw); obtain ⟨g0, g1, g2, g3, g4, g5, g6⟩ := hSw; go_simp; (try with_reducible rfl)
          simp only [List.getElem_toArray, List.getElem_cons_succ, List.getElem_cons_zero, Act.put, List.setIfInBounds_toArray, List.set_cons_zero, List.set_cons_succ]
          refine wpAnyH_take (i := 18) (v := ?_) rfl (by kernel_rfl) (by kernel_rfl) (by kernel_rfl) (fun _ _ _ h => h) (Or.inl ⟨by rfl, ?_⟩) (by assumption) ?_
          rotate_left
          · intro w hSw; (try dsimp only at hSw); obtain ⟨g0, g1, g2, g3, g4, g5, g6⟩ := hSw; go_simp; (try with_reducible rfl)
          simp only [List.getElem_toArray, List.getElem_cons_succ, List.getElem_cons_zero, Act.put, List.setIfInBounds_toArray, List.set_cons_zero, List.set_cons_succ]
          refine wpAnyH_take (i := 19) (v := ?_) rfl (by kernel_rfl) (by kernel_rfl) (by kernel_rfl) (fun _ _ _ h => h) (Or.inl ⟨by rfl, ?_⟩) (by assumption) ?_
          rotate_left
          · intro w hSw; (try dsimp only at hSw); obtain ⟨g0, g1, g2, g3, g4, g5, g6⟩ := hSw; go_simp; (try with_reducible rfl)
          simp only [List.getElem_toArray, List.getElem_cons_succ, List.getElem_cons_zero, Act.put, List.setIfInBounds_toArray, List.set_cons_zero, List.set_cons_succ]
          refine wpAnyH_take (i := 20) (v := ?_) rfl (by kernel_rfl) (by kernel_rfl) (by kernel_rfl) (fun _ _ _ h => h) (Or.inl ⟨by rfl, ?_⟩) (by assumption) ?_
          rotate_left
          · intro w hSw; (try dsimp only at hSw); obtain ⟨g0, g1, g2, g3, g4, g5, g6⟩ := hSw; go_simp; (try with_reducible rfl)
          simp only [List.getElem_toArray, List.getElem_cons_succ, List.getElem_cons_zero, Act.put, List.setIfInBounds_toArray, List.set_cons_zero, List.set_cons_succ]
          refine wpAnyH_take (i := 21) (v := ?_) rfl (by kernel_rfl) (by kernel_rfl) (by kernel_rfl) (fun _ _ _ h => h) (Or.inl ⟨by rfl, ?_⟩) (by assumption) ?_
          rotate_left
          · intro w hSw; (try dsimp only at hSw); obtain ⟨g0, g1, g2, g3, g4, g5, g6⟩ := hSw; go_simp; (try with_reducible rfl)
          simp only [List.getElem_toArray, List.getElem_cons_succ, List.getElem_cons_zero, Act.put, List.setIfInBounds_toArray, List.set_cons_zero, List.set_cons_succ]
          refine wpAnyH_ready (rs := [17]) (by kernel_rfl) (by simp) ?_
          refine AllReadyH.cons rfl (fun K hK => ?_) AllReadyH.nil
          go_simp
          (go_at_call 13; (refine (FI.out (si + 3) si _ (by omega) (by omega) (below_drew B4.out)).mono ?_); rintro z w5 ⟨rfl, b5⟩)
          have B5 := Lib.hid b5
          clear b5
          refine hK.out _ _ ?_ (fun hHeld1 => ?_)
          · exact (AT.out _ B5.out).1
          clear hK K hHeld0
          try simp only [List.getElem_toArray, List.getElem_cons_succ, List.getElem_cons_zero, Act.put, List.setIfInBounds_toArray, List.set_cons_zero, List.set_cons_succ]
          refine wpAnyH_ready (rs := [22]) (by kernel_rfl) (by simp) ?_
          refine AllReadyH.cons rfl (fun K hK => ?_) AllReadyH.nil
          go_simp
          (go_at_call 13; (refine (FI.out 31 ci _ (by omega) (by omega) B5.out).mono ?_); rintro z w6 ⟨rfl, b6⟩)
          have B6 := Lib.hid b6
          clear b6
          refine hK.out _ _ ?_ (fun hHeld2 => ?_)
          · exact (AT.out _ B6.out).1
          clear hK K hHeld1
          try simp only [List.getElem_toArray, List.getElem_cons_succ, List.getElem_cons_zero, Act.put, List.setIfInBounds_toArray, List.set_cons_zero, List.set_cons_succ]
          refine wpAnyH_take (i := 23) (v := ?_) rfl (by kernel_rfl) (by kernel_rfl) (by kernel_rfl) (fun _ _ _ h => h) (Or.inl ⟨by rfl, ?_⟩) (by assumption) ?_
          rotate_left
          · intro w hSw; (try dsimp only at hSw); obtain ⟨g0, g1, g2, g3, g4, g5, g6⟩ := hSw; go_simp; (try with_reducible rfl)
          simp only [List.getElem_toArray, List.getElem_cons_succ, List.getElem_cons_zero, Act.put, List.setIfInBounds_toArray, List.set_cons_zero, List.set_cons_succ]
          obtain ⟨⟨g0, g1, g2, g3, g4, g5, g6⟩, _, hz⟩ := AT.out _ B6.out
          obtain ⟨e0, e1, e2, e3, e4, e5, e6, e7⟩ := EvAt.of (e := ⟨0, 0, 0, 0, 0, ⟨#[]⟩, ⟨#[]⟩, ⟨#[]⟩⟩) hz
          have ef := fun j => frozen_of_row _ _ j _ _ hz
          simp only at e0 e1 e2 e3 e4 e5 e6 e7
          refine wpAnyH_ready (rs := [24]) (by kernel_rfl) (by simp) ?_
          refine AllReadyH.cons rfl (fun K hK => ?_) AllReadyH.nil
          go_simp
          refine hK.out _ _ ?_ (fun hHeld9 => ?_)
          · exact ⟨(ev_far (by omega) _ _ _ _ _ _ _ _ _).trans g0, (ev_far (by omega) _ _ _ _ _ _ _ _ _).trans g1, (ev_far (by omega) _ _ _ _ _ _ _ _ _).trans g2, (ev_far (by omega) _ _ _ _ _ _ _ _ _).trans g3, (ev_far (by omega) _ _ _ _ _ _ _ _ _).trans g4, (ev_far (by omega) _ _ _ _ _ _ _ _ _).trans g5, (ev_far (by omega) _ _ _ _ _ _ _ _ _).trans g6⟩
          clear hK K
          refine wpAnyH_done (by kernel_rfl) ?_ _
          go_wp2_with fail
          refine bodyPost_ret (v := (Evn.mk 1 (min nx 99) 0 aa na (ByteArray.extract ⟨#[97, 98, 99, 100, 101, 102, 103, 104, 105, 106, 107, 108, 109, 110, 111, 112]⟩ mi (mi + 1) ++ ⟨#[64, 98, 46, 99, 100]⟩) (fillS (si + 3) si) (fillS 31 ci)).agg) ?_ rfl ⟨?_, ?_⟩
          · simp [results, Tryz.f16, go_sem, Evn.agg, e0, e1, e2, e3, e4, e5, e6, e7]
          · rw [E.out, EK.out, EI.out, EZ.out, MN.out, if_neg hk0, if_neg hk0, if_pos h7, if_neg h15]
          · exact (((((((((BB.out _ B6.out).setCell (by first | omega | (simp; omega) | simp) _).setCell (by first | omega | (simp; omega) | simp) _).setCell (by first | omega | (simp; omega) | simp) _).setCell (by first | omega | (simp; omega) | simp) _).setCell (by first | omega | (simp; omega) | simp) _).setCell (by first | omega | (simp; omega) | simp) _).setCell (by first | omega | (simp; omega) | simp) _).setCell (by first | omega | (simp; omega) | simp) _)
        · skip
          go_enter Tryz.func16, Tryz.ntmps16
          go_wp2_with (go_at_call 44; (refine (NX.out _ (Below.refl _ _)).mono ?_); rintro z w4 ⟨rfl, b4⟩; have B4 := Lib.hid b4; clear b4; obtain ⟨⟨k0, k1, k2, k3, k4, k5, k6⟩, ⟨y0, y1⟩, _⟩ := AT.out _ B4.out)
          refine wp_region_held_drew (S := fun w' => w'.cell? ⟨w.heap.size, 0, none⟩ = some (.int .i64 kind) ∧ w'.cell? ⟨w.heap.size, 1, none⟩ = some (.int .i64 who) ∧ w'.cell? ⟨w.heap.size, 2, none⟩ = some (.int .i64 mail) ∧ w'.cell? ⟨w.heap.size, 3, none⟩ = some (.int .i64 salt) ∧ w'.cell? ⟨w.heap.size, 4, none⟩ = some (.int .i64 chk) ∧ w'.cell? ⟨w.heap.size, 5, none⟩ = some (.int .i64 at0) ∧ w'.cell? ⟨w.heap.size, 6, none⟩ = some (.int .i64 nn)) (by kernel_rfl) ?_ (fun hHeld0 => ?_)
          · exact (AT.out _ B4.out).1
          refine wpAnyH_take (i := 0) (v := ?_) rfl (by kernel_rfl) (by kernel_rfl) (by kernel_rfl) (fun _ _ _ h => h) (Or.inl ⟨by rfl, ?_⟩) (by assumption) ?_
          rotate_left
          · intro w hSw; (try dsimp only at hSw); obtain ⟨g0, g1, g2, g3, g4, g5, g6⟩ := hSw; go_simp; (try with_reducible rfl)
          simp only [List.getElem_toArray, List.getElem_cons_zero, Act.put, List.setIfInBounds_toArray, List.set_cons_zero, List.set_cons_succ]
          refine wpAnyH_take (i := 1) (v := ?_) rfl (by kernel_rfl) (by kernel_rfl) (by kernel_rfl) (fun _ _ _ h => h) (Or.inl ⟨by rfl, ?_⟩) (by assumption) ?_
          rotate_left
          · intro w hSw; (try dsimp only at hSw); obtain ⟨g0, g1, g2, g3, g4, g5, g6⟩ := hSw; go_simp; (try with_reducible rfl)
          simp only [List.getElem_toArray, List.getElem_cons_succ, List.getElem_cons_zero, Act.put, List.setIfInBounds_toArray, List.set_cons_zero, List.set_cons_succ]
          refine wpAnyH_take (i := 2) (v := ?_) rfl (by kernel_rfl) (by kernel_rfl) (by kernel_rfl) (fun _ _ _ h => h) (Or.inl ⟨by rfl, ?_⟩) (by assumption) ?_
          rotate_left
          · intro w hSw; (try dsimp only at hSw); obtain ⟨g0, g1, g2, g3, g4, g5, g6⟩ := hSw; go_simp; (try with_reducible rfl)
          simp only [List.getElem_toArray, List.getElem_cons_succ, List.getElem_cons_zero, Act.put, List.setIfInBounds_toArray, List.set_cons_zero, List.set_cons_succ]
          refine wpAnyH_take (i := 3) (v := ?_) rfl (by kernel_rfl) (by kernel_rfl) (by kernel_rfl) (fun _ _ _ h => h) (Or.inl ⟨by rfl, ?_⟩) (by assumption) ?_
          rotate_left
          · intro w hSw; (try dsimp only at hSw); obtain ⟨g0, g1, g2, g3, g4, g5, g6⟩ := hSw; go_simp; (try with_reducible rfl)
          simp only [List.getElem_toArray, List.getElem_cons_succ, List.getElem_cons_zero, Act.put, List.setIfInBounds_toArray, List.set_cons_zero, List.set_cons_succ]
          refine wpAnyH_take (i := 4) (v := ?_) rfl (by kernel_rfl) (by kernel_rfl) (by kernel_rfl) (fun _ _ _ h => h) (Or.inl ⟨by rfl, ?_⟩) (by assumption) ?_
          rotate_left
          · intro w hSw; (try dsimp only at hSw); obtain ⟨g0, g1, g2, g3, g4, g5, g6⟩ := hSw; go_simp; (try with_reducible rfl)
          simp only [List.getElem_toArray, List.getElem_cons_succ, List.getElem_cons_zero, Act.put, List.setIfInBounds_toArray, List.set_cons_zero, List.set_cons_succ]
          refine wpAnyH_take (i := 5) (v := ?_) rfl (by kernel_rfl) (by kernel_rfl) (by kernel_rfl) (fun _ _ _ h => h) (Or.inl ⟨by rfl, ?_⟩) (by assumption) ?_
          rotate_left
          · intro w hSw; (try dsimp only at hSw); obtain ⟨g0, g1, g2, g3, g4, g5, g6⟩ := hSw; go_simp; (try with_reducible rfl)
          simp only [List.getElem_toArray, List.getElem_cons_succ, List.getElem_cons_zero, Act.put, List.setIfInBounds_toArray, List.set_cons_zero, List.set_cons_succ]
          refine wpAnyH_take (i := 6) (v := ?_) rfl (by kernel_rfl) (by kernel_rfl) (by kernel_rfl) (fun _ _ _ h => h) (Or.inl ⟨by rfl, ?_⟩) (by assumption) ?_
          rotate_left
          · intro w hSw; (try dsimp only at hSw); obtain ⟨g0, g1, g2, g3, g4, g5, g6⟩ := hSw; go_simp; (try with_reducible rfl)
          simp only [List.getElem_toArray, List.getElem_cons_succ, List.getElem_cons_zero, Act.put, List.setIfInBounds_toArray, List.set_cons_zero, List.set_cons_succ]
          refine wpAnyH_take (i := 7) (v := ?_) rfl (by kernel_rfl) (by kernel_rfl) (by kernel_rfl) (fun _ _ _ h => h) (Or.inl ⟨by rfl, ?_⟩) (by assumption) ?_
          rotate_left
          · intro w hSw; (try dsimp only at hSw); obtain ⟨g0, g1, g2, g3, g4, g5, g6⟩ := hSw; go_simp; (try with_reducible rfl)
          simp only [List.getElem_toArray, List.getElem_cons_succ, List.getElem_cons_zero, Act.put, List.setIfInBounds_toArray, List.set_cons_zero, List.set_cons_succ]
          refine wpAnyH_take (i := 8) (v := ?_) rfl (by kernel_rfl) (by kernel_rfl) (by kernel_rfl) (fun _ _ _ h => h) (Or.inl ⟨by rfl, ?_⟩) (by assumption) ?_
          rotate_left
          · intro w hSw; (try dsimp only at hSw); obtain ⟨g0, g1, g2, g3, g4, g5, g6⟩ := hSw; go_simp; (try with_reducible rfl)
          simp only [List.getElem_toArray, List.getElem_cons_succ, List.getElem_cons_zero, Act.put, List.setIfInBounds_toArray, List.set_cons_zero, List.set_cons_succ]
          refine wpAnyH_take (i := 9) (v := ?_) rfl (by kernel_rfl) (by kernel_rfl) (by kernel_rfl) (fun _ _ _ h => h) (Or.inl ⟨by rfl, ?_⟩) (by assumption) ?_
          rotate_left
          · intro w hSw; (try dsimp only at hSw); obtain ⟨g0, g1, g2, g3, g4, g5, g6⟩ := hSw; go_simp; (try with_reducible rfl)
          simp only [List.getElem_toArray, List.getElem_cons_succ, List.getElem_cons_zero, Act.put, List.setIfInBounds_toArray, List.set_cons_zero, List.set_cons_succ]
          refine wpAnyH_take (i := 10) (v := ?_) rfl (by kernel_rfl) (by kernel_rfl) (by kernel_rfl) (fun _ _ _ h => h) (Or.inl ⟨by rfl, ?_⟩) (by assumption) ?_
          rotate_left
          · intro w hSw; (try dsimp only at hSw); obtain ⟨g0, g1, g2, g3, g4, g5, g6⟩ := hSw; go_simp; (try with_reducible rfl)
          simp only [List.getElem_toArray, List.getElem_cons_succ, List.getElem_cons_zero, Act.put, List.setIfInBounds_toArray, List.set_cons_zero, List.set_cons_succ]
          refine wpAnyH_take (i := 11) (v := ?_) rfl (by kernel_rfl) (by kernel_rfl) (by kernel_rfl) (fun _ _ _ h => h) (Or.inl ⟨by rfl, ?_⟩) (by assumption) ?_
          rotate_left
          · intro w hSw; (try dsimp only at hSw); obtain ⟨g0, g1, g2, g3, g4, g5, g6⟩ := hSw; go_simp; (try with_reducible rfl)
          simp only [List.getElem_toArray, List.getElem_cons_succ, List.getElem_cons_zero, Act.put, List.setIfInBounds_toArray, List.set_cons_zero, List.set_cons_succ]
          refine wpAnyH_take (i := 12) (v := ?_) rfl (by kernel_rfl) (by kernel_rfl) (by kernel_rfl) (fun _ _ _ h => h) (Or.inl ⟨by rfl, ?_⟩) (by assumption) ?_
          rotate_left
          · intro w hSw; (try dsimp only at hSw); obtain ⟨g0, g1, g2, g3, g4, g5, g6⟩ := hSw; go_simp; (try with_reducible rfl)
          simp only [List.getElem_toArray, List.getElem_cons_succ, List.getElem_cons_zero, Act.put, List.setIfInBounds_toArray, List.set_cons_zero, List.set_cons_succ]
          refine wpAnyH_take (i := 13) (v := ?_) rfl (by kernel_rfl) (by kernel_rfl) (by kernel_rfl) (fun _ _ _ h => h) (Or.inl ⟨by rfl, ?_⟩) (by assumption) ?_
          rotate_left
          · intro w hSw; (try dsimp only at hSw); obtain ⟨g0, g1, g2, g3, g4, g5, g6⟩ := hSw; go_simp; (try with_reducible rfl)
          simp only [List.getElem_toArray, List.getElem_cons_succ, List.getElem_cons_zero, Act.put, List.setIfInBounds_toArray, List.set_cons_zero, List.set_cons_succ]
          refine wpAnyH_take (i := 14) (v := ?_) rfl (by kernel_rfl) (by kernel_rfl) (by kernel_rfl) (fun _ _ _ h => h) (Or.inl ⟨by rfl, ?_⟩) (by assumption) ?_
          rotate_left
          · intro w hSw; (try dsimp only at hSw); obtain ⟨g0, g1, g2, g3, g4, g5, g6⟩ := hSw; go_simp; (try with_reducible rfl)
          simp only [List.getElem_toArray, List.getElem_cons_succ, List.getElem_cons_zero, Act.put, List.setIfInBounds_toArray, List.set_cons_zero, List.set_cons_succ]
          refine wpAnyH_take (i := 15) (v := ?_) rfl (by kernel_rfl) (by kernel_rfl) (by kernel_rfl) (fun _ _ _ h => h) (Or.inl ⟨by rfl, ?_⟩) (by assumption) ?_
          rotate_left
          · intro w hSw; (try dsimp only at hSw); obtain ⟨g0, g1, g2, g3, g4, g5, g6⟩ := hSw; go_simp; (try with_reducible rfl)
          simp only [List.getElem_toArray, List.getElem_cons_succ, List.getElem_cons_zero, Act.put, List.setIfInBounds_toArray, List.set_cons_zero, List.set_cons_succ]
          refine wpAnyH_take (i := 16) (v := ?_) rfl (by kernel_rfl) (by kernel_rfl) (by kernel_rfl) (fun _ _ _ h => h) (Or.inl ⟨by rfl, ?_⟩) (by assumption) ?_
          rotate_left
          · intro w hSw; (try dsimp only at hSw); obtain ⟨g0, g1, g2, g3, g4, g5, g6⟩ := hSw; go_simp; (try with_reducible rfl)
          simp only [List.getElem_toArray, List.getElem_cons_succ, List.getElem_cons_zero, Act.put, List.setIfInBounds_toArray, List.set_cons_zero, List.set_cons_succ]
          refine wpAnyH_take (i := 18) (v := ?_) rfl (by kernel_rfl) (by kernel_rfl) (by kernel_rfl) (fun _ _ _ h => h) (Or.inl ⟨by rfl, ?_⟩) (by assumption) ?_
          rotate_left
          · intro w hSw; (try dsimp only at hSw); obtain ⟨g0, g1, g2, g3, g4, g5, g6⟩ := hSw; go_simp; (try with_reducible rfl)
          simp only [List.getElem_toArray, List.getElem_cons_succ, List.getElem_cons_zero, Act.put, List.setIfInBounds_toArray, List.set_cons_zero, List.set_cons_succ]
          refine wpAnyH_take (i := 19) (v := ?_) rfl (by kernel_rfl) (by kernel_rfl) (by kernel_rfl) (fun _ _ _ h => h) (Or.inl ⟨by rfl, ?_⟩) (by assumption) ?_
          rotate_left
          · intro w hSw; (try dsimp only at hSw); obtain ⟨g0, g1, g2, g3, g4, g5, g6⟩ := hSw; go_simp; (try with_reducible rfl)
          simp only [List.getElem_toArray, List.getElem_cons_succ, List.getElem_cons_zero, Act.put, List.setIfInBounds_toArray, List.set_cons_zero, List.set_cons_succ]
          refine wpAnyH_take (i := 20) (v := ?_) rfl (by kernel_rfl) (by kernel_rfl) (by kernel_rfl) (fun _ _ _ h => h) (Or.inl ⟨by rfl, ?_⟩) (by assumption) ?_
          rotate_left
          · intro w hSw; (try dsimp only at hSw); obtain ⟨g0, g1, g2, g3, g4, g5, g6⟩ := hSw; go_simp; (try with_reducible rfl)
          simp only [List.getElem_toArray, List.getElem_cons_succ, List.getElem_cons_zero, Act.put, List.setIfInBounds_toArray, List.set_cons_zero, List.set_cons_succ]
          refine wpAnyH_take (i := 21) (v := ?_) rfl (by kernel_rfl) (by kernel_rfl) (by kernel_rfl) (fun _ _ _ h => h) (Or.inl ⟨by rfl, ?_⟩) (by assumption) ?_
          rotate_left
          · intro w hSw; (try dsimp only at hSw); obtain ⟨g0, g1, g2, g3, g4, g5, g6⟩ := hSw; go_simp; (try with_reducible rfl)
          simp only [List.getElem_toArray, List.getElem_cons_succ, List.getElem_cons_zero, Act.put, List.setIfInBounds_toArray, List.set_cons_zero, List.set_cons_succ]
          refine wpAnyH_ready (rs := [17]) (by kernel_rfl) (by simp) ?_
          refine AllReadyH.cons rfl (fun K hK => ?_) AllReadyH.nil
          go_simp
          (go_at_call 13; (refine (FI.out (si + 3) si _ (by omega) (by omega) (below_drew B4.out)).mono ?_); rintro z w5 ⟨rfl, b5⟩)
          have B5 := Lib.hid b5
          clear b5
          refine hK.out _ _ ?_ (fun hHeld1 => ?_)
          · exact (AT.out _ B5.out).1
          clear hK K hHeld0
          try simp only [List.getElem_toArray, List.getElem_cons_succ, List.getElem_cons_zero, Act.put, List.setIfInBounds_toArray, List.set_cons_zero, List.set_cons_succ]
          refine wpAnyH_ready (rs := [22]) (by kernel_rfl) (by simp) ?_
          refine AllReadyH.cons rfl (fun K hK => ?_) AllReadyH.nil
          go_simp
          (go_at_call 13; (refine (FI.out 32 ci _ (by omega) (by omega) B5.out).mono ?_); rintro z w6 ⟨rfl, b6⟩)
          have B6 := Lib.hid b6
          clear b6
          refine hK.out _ _ ?_ (fun hHeld2 => ?_)
          · exact (AT.out _ B6.out).1
          clear hK K hHeld1
          try simp only [List.getElem_toArray, List.getElem_cons_succ, List.getElem_cons_zero, Act.put, List.setIfInBounds_toArray, List.set_cons_zero, List.set_cons_succ]
          refine wpAnyH_take (i := 23) (v := ?_) rfl (by kernel_rfl) (by kernel_rfl) (by kernel_rfl) (fun _ _ _ h => h) (Or.inl ⟨by rfl, ?_⟩) (by assumption) ?_
          rotate_left
          · intro w hSw; (try dsimp only at hSw); obtain ⟨g0, g1, g2, g3, g4, g5, g6⟩ := hSw; go_simp; (try with_reducible rfl)
          simp only [List.getElem_toArray, List.getElem_cons_succ, List.getElem_cons_zero, Act.put, List.setIfInBounds_toArray, List.set_cons_zero, List.set_cons_succ]
          obtain ⟨⟨g0, g1, g2, g3, g4, g5, g6⟩, _, hz⟩ := AT.out _ B6.out
          obtain ⟨e0, e1, e2, e3, e4, e5, e6, e7⟩ := EvAt.of (e := ⟨0, 0, 0, 0, 0, ⟨#[]⟩, ⟨#[]⟩, ⟨#[]⟩⟩) hz
          have ef := fun j => frozen_of_row _ _ j _ _ hz
          simp only at e0 e1 e2 e3 e4 e5 e6 e7
          refine wpAnyH_ready (rs := [24]) (by kernel_rfl) (by simp) ?_
          refine AllReadyH.cons rfl (fun K hK => ?_) AllReadyH.nil
          go_simp
          refine hK.out _ _ ?_ (fun hHeld9 => ?_)
          · exact ⟨(ev_far (by omega) _ _ _ _ _ _ _ _ _).trans g0, (ev_far (by omega) _ _ _ _ _ _ _ _ _).trans g1, (ev_far (by omega) _ _ _ _ _ _ _ _ _).trans g2, (ev_far (by omega) _ _ _ _ _ _ _ _ _).trans g3, (ev_far (by omega) _ _ _ _ _ _ _ _ _).trans g4, (ev_far (by omega) _ _ _ _ _ _ _ _ _).trans g5, (ev_far (by omega) _ _ _ _ _ _ _ _ _).trans g6⟩
          clear hK K
          refine wpAnyH_done (by kernel_rfl) ?_ _
          go_wp2_with fail
          refine bodyPost_ret (v := (Evn.mk 1 (min nx 99) 0 aa na (ByteArray.extract ⟨#[97, 98, 99, 100, 101, 102, 103, 104, 105, 106, 107, 108, 109, 110, 111, 112]⟩ mi (mi + 1) ++ ⟨#[64, 98, 46, 99, 100]⟩) (fillS (si + 3) si) (fillS 32 ci)).agg) ?_ rfl ⟨?_, ?_⟩
          · simp [results, Tryz.f16, go_sem, Evn.agg, e0, e1, e2, e3, e4, e5, e6, e7]
          · rw [E.out, EK.out, EI.out, EZ.out, MN.out, if_neg hk0, if_neg hk0, if_neg h7, if_neg h15]
          · exact (((((((((BB.out _ B6.out).setCell (by first | omega | (simp; omega) | simp) _).setCell (by first | omega | (simp; omega) | simp) _).setCell (by first | omega | (simp; omega) | simp) _).setCell (by first | omega | (simp; omega) | simp) _).setCell (by first | omega | (simp; omega) | simp) _).setCell (by first | omega | (simp; omega) | simp) _).setCell (by first | omega | (simp; omega) | simp) _).setCell (by first | omega | (simp; omega) | simp) _)
end Go.Proofs.YtkihleecjgoipaaGreatDoor
