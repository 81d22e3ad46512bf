/- slices.IndexFunc of cases, with open's closure: the first that is over. -/
import Derived.Test.YtcidllckmidkoaaDoorCfind
namespace Go.Proofs.YtcidllckmidkoaaDoor
open Go.RowKit Go.Maps

set_option maxRecDepth 100000 in
set_option maxHeartbeats 2000000 in
theorem openc_any (c : Cas) (now : Int) (B : Nat) (w : World) (hB : w.cell? ⟨B, 3, none⟩ = some (.int .i64 now)) (hlt : B < w.heap.size) :
    Calls Tryd.prog 42 #[c.agg, .pointer (some ⟨B, 0, none⟩)] w fun e w' => e = .returned (.bool (overB c now)) ∧ Below w.heap.size w w' := by
  obtain ⟨c0, c1, c2, c3, c4, c5, c6, c7, c8⟩ := cas_box w c
  have hb : Below w.heap.size w (w.alloc c.obj) := (Below.refl _ _).alloc (Nat.le_refl _) _
  have hB2 : (w.alloc c.obj).cell? ⟨B, 3, none⟩ = some (.int .i64 now) := (hb.cell (p := ⟨B, 3, none⟩) hlt).trans hB
  have OV := Lib.hid (fun w => over_any c now w)
  generalize overB c now = o at *
  have HB := Lib.hid hb
  clear hb hB hlt
  unfold Cas.obj at *
  unfold Cas.agg at *
  go_enter Tryd.func42, Tryd.ntmps42
  go_wp2_with ((go_at_call 14; (with_reducible refine (OV.out _).mono ?_); rintro e w3 ⟨rfl, b3⟩))
  go_ret
  exact ⟨rfl, HB.out.trans (b3.mono HB.out.size)⟩

/-- The first that is over; the length, if none is. -/
def posO (L : List Cas) (now : Int) : Nat := L.findIdx (fun c => overB c now)
def idxO (L : List Cas) (now : Int) : Int := if posO L now < L.length then (posO L now : Int) else -1
theorem posO_hit {L : List Cas} {now : Int} {k : Nat} (hk : k < L.length) (h : ∀ j, j < k → overB (L[j]?.getD noCas) now = false) (hh : overB (L[k]?.getD noCas) now = true) : posO L now = k := by
  unfold posO
  rw [List.findIdx_eq hk]
  rw [List.getElem?_eq_getElem hk] at hh
  refine ⟨hh, fun j hj => ?_⟩
  have := h j hj
  rw [List.getElem?_eq_getElem (by omega)] at this
  exact this
theorem posO_none {L : List Cas} {now : Int} (h : ∀ j, j < L.length → overB (L[j]?.getD noCas) now = false) : posO L now = L.length := by
  unfold posO
  rw [List.findIdx_eq_length]
  intro x hx
  obtain ⟨j, hj, rfl⟩ := List.mem_iff_getElem.1 hx
  have := h j hj
  rw [List.getElem?_eq_getElem hj] at this
  exact this

set_option maxHeartbeats 2000000 in
set_option maxRecDepth 100000 in
theorem oidx_any {Bs c : Nat} {a : Option Addr} {L : List Cas} {w : World} (hown : mowns w Bs (.slice a L.length c) L) (lim : L.length ≤ 1000000) (now : Int) (B : Nat) (hB : w.cell? ⟨B, 3, none⟩ = some (.int .i64 now)) (hlt : B < w.heap.size) :
    Calls Tryd.prog 48 #[.slice a L.length c, .func (.func 42) #[] #[.pointer (some ⟨B, 0, none⟩)]] w fun e w' => e = .returned (.int .i64 (idxO L now)) ∧ Below w.heap.size w w' := by
  obtain ⟨n, hn⟩ : ∃ n, L.length = n := ⟨_, rfl⟩
  have OW := Lib.hid hown
  have HN := Lib.hid hn
  rw [hn]
  rw [hn] at lim
  obtain ⟨r, hr⟩ : ∃ r, idxO L now = r := ⟨_, rfl⟩
  have HR := Lib.hid hr
  rw [hr]
  clear hown hn hr
  have HB := Lib.hid hB
  clear hB
  go_enter Tryd.func48, Tryd.ntmps48
  go_wp2_with fail
  go_loopw [8] (fun i wr => ∃ k : Nat, k ≤ n ∧ i = .int .i64 k ∧ (∀ j, j < k → overB (L[j]?.getD noCas) now = false) ∧ Below w.heap.size w wr) (fun i _ => n - (intOf i).toNat)
  case atStart => exact ⟨0, Nat.zero_le _, rfl, by simp, Below.refl _ _⟩
  case round =>
    obtain ⟨k, hk, rfl, hno, hb⟩ := hrel
    have HO := Lib.hid hno
    have WB := Lib.hid hb
    by_cases hkn : k < n
    · have hkn' : (k : Int) < n := by omega
      obtain ⟨g, rfl, _, _, m0, m1, m2, m3, m4, m5, m6, m7, m8⟩ := (OW.out.below hb).nine k (by rw [HN.out]; exact hkn)
      obtain ⟨x, hx⟩ : ∃ x, L[k]?.getD noCas = x := ⟨_, rfl⟩
      rw [hx] at m0 m1 m2 m3 m4 m5 m6 m7 m8
      have BY := openc_any x now B wr ((hb.cell (p := ⟨B, 3, none⟩) hlt).trans HB.out) (Nat.lt_of_lt_of_le hlt hb.size)
      unfold Cas.agg at BY
      have HX := Lib.hid hx
      obtain ⟨b, hbq⟩ : ∃ b, overB x now = b := ⟨_, rfl⟩
      rw [hbq] at BY
      have BY := Lib.hid BY
      have HQ := Lib.hid hbq
      clear hno hb hx hbq
      cases b
      · go_wp2_with (go_at_call 42; (with_reducible refine (BY.out).mono ?_); rintro e w2 ⟨rfl, b2⟩; have B2 := Lib.hid (WB.out.trans (b2.mono WB.out.size)); clear b2)
        go_roundw
        case rel => exact ⟨k + 1, by omega, by go_num, fun j hj => by
          rcases Nat.lt_or_ge j k with e | e
          · exact HO.out j e
          · obtain rfl : j = k := by omega
            rw [HX.out]
            exact HQ.out, B2.out⟩
        case measure => simp [intOf]; omega
      · have hp : r = (k : Int) := by
          rw [← HR.out, idxO, posO_hit (by rw [HN.out]; exact hkn) HO.out (by rw [HX.out]; exact HQ.out), if_pos (by rw [HN.out]; exact hkn)]
        have HP := Lib.hid hp
        clear hp
        go_wp2_with (go_at_call 42; (with_reducible refine (BY.out).mono ?_); rintro e w2 ⟨rfl, b2⟩; have B2 := Lib.hid (WB.out.trans (b2.mono WB.out.size)); clear b2)
        go_ret
        exact ⟨ret_int HP.out.symm, B2.out⟩
    · have hkn' : ¬ ((k : Int) < n) := by omega
      obtain rfl : k = n := by omega
      have hp : r = -1 := by
        rw [← HR.out, idxO, posO_none (fun j hj => HO.out j (by rw [← HN.out]; exact hj)), if_neg (by omega)]
      have HP := Lib.hid hp
      clear hno hb hp
      go_wp2_with fail
      go_ret
      exact ⟨ret_int HP.out.symm, WB.out⟩
end Go.Proofs.YtcidllckmidkoaaDoor
