/- slices.IndexFunc of messages, by number: change's closure. -/
import Derived.Test.YtleobnfmbhobgaaDoorRight
import Derived.Test.YtleobnfmbhobgaaDoorMdel
namespace Go.Proofs.YtleobnfmbhobgaaDoor
open Go.RowKit Go.Maps

set_option maxRecDepth 100000 in
theorem byid_any (m : Msg) (id : Nat) (B : Nat) (w : World) (hB : w.cell? ⟨B, 0, none⟩ = some (.int .u64 id)) (hlt : B < w.heap.size) :
    Calls Tryd.prog 44 #[m.agg, .pointer (some ⟨B, 0, none⟩)] w fun e w' => e = .returned (.bool (decide (m.id = id))) ∧ w' = w.alloc m.obj := by
  obtain ⟨c0, c1, c2, c3, c4, c5⟩ := msg_box w m
  have hB2 : (w.alloc m.obj).cell? ⟨B, 0, none⟩ = some (.int .u64 id) := ((Below.refl w.heap.size w).alloc (Nat.le_refl _) _).cell (p := ⟨B, 0, none⟩) hlt |>.trans hB
  unfold Msg.obj at *
  unfold Msg.agg
  have q : ((m.id : Int) == (id : Int)) = decide (m.id = id) := by rw [Bool.eq_iff_iff]; simp; omega
  obtain ⟨b, hb⟩ : ∃ b, decide (m.id = id) = b := ⟨_, rfl⟩
  rw [hb] at q ⊢
  clear hb hB hlt
  go_enter Tryd.func44, Tryd.ntmps44
  go_wp2_with fail
  go_ret
  exact ⟨ret_bool (by first | rfl | exact q), rfl⟩

/-- The first place that has a number; the length, if none has. -/
def pos (ms : List Msg) (id : Nat) : Nat := ms.findIdx (fun m => decide (m.id = id))
theorem pos_hit {ms : List Msg} {id k : Nat} (hk : k < ms.length) (h : ∀ j, j < k → (ms[j]?.getD noMsg).id ≠ id) (hh : (ms[k]?.getD noMsg).id = id) : pos ms id = k := by
  have hget : ∀ j (hj : j < ms.length), ms[j]?.getD noMsg = ms[j] := fun j hj => by rw [List.getElem?_eq_getElem hj]; rfl
  unfold pos
  rw [List.findIdx_eq hk]
  refine ⟨by rw [← hget k hk]; simpa using hh, fun j hj => ?_⟩
  have := h j hj
  rw [hget j (by omega)] at this
  simpa using this
theorem pos_none {ms : List Msg} {id : Nat} (h : ∀ j, j < ms.length → (ms[j]?.getD noMsg).id ≠ id) : pos ms id = ms.length := by
  unfold pos
  rw [List.findIdx_eq_length]
  intro x hx
  obtain ⟨j, hj, e⟩ := List.getElem_of_mem hx
  have := h j hj
  rw [List.getElem?_eq_getElem hj] at this
  rw [← e]
  simpa using this
def idxI (ms : List Msg) (id : Nat) : Int := if pos ms id < ms.length then (pos ms id : Int) else -1

set_option maxHeartbeats 2000000 in
set_option maxRecDepth 100000 in
theorem midx_any {Bs c : Nat} {a : Option Addr} {ms : List Msg} {w : World} (hown : mowns w Bs (.slice a ms.length c) ms) (lim : ms.length ≤ 1000000) (id B : Nat) (hB : w.cell? ⟨B, 0, none⟩ = some (.int .u64 id)) (hlt : B < w.heap.size) :
    Calls Tryd.prog 43 #[.slice a ms.length c, .func (.func 44) #[] #[.pointer (some ⟨B, 0, none⟩)]] w fun e w' => e = .returned (.int .i64 (idxI ms id)) ∧ Below w.heap.size w w' := by
  obtain ⟨n, hn⟩ : ∃ n, ms.length = n := ⟨_, rfl⟩
  have OW := Lib.hid hown
  have HN := Lib.hid hn
  rw [hn]
  rw [hn] at lim
  obtain ⟨r, hr⟩ : ∃ r, idxI ms id = r := ⟨_, rfl⟩
  have HR := Lib.hid hr
  rw [hr]
  clear hown hn hr
  have HB := Lib.hid hB
  clear hB
  go_enter Tryd.func43, Tryd.ntmps43
  go_wp2_with fail
  go_loopw [8] (fun i wr => ∃ k : Nat, k ≤ n ∧ i = .int .i64 k ∧ (∀ j, j < k → (ms[j]?.getD noMsg).id ≠ id) ∧ Below w.heap.size w wr) (fun i _ => n - (intOf i).toNat)
  case atStart => exact ⟨0, Nat.zero_le _, rfl, by simp, Below.refl _ _⟩
  case round =>
    obtain ⟨k, hk, rfl, hno, hb⟩ := hrel
    have HO := Lib.hid hno
    have WB := Lib.hid hb
    by_cases hkn : k < n
    · have hkn' : (k : Int) < n := by omega
      obtain ⟨g, rfl, _, _, m0, m1, m2, m3, m4, m5⟩ := (OW.out.below hb).six k (by rw [HN.out]; exact hkn)
      obtain ⟨x, hx⟩ : ∃ x, ms[k]?.getD noMsg = x := ⟨_, rfl⟩
      rw [hx] at m0 m1 m2 m3 m4 m5
      have BY := byid_any x id B wr ((hb.cell (p := ⟨B, 0, none⟩) hlt).trans HB.out) (Nat.lt_of_lt_of_le hlt hb.size)
      unfold Msg.agg at BY
      have HX := Lib.hid hx
      obtain ⟨b, hbq⟩ : ∃ b, decide (x.id = id) = b := ⟨_, rfl⟩
      rw [hbq] at BY
      have BY := Lib.hid BY
      have HQ := Lib.hid hbq
      clear hno hb hx hbq
      cases b
      · go_wp2_with (go_at_call 44; (with_reducible refine (BY.out).mono ?_); rintro e w2 ⟨rfl, rfl⟩)
        go_roundw
        case rel => exact ⟨k + 1, by omega, by go_num, fun j hj => by
          rcases Nat.lt_or_ge j k with e | e
          · exact HO.out j e
          · obtain rfl : j = k := by omega
            rw [HX.out]
            exact of_decide_eq_false HQ.out, WB.out.alloc WB.out.size _⟩
        case measure => simp [intOf]; omega
      · have hp : r = (k : Int) := by
          rw [← HR.out, idxI, pos_hit (by rw [HN.out]; exact hkn) HO.out (by rw [HX.out]; exact of_decide_eq_true HQ.out), if_pos (by rw [HN.out]; exact hkn)]
        have HP := Lib.hid hp
        clear hp
        go_wp2_with (go_at_call 44; (with_reducible refine (BY.out).mono ?_); rintro e w2 ⟨rfl, rfl⟩)
        go_ret
        exact ⟨ret_int HP.out.symm, WB.out.alloc WB.out.size _⟩
    · have hkn' : ¬ ((k : Int) < n) := by omega
      obtain rfl : k = n := by omega
      have hp : r = -1 := by
        rw [← HR.out, idxI, pos_none (fun j hj => HO.out j (by rw [← HN.out]; exact hj)), if_neg (by omega)]
      have HP := Lib.hid hp
      clear hno hb hp
      go_wp2_with fail
      go_ret
      exact ⟨ret_int HP.out.symm, WB.out⟩
end Go.Proofs.YtleobnfmbhobgaaDoor
