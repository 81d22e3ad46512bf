/- Rows of homecoming/api.Person: functions of slices. Written by wip/tools/rowlib.py. -/
import Derived.Test.YtkihleecjgoipaaDoorPer
namespace Go.Proofs.YtkihleecjgoipaaDoor.Per
open Go.RowKit Go.Maps Go.Proofs.YtkihleecjgoipaaDoorW.PrintWords Go.Proofs.YtkihleecjgoipaaDoor Go.Proofs.YtkihleecjgoipaaDoor.Rw

set_option maxHeartbeats 2000000 in
set_option maxRecDepth 100000 in
theorem clone_any {B : Nat} {ls : List R} {v : Value} {w : World} (hown : owns w B v ls) (lim : ls.length ≤ 1000000) :
    Calls Tryd.prog 46 #[v] w fun e w' => ∃ a' c', e = .returned (.slice a' ls.length c') ∧ owns w' w.heap.size (.slice a' ls.length c') ls ∧ Below w.heap.size w w' := by
  rcases hown.2 with ⟨e1, e2⟩ | ⟨g, cap, cur, e1, r1, r2, r3, r4, r5, r6⟩
  · subst e1
    have hls : ls = [] := List.eq_nil_of_length_eq_zero e2
    subst hls
    have hq := slice_nil 0 0
    go_enter Tryd.func46, Tryd.ntmps46
    go_wp2_with fail
    go_ret
    exact ⟨none, 0, rfl, World.ownsRow_nil _ _ _ _, Below.refl _ _⟩
  · subst e1
    have hq := slice_not_nil ⟨g, 0, none⟩ ls.length cap
    obtain ⟨i0, hi, hz0, hz1, hz2⟩ := info_parts info
    have hlen := flat_len ls
    have hown2 : (w.alloc (.cells #[] 38)).ownsRow B 38 13 (.slice (some ⟨g, 0, none⟩) ls.length cap) ls.length (flat ls) := World.ownsRow.alloc hown _
    have hcs := World.ownsRow.cells hown2 (g := g) rfl
    have hmade : (w.alloc (.cells #[] 38)).ownsRow w.heap.size 38 13 (.slice (some ⟨w.heap.size, 0, none⟩) 0 0) 0 [] := World.ownsRow_made w #[] 0 (Nat.le_refl _) (Nat.zero_le _) rfl
    obtain ⟨v', w', ra, ro, rg, _, rat⟩ := run_append_own_at (P := Tryd.prog) (w.alloc (.cells #[] 38)) w.heap.size 24 24 38 i0 _ 13 168 Tryd.underlying24 hi hz0 hz1 hz2 rfl (by decide) (.slice (some ⟨w.heap.size, 0, none⟩) 0 0) 0 [] hmade ⟨g, 0, none⟩ ls.length cap (flat ls) hlen hcs (flat_one ls) (by unfold maxLen; omega) (by omega) (by simp)
    have hf : ∃ a' c', v' = .slice a' ls.length c' := by
      rcases ro.2 with ⟨e1, e2⟩ | ⟨g', cap', cur', e1, r⟩
      · exact ⟨none, 0, by rw [e1]; congr 1; omega⟩
      · exact ⟨_, cap', by rw [e1]; congr 1; omega⟩
    obtain ⟨a', c', rfl⟩ := hf
    have fin : owns w' w.heap.size (.slice a' ls.length c') ls ∧ Below w.heap.size w w' := by
      refine ⟨by unfold owns; simpa using ro, ?_⟩
      have s1 := rg.size
      simp at s1
      refine ⟨rg.os, rg.tape, rg.output, by omega, fun k hk => ?_⟩
      rw [rg.block k (by simp; omega) (by simp [Value.ownBlock]; omega)]
      exact Lib.alloc_old w _ k hk
    clear hown hown2 hcs hmade ro rg rat r1 r2 r3 r4 r5 r6 hlen
    have RA := Lib.hid ra
    clear ra
    go_enter Tryd.func46, Tryd.ntmps46
    go_wp2_with (at_builtin; refine Lib.wpList_append_run _ rfl _ _ _ _ rfl _ _ rfl rfl _ _ RA.out ?_)
    go_ret
    exact ⟨a', c', rfl, fin⟩

set_option maxHeartbeats 2000000 in
set_option maxRecDepth 100000 in
/-- slices.IndexFunc with a function value of 1 captures that answers P. -/
theorem idx_any1 {Bs c : Nat} {a : Option Addr} {L : List R} {w : World} (hown : owns w Bs (.slice a L.length c) L) (lim : L.length ≤ 1000000) (P : R → Bool) (f : Nat) (p0 : Value) (hf : ∀ (args : Array Value) (w : World), (callFunc f args).run Tryd.prog w = .ok (.enter f args) w)
    (hP : ∀ (x : R) (w2 : World), Below w.heap.size w w2 → Calls Tryd.prog f #[x.agg, p0] w2 fun e w' => e = .returned (.bool (P x)) ∧ Below w2.heap.size w2 w') :
    Calls Tryd.prog 23 #[.slice a L.length c, .func (.func f) #[] #[p0]] w fun e w' => e = .returned (.int .i64 (idx L P)) ∧ Below w.heap.size w w' := by
  obtain ⟨n, hn⟩ : ∃ n, L.length = n := ⟨_, rfl⟩
  have OW := Lib.hid hown
  have HN := Lib.hid hn
  rw [hn]
  rw [hn] at lim
  obtain ⟨r, hr⟩ : ∃ r, idx L P = r := ⟨_, rfl⟩
  have HR := Lib.hid hr
  rw [hr]
  have HP := Lib.hid hP
  clear hown hn hr hP
  go_enter Tryd.func23, Tryd.ntmps23
  go_wp2_with fail
  go_loopw [8] (fun i wr => ∃ k : Nat, k ≤ n ∧ i = .int .i64 k ∧ (∀ j, j < k → P (L[j]?.getD zero) = false) ∧ Below w.heap.size w wr) (fun i _ => n - (intOf i).toNat)
  case atStart => exact ⟨0, Nat.zero_le _, rfl, by simp, Below.refl _ _⟩
  case round =>
    obtain ⟨k, hk, rfl, hno, hb⟩ := hrel
    have HO := Lib.hid hno
    have WB := Lib.hid hb
    by_cases hkn : k < n
    · have hkn' : (k : Int) < n := by omega
      obtain ⟨g, rfl, _, _, m0, m1, m2, m3, m4, m5, m6, m7, m8, m9, m10, m11, m12⟩ := (OW.out.below hb).all k (by rw [HN.out]; exact hkn)
      obtain ⟨x, hx⟩ : ∃ x, L[k]?.getD zero = x := ⟨_, rfl⟩
      rw [hx] at m0 m1 m2 m3 m4 m5 m6 m7 m8 m9 m10 m11 m12
      have BY := HP.out x wr hb
      unfold R.agg at BY
      have HX := Lib.hid hx
      obtain ⟨b, hbq⟩ : ∃ b, P x = b := ⟨_, rfl⟩
      rw [hbq] at BY
      have BY := Lib.hid BY
      have HQ := Lib.hid hbq
      clear hno hb hx hbq
      cases b
      · go_wp2_with ((with_reducible refine (BY.out).mono ?_); rintro e w2 ⟨rfl, b2⟩; have B2 := Lib.hid (WB.out.trans (b2.mono WB.out.size)); clear b2)
        go_roundw
        case rel => exact ⟨k + 1, by omega, by go_num, fun j hj => by
          rcases Nat.lt_or_ge j k with e | e
          · exact HO.out j e
          · obtain rfl : j = k := by omega
            rw [HX.out]
            exact HQ.out, B2.out⟩
        case measure => simp [intOf]; omega
      · have hp : r = (k : Int) := by
          rw [← HR.out, idx, pos_hit (d := zero) (by rw [HN.out]; exact hkn) HO.out (by rw [HX.out]; exact HQ.out), if_pos (by rw [HN.out]; exact hkn)]
        have HPP := Lib.hid hp
        clear hp
        go_wp2_with ((with_reducible refine (BY.out).mono ?_); rintro e w2 ⟨rfl, b2⟩; have B2 := Lib.hid (WB.out.trans (b2.mono WB.out.size)); clear b2)
        go_ret
        exact ⟨ret_int HPP.out.symm, B2.out⟩
    · have hkn' : ¬ ((k : Int) < n) := by omega
      obtain rfl : k = n := by omega
      have hp : r = -1 := by
        rw [← HR.out, idx, pos_none (d := zero) (fun j hj => HO.out j (by rw [← HN.out]; exact hj)), if_neg (by omega)]
      have HPP := Lib.hid hp
      clear hno hb hp
      go_wp2_with fail
      go_ret
      exact ⟨ret_int HPP.out.symm, WB.out⟩

/-- One more, out of a row of one that lies in the block q. -/
theorem push {w : World} {B q : Nat} {v : Value} {ms : List R} (m : R) (h : owns w B v ms) (hB : B ≤ w.heap.size) (lim : ms.length ≤ 1000000) (hq : w.heap[q]? = some (.cells m.cells.toArray 38)) (ty : TypeId) :
    ∃ a' c' w', (Builtin.append_ #[24, 24] ty #[v, .slice (some ⟨q, 0, none⟩) 1 1]).run Tryd.prog w = .ok (.slice a' (ms ++ [m]).length c') w' ∧ owns w' B (.slice a' (ms ++ [m]).length c') (ms ++ [m]) ∧ w.grownBy w' v.ownBlock := by
  obtain ⟨i0, hi, hz0, hz1, hz2⟩ := info_parts info
  obtain ⟨v', w', ra, ro, rg, _, rat⟩ := run_append_own_at (P := Tryd.prog) w B 24 ty 38 i0 _ 13 168 Tryd.underlying24 hi hz0 hz1 hz2 rfl (by decide) v ms.length (flat ms) h ⟨q, 0, none⟩ 1 1 m.cells rfl
    (fun j u hj => by
      rw [addM, Nat.zero_add, Lib.cell_of_heap hq]
      simpa using hj)
    (cells_one m) (by unfold maxLen; omega) (by omega) hB
  have ho : owns w' B v' (ms ++ [m]) := by
    unfold owns
    rw [List.length_append, flat_append]
    simpa [flat] using ro
  obtain ⟨a', c', rfl, _⟩ := ho.form
  exact ⟨a', c', w', ra, ho, rg⟩
end Go.Proofs.YtkihleecjgoipaaDoor.Per
