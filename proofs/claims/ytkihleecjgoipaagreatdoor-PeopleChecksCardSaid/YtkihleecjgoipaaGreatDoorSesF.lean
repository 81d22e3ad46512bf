/- Rows of homecoming/api.Session: functions of slices. Written by wip/tools/rowlib.py. -/
import Derived.Test.YtkihleecjgoipaaGreatDoorMg1
namespace Go.Proofs.YtkihleecjgoipaaGreatDoor.Ses
open Go.RowKit Go.Maps Go.Proofs.YtkihleecjgoipaaGreatDoorW.PrintWords Go.Proofs.YtkihleecjgoipaaGreatDoor Go.Proofs.YtkihleecjgoipaaGreatDoor.Rw

set_option maxHeartbeats 2000000 in
set_option maxRecDepth 100000 in
theorem clone_any {B : Nat} {ls : List R} {v : Value} {w : World} (hown : owns w B v ls) (lim : ls.length ≤ 1000000) :
    Calls Tryz.prog 55 #[v] w fun e w' => ∃ a' c', e = .returned (.slice a' ls.length c') ∧ owns w' w.heap.size (.slice a' ls.length c') ls ∧ Below w.heap.size w w' := by
  rcases hown.2 with ⟨e1, e2⟩ | ⟨g, cap, cur, e1, r1, r2, r3, r4, r5, r6⟩
  · subst e1
    have hls : ls = [] := List.eq_nil_of_length_eq_zero e2
    subst hls
    have hq := slice_nil 0 0
    go_enter Tryz.func55, Tryz.ntmps55
    go_wp2_with fail
    go_ret
    exact ⟨none, 0, rfl, World.ownsRow_nil _ _ _ _, Below.refl _ _⟩
  · subst e1
    have hq := slice_not_nil ⟨g, 0, none⟩ ls.length cap
    obtain ⟨i0, hi, hz0, hz1, hz2⟩ := info_parts info
    have hlen := flat_len ls
    have hown2 : (w.alloc (.cells #[] 37)).ownsRow B 37 3 (.slice (some ⟨g, 0, none⟩) ls.length cap) ls.length (flat ls) := World.ownsRow.alloc hown _
    have hcs := World.ownsRow.cells hown2 (g := g) rfl
    have hmade : (w.alloc (.cells #[] 37)).ownsRow w.heap.size 37 3 (.slice (some ⟨w.heap.size, 0, none⟩) 0 0) 0 [] := World.ownsRow_made w #[] 0 (Nat.le_refl _) (Nat.zero_le _) rfl
    obtain ⟨v', w', ra, ro, rg, _, rat⟩ := run_append_own_at (P := Tryz.prog) (w.alloc (.cells #[] 37)) w.heap.size 23 23 37 i0 _ 3 32 Tryz.underlying23 hi hz0 hz1 hz2 rfl (by decide) (.slice (some ⟨w.heap.size, 0, none⟩) 0 0) 0 [] hmade ⟨g, 0, none⟩ ls.length cap (flat ls) hlen hcs (flat_one ls) (by unfold maxLen; omega) (by omega) (by simp)
    have hf : ∃ a' c', v' = .slice a' ls.length c' := by
      rcases ro.2 with ⟨e1, e2⟩ | ⟨g', cap', cur', e1, r⟩
      · exact ⟨none, 0, by rw [e1]; congr 1; omega⟩
      · exact ⟨_, cap', by rw [e1]; congr 1; omega⟩
    obtain ⟨a', c', rfl⟩ := hf
    have fin : owns w' w.heap.size (.slice a' ls.length c') ls ∧ Below w.heap.size w w' := by
      refine ⟨by unfold owns; simpa using ro, ?_⟩
      have s1 := rg.size
      simp at s1
      refine ⟨rg.os, rg.tape, rg.output, by omega, fun k hk => ?_⟩
      rw [rg.block k (by simp; omega) (by simp [Value.ownBlock]; omega)]
      exact Lib.alloc_old w _ k hk
    clear hown hown2 hcs hmade ro rg rat r1 r2 r3 r4 r5 r6 hlen
    have RA := Lib.hid ra
    clear ra
    go_enter Tryz.func55, Tryz.ntmps55
    go_wp2_with (at_builtin; refine Lib.wpList_append_run _ rfl _ _ _ _ rfl _ _ rfl rfl _ _ RA.out ?_)
    go_ret
    exact ⟨a', c', rfl, fin⟩

set_option maxHeartbeats 2000000 in
set_option maxRecDepth 100000 in
/-- slices.IndexFunc with a function value of 1 captures that answers P. -/
theorem idx_any1 {Bs c : Nat} {a : Option Addr} {L : List R} {w : World} (hown : owns w Bs (.slice a L.length c) L) (lim : L.length ≤ 1000000) (P : R → Bool) (f : Nat) (p0 : Value) (hf : ∀ (args : Array Value) (w : World), (callFunc f args).run Tryz.prog w = .ok (.enter f args) w)
    (hP : ∀ (x : R) (w2 : World), Below w.heap.size w w2 → Calls Tryz.prog f #[x.agg, p0] w2 fun e w' => e = .returned (.bool (P x)) ∧ Below w2.heap.size w2 w') :
    Calls Tryz.prog 66 #[.slice a L.length c, .func (.func f) #[] #[p0]] w fun e w' => e = .returned (.int .i64 (idx L P)) ∧ Below w.heap.size w w' := by
  obtain ⟨n, hn⟩ : ∃ n, L.length = n := ⟨_, rfl⟩
  have OW := Lib.hid hown
  have HN := Lib.hid hn
  rw [hn]
  rw [hn] at lim
  obtain ⟨r, hr⟩ : ∃ r, idx L P = r := ⟨_, rfl⟩
  have HR := Lib.hid hr
  rw [hr]
  have HP := Lib.hid hP
  clear hown hn hr hP
  go_enter Tryz.func66, Tryz.ntmps66
  go_wp2_with fail
  go_loopw [8] (fun i wr => ∃ k : Nat, k ≤ n ∧ i = .int .i64 k ∧ (∀ j, j < k → P (L[j]?.getD zero) = false) ∧ Below w.heap.size w wr) (fun i _ => n - (intOf i).toNat)
  case atStart => exact ⟨0, Nat.zero_le _, rfl, by simp, Below.refl _ _⟩
  case round =>
    obtain ⟨k, hk, rfl, hno, hb⟩ := hrel
    have HO := Lib.hid hno
    have WB := Lib.hid hb
    by_cases hkn : k < n
    · have hkn' : (k : Int) < n := by omega
      obtain ⟨g, rfl, _, _, m0, m1, m2⟩ := (OW.out.below hb).all k (by rw [HN.out]; exact hkn)
      obtain ⟨x, hx⟩ : ∃ x, L[k]?.getD zero = x := ⟨_, rfl⟩
      rw [hx] at m0 m1 m2
      have BY := HP.out x wr hb
      unfold R.agg at BY
      have HX := Lib.hid hx
      obtain ⟨b, hbq⟩ : ∃ b, P x = b := ⟨_, rfl⟩
      rw [hbq] at BY
      have BY := Lib.hid BY
      have HQ := Lib.hid hbq
      clear hno hb hx hbq
      cases b
      · go_wp2_with ((with_reducible refine (BY.out).mono ?_); rintro e w2 ⟨rfl, b2⟩; have B2 := Lib.hid (WB.out.trans (b2.mono WB.out.size)); clear b2)
        go_roundw
        case rel => exact ⟨k + 1, by omega, by go_num, fun j hj => by
          rcases Nat.lt_or_ge j k with e | e
          · exact HO.out j e
          · obtain rfl : j = k := by omega
            rw [HX.out]
            exact HQ.out, B2.out⟩
        case measure => simp [intOf]; omega
      · have hp : r = (k : Int) := by
          rw [← HR.out, idx, pos_hit (d := zero) (by rw [HN.out]; exact hkn) HO.out (by rw [HX.out]; exact HQ.out), if_pos (by rw [HN.out]; exact hkn)]
        have HPP := Lib.hid hp
        clear hp
        go_wp2_with ((with_reducible refine (BY.out).mono ?_); rintro e w2 ⟨rfl, b2⟩; have B2 := Lib.hid (WB.out.trans (b2.mono WB.out.size)); clear b2)
        go_ret
        exact ⟨ret_int HPP.out.symm, B2.out⟩
    · have hkn' : ¬ ((k : Int) < n) := by omega
      obtain rfl : k = n := by omega
      have hp : r = -1 := by
        rw [← HR.out, idx, pos_none (d := zero) (fun j hj => HO.out j (by rw [← HN.out]; exact hj)), if_neg (by omega)]
      have HPP := Lib.hid hp
      clear hno hb hp
      go_wp2_with fail
      go_ret
      exact ⟨ret_int HPP.out.symm, WB.out⟩

set_option maxHeartbeats 2000000 in
set_option maxRecDepth 100000 in
/-- slices.IndexFunc with a function value of 2 captures that answers P. -/
theorem idx_any2 {Bs c : Nat} {a : Option Addr} {L : List R} {w : World} (hown : owns w Bs (.slice a L.length c) L) (lim : L.length ≤ 1000000) (P : R → Bool) (f : Nat) (p0 p1 : Value) (hf : ∀ (args : Array Value) (w : World), (callFunc f args).run Tryz.prog w = .ok (.enter f args) w)
    (hP : ∀ (x : R) (w2 : World), Below w.heap.size w w2 → Calls Tryz.prog f #[x.agg, p0, p1] w2 fun e w' => e = .returned (.bool (P x)) ∧ Below w2.heap.size w2 w') :
    Calls Tryz.prog 66 #[.slice a L.length c, .func (.func f) #[] #[p0, p1]] w fun e w' => e = .returned (.int .i64 (idx L P)) ∧ Below w.heap.size w w' := by
  obtain ⟨n, hn⟩ : ∃ n, L.length = n := ⟨_, rfl⟩
  have OW := Lib.hid hown
  have HN := Lib.hid hn
  rw [hn]
  rw [hn] at lim
  obtain ⟨r, hr⟩ : ∃ r, idx L P = r := ⟨_, rfl⟩
  have HR := Lib.hid hr
  rw [hr]
  have HP := Lib.hid hP
  clear hown hn hr hP
  go_enter Tryz.func66, Tryz.ntmps66
  go_wp2_with fail
  go_loopw [8] (fun i wr => ∃ k : Nat, k ≤ n ∧ i = .int .i64 k ∧ (∀ j, j < k → P (L[j]?.getD zero) = false) ∧ Below w.heap.size w wr) (fun i _ => n - (intOf i).toNat)
  case atStart => exact ⟨0, Nat.zero_le _, rfl, by simp, Below.refl _ _⟩
  case round =>
    obtain ⟨k, hk, rfl, hno, hb⟩ := hrel
    have HO := Lib.hid hno
    have WB := Lib.hid hb
    by_cases hkn : k < n
    · have hkn' : (k : Int) < n := by omega
      obtain ⟨g, rfl, _, _, m0, m1, m2⟩ := (OW.out.below hb).all k (by rw [HN.out]; exact hkn)
      obtain ⟨x, hx⟩ : ∃ x, L[k]?.getD zero = x := ⟨_, rfl⟩
      rw [hx] at m0 m1 m2
      have BY := HP.out x wr hb
      unfold R.agg at BY
      have HX := Lib.hid hx
      obtain ⟨b, hbq⟩ : ∃ b, P x = b := ⟨_, rfl⟩
      rw [hbq] at BY
      have BY := Lib.hid BY
      have HQ := Lib.hid hbq
      clear hno hb hx hbq
      cases b
      · go_wp2_with ((with_reducible refine (BY.out).mono ?_); rintro e w2 ⟨rfl, b2⟩; have B2 := Lib.hid (WB.out.trans (b2.mono WB.out.size)); clear b2)
        go_roundw
        case rel => exact ⟨k + 1, by omega, by go_num, fun j hj => by
          rcases Nat.lt_or_ge j k with e | e
          · exact HO.out j e
          · obtain rfl : j = k := by omega
            rw [HX.out]
            exact HQ.out, B2.out⟩
        case measure => simp [intOf]; omega
      · have hp : r = (k : Int) := by
          rw [← HR.out, idx, pos_hit (d := zero) (by rw [HN.out]; exact hkn) HO.out (by rw [HX.out]; exact HQ.out), if_pos (by rw [HN.out]; exact hkn)]
        have HPP := Lib.hid hp
        clear hp
        go_wp2_with ((with_reducible refine (BY.out).mono ?_); rintro e w2 ⟨rfl, b2⟩; have B2 := Lib.hid (WB.out.trans (b2.mono WB.out.size)); clear b2)
        go_ret
        exact ⟨ret_int HPP.out.symm, B2.out⟩
    · have hkn' : ¬ ((k : Int) < n) := by omega
      obtain rfl : k = n := by omega
      have hp : r = -1 := by
        rw [← HR.out, idx, pos_none (d := zero) (fun j hj => HO.out j (by rw [← HN.out]; exact hj)), if_neg (by omega)]
      have HPP := Lib.hid hp
      clear hno hb hp
      go_wp2_with fail
      go_ret
      exact ⟨ret_int HPP.out.symm, WB.out⟩

theorem zero_run (w : World) : (zeroValue 37).run Tryz.prog w = .ok (.agg #[.string ⟨#[]⟩, .int .i64 0, .int .i64 0]) w := by kernel_rfl
theorem zeros_one (k : Nat) : ∀ v ∈ (Builtin.zeroCells (.agg #[.string ⟨#[]⟩, .int .i64 0, .int .i64 0] : Value).cells k).toList, v.oneCell' = true := by
  intro v hv
  have h4 : ∀ x ∈ (.agg #[.string ⟨#[]⟩, .int .i64 0, .int .i64 0] : Value).cells.toList, x.oneCell' = true := by decide +kernel
  have hz : (.agg #[.string ⟨#[]⟩, .int .i64 0, .int .i64 0] : Value).cells.size = 3 := by kernel_rfl
  obtain ⟨j, hj, rfl⟩ := List.getElem_of_mem hv
  simp only [Array.getElem_toList, Builtin.zeroCells]
  refine h4 _ ?_
  simp only [Array.getElem_map, Array.getElem_range, Array.mem_toList_iff]
  have hlt : j % (.agg #[.string ⟨#[]⟩, .int .i64 0, .int .i64 0] : Value).cells.size < (.agg #[.string ⟨#[]⟩, .int .i64 0, .int .i64 0] : Value).cells.size := Nat.mod_lt _ (by omega)
  rw [getElem!_pos (.agg #[.string ⟨#[]⟩, .int .i64 0, .int .i64 0] : Value).cells (j % (.agg #[.string ⟨#[]⟩, .int .i64 0, .int .i64 0] : Value).cells.size) hlt]
  exact Array.getElem_mem hlt
def zv : Value := .agg #[.string ⟨#[]⟩, .int .i64 0, .int .i64 0]
theorem clear_behind {w : World} {B m k cap g : Nat} {ms : List R} (h : owns w B (.slice (some ⟨g, 0, none⟩) m cap) ms) (hm : ms.length = m) (hk : 0 < k) (hmk : m + k ≤ cap) (ty : TypeId) (c q : Nat) (hq : q = m * 3) :
    ∃ w', (Builtin.clear_ #[23] ty #[.slice (some ⟨g, q, none⟩) k c]).run Tryz.prog w = .ok (.tuple #[]) w' ∧
      owns w' B (.slice (some ⟨g, 0, none⟩) m cap) ms ∧ w.grownBy w' (some g) := by
  subst hq
  subst hm
  have hl := h.1
  have zo := zeros_one
  have zr := zero_run
  change ∀ (k : Nat), ∀ v ∈ (Builtin.zeroCells zv.cells k).toList, v.oneCell' = true at zo
  change ∀ (w : World), (zeroValue 37).run Tryz.prog w = .ok zv w at zr
  rcases h.2 with ⟨e1, e2⟩ | ⟨g', cap', cur, e1, r1, r2, r3, r4, r5, r6⟩
  · simp at e1
  · simp only [Value.slice.injEq, Option.some.injEq, Addr.mk.injEq, and_true, true_and] at e1
    obtain ⟨rfl, rfl⟩ := e1
    have hz : zv.cells.size = 3 := by kernel_rfl
    have hzl : (Builtin.zeroCells zv.cells k).toList.length = k * 3 := by rw [Array.length_toList, size_zeroCells, hz]
    have hst := run_storeCells_at (P := Tryz.prog) g (ms.length * 3) 37 (Builtin.zeroCells zv.cells k).toList 0 cur w r2 (by rw [hzl, r5]; omega) (zo k)
    simp only [Nat.add_zero] at hst
    obtain ⟨k', rfl⟩ : ∃ k', k = k' + 1 := ⟨k - 1, by omega⟩
    obtain ⟨RR, hR⟩ : ∃ RR, RR = (cur.toList.take (ms.length * 3) ++ (Builtin.zeroCells zv.cells (k' + 1)).toList ++ cur.toList.drop (ms.length * 3 + (Builtin.zeroCells zv.cells (k' + 1)).toList.length)).toArray := ⟨_, rfl⟩
    rw [← hR] at hst
    have hrun : (Builtin.clear_ #[23] ty #[.slice (some ⟨g, ms.length * 3, none⟩) (k' + 1) c]).run Tryz.prog w = .ok (.tuple #[]) (w.setRow g RR) := by
      simp [Builtin.clear_, run_underlying Tryz.underlying23, zr]
      change ((storeCells ⟨g, ms.length * 3, none⟩ (Builtin.zeroCells zv.cells (k' + 1)).toList).run Tryz.prog w).andThen _ = _
      rw [hst]
      rfl
    refine ⟨w.setRow g RR, hrun, ⟨hl, .inr ⟨g, cap, RR, rfl, r1, setRow_heap w g cur _ _ _ r2, r3, r4, ?_, ?_⟩⟩, ⟨rfl, rfl, rfl, by simp, fun j _ hj => setRow_other w g j _ (fun e => hj (by simp [e]))⟩⟩
    · rw [hR]
      simp only [List.size_toArray, List.length_append, List.length_take, List.length_drop, hzl]
      have hcl : cur.toList.length = cap * 3 := by rw [Array.length_toList, r5]
      rw [hcl]
      have := Nat.mul_le_mul_right 3 hmk
      omega
    · have hlen : (cur.toList.take (ms.length * 3)).length = ms.length * 3 := by rw [r6]; exact hl
      rw [hR, ← r6, List.append_assoc]
      generalize (Builtin.zeroCells zv.cells (k' + 1)).toList ++ cur.toList.drop (ms.length * 3 + (Builtin.zeroCells zv.cells (k' + 1)).toList.length) = Z
      generalize cur.toList.take (ms.length * 3) = X at *
      have e := List.take_left (l₁ := X) (l₂ := Z)
      rw [hlen] at e
      exact e
theorem clear_rest {w : World} {B n i cap g : Nat} {ms : List R} (h : owns w B (.slice (some ⟨g, 0, none⟩) n cap) ms) (hn : ms.length = n) (hi : i < n) (ty : TypeId) (c : Nat) :
    ∃ w', (Builtin.clear_ #[23] ty #[.slice (some ⟨g, i * 3, none⟩) (n - i) c]).run Tryz.prog w = .ok (.tuple #[]) w' ∧ owns w' B (.slice (some ⟨g, 0, none⟩) i cap) (ms.take i) ∧ w.grownBy w' (some g) := by
  have h1 := h.head (i := i) (by omega)
  obtain ⟨hc, _⟩ := h.cap
  exact clear_behind h1 (by rw [List.length_take]; omega) (k := n - i) (by omega) (by omega) ty c (i * 3) rfl

set_option maxHeartbeats 4000000 in
set_option maxRecDepth 100000 in
/-- slices.DeleteFunc with a function value of 1 captures that answers P. -/
theorem del_any1 {Bs c : Nat} {a : Option Addr} {L : List R} {w : World} (hown : owns w Bs (.slice a L.length c) L) (lim : L.length ≤ 1000000) (hBs : Bs ≤ w.heap.size) (P : R → Bool) (f : Nat) (p0 : Value) (hf : ∀ (args : Array Value) (w : World), (callFunc f args).run Tryz.prog w = .ok (.enter f args) w)
    (hP : ∀ (x : R) (w2 : World), Below Bs w w2 → Calls Tryz.prog f #[x.agg, p0] w2 fun e w' => e = .returned (.bool (P x)) ∧ Below w2.heap.size w2 w') :
    Calls Tryz.prog 54 #[.slice a L.length c, .func (.func f) #[] #[p0]] w fun e w' => ∃ a' c', e = .returned (.slice a' (L.filter (fun x => !P x)).length c') ∧ owns w' Bs (.slice a' (L.filter (fun x => !P x)).length c') (L.filter (fun x => !P x)) ∧ Below Bs w w' := by
  obtain ⟨n, hn⟩ : ∃ n, L.length = n := ⟨_, rfl⟩
  have OW := Lib.hid hown
  have HN := Lib.hid hn
  have IX := Lib.hid (idx_any1 hown lim P f p0 hf (fun x w2 b => hP x w2 (b.mono hBs)))
  have WR := Lib.hid (Below.refl Bs w)
  have HP := Lib.hid hP
  rw [hn] at IX ⊢
  rw [hn] at lim
  by_cases hp : L.findIdx P < L.length
  · have hix : idx L P = (L.findIdx P : Nat) := by unfold idx; rw [if_pos hp]
    have D0 := Lib.hid (DF.begin hp)
    rw [hix] at IX
    obtain ⟨k, hk⟩ : ∃ k, L.findIdx P = k := ⟨_, rfl⟩
    rw [hk] at IX D0
    have hkn : k < n := by omega
    have hk1 : (((k : Nat) : Int) == -1) = false := by simp
    clear hown hn hp hix hk hP
    go_enter Tryz.func54, Tryz.ntmps54
    go_wp2_with (go_at_call 66; (with_reducible refine (IX.out).mono ?_); rintro e w2 ⟨rfl, b2⟩; have B2 := Lib.hid b2; clear b2)
    go_loopw [5, 6] (fun x y wr => ∃ (i j : Nat) (ms : List R), x = .int .i64 i ∧ y = .int .i64 j ∧ DF L P j i ms ∧ owns wr Bs (.slice a n c) ms ∧ Below Bs w wr) (fun _ y _ => n - (intOf y).toNat)
    case atStart => exact ⟨k, k + 1, L, rfl, by go_num, D0.out, by rw [← HN.out]; exact OW.out.below B2.out, B2.out.mono hBs⟩
    case round =>
      obtain ⟨i, j, ms, rfl, rfl, hd, ow, bw⟩ := hrel
      have hjn := hd.le
      have hij := hd.lt
      have hml := hd.len
      rw [HN.out] at hjn hml
      have BW := Lib.hid bw
      have hsz := Nat.le_trans hBs bw.size
      by_cases hjl : j < n
      · have hjl' : (j : Int) < n := by omega
        obtain ⟨g, rfl, hg, hg2, m0, m1, m2⟩ := ow.all j (by omega)
        have hx0 := hd.at zero (by rw [HN.out]; exact hjl)
        obtain ⟨x, hx⟩ : ∃ x, L[j]'(by rw [HN.out]; exact hjl) = x := ⟨_, rfl⟩
        rw [hx0, hx] at m0 m1 m2
        obtain ⟨b, hbq⟩ : ∃ b, P x = b := ⟨_, rfl⟩
        have BY : Hid (∀ w2, Below wr.heap.size wr w2 → Calls Tryz.prog f #[x.agg, p0] w2 fun e w' => e = .returned (.bool b) ∧ Below w2.heap.size w2 w') := Lib.hid (fun w2 bb => by
          have h := HP.out x w2 (BW.out.trans (bb.mono hsz))
          rwa [hbq] at h)
        have OW2 := Lib.hid ow
        have DD := Lib.hid hd
        have BA : Hid (Below wr.heap.size wr (wr.alloc x.obj)) := Lib.hid ((Below.refl _ _).alloc (Nat.le_refl _) _)
        unfold R.obj at BA
        unfold R.agg at BY
        clear ow hd bw hx0
        cases b
        · have DK : Hid (DF L P (j + 1) (i + 1) (ms.set i x)) := Lib.hid (by rw [← hx]; exact DD.out.keep (by rw [HN.out]; exact hjl) (by rw [hx]; exact hbq))
          clear hx hbq
          go_wp2_with ((with_reducible refine (BY.out _ BA.out).mono ?_); rintro e w4 ⟨rfl, b4⟩; obtain ⟨⟨y0, y1, y2⟩, yf⟩ := box_later x b4; have B4 := Lib.hid (BA.out.trans (b4.mono BA.out.size)); clear b4; have ow4 := OW2.out.below B4.out; obtain ⟨g', hg', _, _, n0, n1, n2⟩ := ow4.all i (by omega); cases hg'; have kf := ow4.free; have O4 := Lib.hid ow4; clear ow4)
          have b5 : Below Bs w w4 := BW.out.trans (B4.out.mono hsz)
          have o5 := O4.out.put (by omega) i (by omega) x
          have b6 := fun v0 v1 v2 => below_put (o := i * 3) b5 hg v0 v1 v2
          have O5 := Lib.hid o5
          have B6 := Lib.hid b6
          clear o5 b6
          go_roundw
          case rel => exact ⟨i + 1, j + 1, _, by go_num, by go_num, DK.out, O5.out, B6.out _ _ _⟩
          case measure => simp [intOf]; omega
        · have DK : Hid (DF L P (j + 1) i ms) := Lib.hid (DD.out.go (by rw [HN.out]; exact hjl) (by rw [hx]; exact hbq))
          clear hx hbq
          go_wp2_with ((with_reducible refine (BY.out _ BA.out).mono ?_); rintro e w4 ⟨rfl, b4⟩; obtain ⟨⟨y0, y1, y2⟩, yf⟩ := box_later x b4; have B4 := Lib.hid (BA.out.trans (b4.mono BA.out.size)); clear b4; have ow4 := OW2.out.below B4.out; have O4 := Lib.hid ow4; clear ow4)
          go_roundw
          case rel => exact ⟨i, j + 1, ms, rfl, by go_num, DK.out, O4.out, BW.out.trans (B4.out.mono hsz)⟩
          case measure => simp [intOf]; omega
      · have hjl' : ¬ (j : Int) < n := by omega
        obtain rfl : j = n := by omega
        obtain ⟨g, rfl, hg, hg2, m0, m1, m2⟩ := ow.all i (by omega)
        have hcap := ow.cap
        unfold maxLen at hcap
        obtain ⟨w5, hc5, ow5, hg5⟩ := clear_rest ow hml hij 0 (c - i)
        have htk := hd.tk
        rw [List.take_of_length_le (l := L) (by rw [HN.out]; omega)] at htk
        have HL : Hid (ms.take i = L.filter (fun x => !P x)) := Lib.hid htk
        have OW5 := Lib.hid ow5
        have HG5 := Lib.hid hg5
        have hlq : (L.filter (fun x => !P x)).length = i := by rw [← htk, List.length_take]; omega
        clear ow hd bw hg5 ow5 htk
        go_wp2_with fail
        go_ret
        refine ⟨some ⟨g, 0, none⟩, c, by simp only []; rfl, ?_, ?_⟩
        · rw [← HL.out]; exact OW5.out
        · exact BW.out.grown HG5.out (by omega) (fun k hk => by cases hk; exact hg)
  · have hix : idx L P = -1 := by unfold idx; rw [if_neg hp]
    have HF := Lib.hid (filter_none hp)
    rw [hix] at IX
    rw [filter_none hp, HN.out]
    clear hown hn hp hix hP
    go_enter Tryz.func54, Tryz.ntmps54
    go_wp2_with (go_at_call 66; (with_reducible refine (IX.out).mono ?_); rintro e w2 ⟨rfl, b2⟩; have B2 := Lib.hid b2; clear b2)
    go_ret
    exact ⟨a, c, rfl, by rw [← HN.out]; exact OW.out.below B2.out, B2.out.mono hBs⟩

set_option maxHeartbeats 2000000 in
set_option maxRecDepth 100000 in
/-- slices.ContainsFunc. -/
theorem cont_any1 {Bs c : Nat} {a : Option Addr} {L : List R} {w : World} (hown : owns w Bs (.slice a L.length c) L) (lim : L.length ≤ 1000000) (P : R → Bool) (f : Nat) (p0 : Value) (hf : ∀ (args : Array Value) (w : World), (callFunc f args).run Tryz.prog w = .ok (.enter f args) w)
    (hP : ∀ (x : R) (w2 : World), Below w.heap.size w w2 → Calls Tryz.prog f #[x.agg, p0] w2 fun e w' => e = .returned (.bool (P x)) ∧ Below w2.heap.size w2 w') :
    Calls Tryz.prog 52 #[.slice a L.length c, .func (.func f) #[] #[p0]] w fun e w' => e = .returned (.bool (L.any P)) ∧ Below w.heap.size w w' := by
  have IX := Lib.hid (idx_any1 hown lim P f p0 hf hP)
  have HA : Hid (L.any P = decide (0 ≤ idx L P)) := Lib.hid (any_idx L P)
  generalize L.any P = q at *
  by_cases hq : 0 ≤ idx L P
  · have HQ : Hid (q = true) := Lib.hid (by rw [HA.out, decide_eq_true hq])
    generalize idx L P = r at *
    clear hown hP
    go_enter Tryz.func52, Tryz.ntmps52
    go_wp2_with (go_at_call 66; (with_reducible refine (IX.out).mono ?_); rintro e w2 ⟨rfl, b2⟩; have B2 := Lib.hid b2; clear b2)
    go_ret
    exact ⟨ret_bool (by rw [HQ.out]; try first | (simp; omega) | simp), B2.out⟩
  · have HQ : Hid (q = false) := Lib.hid (by rw [HA.out, decide_eq_false hq])
    generalize idx L P = r at *
    clear hown hP
    go_enter Tryz.func52, Tryz.ntmps52
    go_wp2_with (go_at_call 66; (with_reducible refine (IX.out).mono ?_); rintro e w2 ⟨rfl, b2⟩; have B2 := Lib.hid b2; clear b2)
    go_ret
    exact ⟨ret_bool (by rw [HQ.out]; try first | (simp; omega) | simp), B2.out⟩

/-- One more, out of a row of one that lies in the block q. -/
theorem push {w : World} {B q : Nat} {v : Value} {ms : List R} (m : R) (h : owns w B v ms) (hB : B ≤ w.heap.size) (lim : ms.length ≤ 1000000) (hq : w.heap[q]? = some (.cells m.cells.toArray 37)) (ty : TypeId) :
    ∃ a' c' w', (Builtin.append_ #[23, 23] ty #[v, .slice (some ⟨q, 0, none⟩) 1 1]).run Tryz.prog w = .ok (.slice a' (ms ++ [m]).length c') w' ∧ owns w' B (.slice a' (ms ++ [m]).length c') (ms ++ [m]) ∧ w.grownBy w' v.ownBlock := by
  obtain ⟨i0, hi, hz0, hz1, hz2⟩ := info_parts info
  obtain ⟨v', w', ra, ro, rg, _, rat⟩ := run_append_own_at (P := Tryz.prog) w B 23 ty 37 i0 _ 3 32 Tryz.underlying23 hi hz0 hz1 hz2 rfl (by decide) v ms.length (flat ms) h ⟨q, 0, none⟩ 1 1 m.cells rfl
    (fun j u hj => by
      rw [addM, Nat.zero_add, Lib.cell_of_heap hq]
      simpa using hj)
    (cells_one m) (by unfold maxLen; omega) (by omega) hB
  have ho : owns w' B v' (ms ++ [m]) := by
    unfold owns
    rw [List.length_append, flat_append]
    simpa [flat] using ro
  obtain ⟨a', c', rfl, _⟩ := ho.form
  exact ⟨a', c', w', ra, ho, rg⟩
end Go.Proofs.YtkihleecjgoipaaGreatDoor.Ses
