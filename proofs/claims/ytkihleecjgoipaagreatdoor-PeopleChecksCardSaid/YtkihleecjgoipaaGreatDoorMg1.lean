/- Rows of homecoming/api.Person: functions of slices. Written by wip/tools/rowlib.py. -/
import Derived.Test.YtkihleecjgoipaaGreatDoorPer
import Derived.Test.YtkihleecjgoipaaGreatDoorRws
section
namespace Go.Proofs.YtkihleecjgoipaaGreatDoor.Per
open Go.RowKit Go.Maps Go.Proofs.YtkihleecjgoipaaGreatDoorW.PrintWords Go.Proofs.YtkihleecjgoipaaGreatDoor Go.Proofs.YtkihleecjgoipaaGreatDoor.Rw

set_option maxHeartbeats 2000000 in
set_option maxRecDepth 100000 in
theorem clone_any {B : Nat} {ls : List R} {v : Value} {w : World} (hown : owns w B v ls) (lim : ls.length ≤ 1000000) :
    Calls Tryz.prog 51 #[v] w fun e w' => ∃ a' c', e = .returned (.slice a' ls.length c') ∧ owns w' w.heap.size (.slice a' ls.length c') ls ∧ Below w.heap.size w w' := by
  rcases hown.2 with ⟨e1, e2⟩ | ⟨g, cap, cur, e1, r1, r2, r3, r4, r5, r6⟩
  · subst e1
    have hls : ls = [] := List.eq_nil_of_length_eq_zero e2
    subst hls
    have hq := slice_nil 0 0
    go_enter Tryz.func51, Tryz.ntmps51
    go_wp2_with fail
    go_ret
    exact ⟨none, 0, rfl, World.ownsRow_nil _ _ _ _, Below.refl _ _⟩
  · subst e1
    have hq := slice_not_nil ⟨g, 0, none⟩ ls.length cap
    obtain ⟨i0, hi, hz0, hz1, hz2⟩ := info_parts info
    have hlen := flat_len ls
    have hown2 : (w.alloc (.cells #[] 34)).ownsRow B 34 13 (.slice (some ⟨g, 0, none⟩) ls.length cap) ls.length (flat ls) := World.ownsRow.alloc hown _
    have hcs := World.ownsRow.cells hown2 (g := g) rfl
    have hmade : (w.alloc (.cells #[] 34)).ownsRow w.heap.size 34 13 (.slice (some ⟨w.heap.size, 0, none⟩) 0 0) 0 [] := World.ownsRow_made w #[] 0 (Nat.le_refl _) (Nat.zero_le _) rfl
    obtain ⟨v', w', ra, ro, rg, _, rat⟩ := run_append_own_at (P := Tryz.prog) (w.alloc (.cells #[] 34)) w.heap.size 22 22 34 i0 _ 13 168 Tryz.underlying22 hi hz0 hz1 hz2 rfl (by decide) (.slice (some ⟨w.heap.size, 0, none⟩) 0 0) 0 [] hmade ⟨g, 0, none⟩ ls.length cap (flat ls) hlen hcs (flat_one ls) (by unfold maxLen; omega) (by omega) (by simp)
    have hf : ∃ a' c', v' = .slice a' ls.length c' := by
      rcases ro.2 with ⟨e1, e2⟩ | ⟨g', cap', cur', e1, r⟩
      · exact ⟨none, 0, by rw [e1]; congr 1; omega⟩
      · exact ⟨_, cap', by rw [e1]; congr 1; omega⟩
    obtain ⟨a', c', rfl⟩ := hf
    have fin : owns w' w.heap.size (.slice a' ls.length c') ls ∧ Below w.heap.size w w' := by
      refine ⟨by unfold owns; simpa using ro, ?_⟩
      have s1 := rg.size
      simp at s1
      refine ⟨rg.os, rg.tape, rg.output, by omega, fun k hk => ?_⟩
      rw [rg.block k (by simp; omega) (by simp [Value.ownBlock]; omega)]
      exact Lib.alloc_old w _ k hk
    clear hown hown2 hcs hmade ro rg rat r1 r2 r3 r4 r5 r6 hlen
    have RA := Lib.hid ra
    clear ra
    go_enter Tryz.func51, Tryz.ntmps51
    go_wp2_with (at_builtin; refine Lib.wpList_append_run _ rfl _ _ _ _ rfl _ _ rfl rfl _ _ RA.out ?_)
    go_ret
    exact ⟨a', c', rfl, fin⟩

set_option maxHeartbeats 2000000 in
set_option maxRecDepth 100000 in
/-- slices.IndexFunc with a function value of 1 captures that answers P. -/
theorem idx_any1 {Bs c : Nat} {a : Option Addr} {L : List R} {w : World} (hown : owns w Bs (.slice a L.length c) L) (lim : L.length ≤ 1000000) (P : R → Bool) (f : Nat) (p0 : Value) (hf : ∀ (args : Array Value) (w : World), (callFunc f args).run Tryz.prog w = .ok (.enter f args) w)
    (hP : ∀ (x : R) (w2 : World), Below w.heap.size w w2 → Calls Tryz.prog f #[x.agg, p0] w2 fun e w' => e = .returned (.bool (P x)) ∧ Below w2.heap.size w2 w') :
    Calls Tryz.prog 24 #[.slice a L.length c, .func (.func f) #[] #[p0]] w fun e w' => e = .returned (.int .i64 (idx L P)) ∧ Below w.heap.size w w' := by
  obtain ⟨n, hn⟩ : ∃ n, L.length = n := ⟨_, rfl⟩
  have OW := Lib.hid hown
  have HN := Lib.hid hn
  rw [hn]
  rw [hn] at lim
  obtain ⟨r, hr⟩ : ∃ r, idx L P = r := ⟨_, rfl⟩
  have HR := Lib.hid hr
  rw [hr]
  have HP := Lib.hid hP
  clear hown hn hr hP
  go_enter Tryz.func24, Tryz.ntmps24
  go_wp2_with fail
  go_loopw [8] (fun i wr => ∃ k : Nat, k ≤ n ∧ i = .int .i64 k ∧ (∀ j, j < k → P (L[j]?.getD zero) = false) ∧ Below w.heap.size w wr) (fun i _ => n - (intOf i).toNat)
  case atStart => exact ⟨0, Nat.zero_le _, rfl, by simp, Below.refl _ _⟩
  case round =>
    obtain ⟨k, hk, rfl, hno, hb⟩ := hrel
    have HO := Lib.hid hno
    have WB := Lib.hid hb
    by_cases hkn : k < n
    · have hkn' : (k : Int) < n := by omega
      obtain ⟨g, rfl, _, _, m0, m1, m2, m3, m4, m5, m6, m7, m8, m9, m10, m11, m12⟩ := (OW.out.below hb).all k (by rw [HN.out]; exact hkn)
      obtain ⟨x, hx⟩ : ∃ x, L[k]?.getD zero = x := ⟨_, rfl⟩
      rw [hx] at m0 m1 m2 m3 m4 m5 m6 m7 m8 m9 m10 m11 m12
      have BY := HP.out x wr hb
      unfold R.agg at BY
      have HX := Lib.hid hx
      obtain ⟨b, hbq⟩ : ∃ b, P x = b := ⟨_, rfl⟩
      rw [hbq] at BY
      have BY := Lib.hid BY
      have HQ := Lib.hid hbq
      clear hno hb hx hbq
      cases b
      · go_wp2_with ((with_reducible refine (BY.out).mono ?_); rintro e w2 ⟨rfl, b2⟩; have B2 := Lib.hid (WB.out.trans (b2.mono WB.out.size)); clear b2)
        go_roundw
        case rel => exact ⟨k + 1, by omega, by go_num, fun j hj => by
          rcases Nat.lt_or_ge j k with e | e
          · exact HO.out j e
          · obtain rfl : j = k := by omega
            rw [HX.out]
            exact HQ.out, B2.out⟩
        case measure => simp [intOf]; omega
      · have hp : r = (k : Int) := by
          rw [← HR.out, idx, pos_hit (d := zero) (by rw [HN.out]; exact hkn) HO.out (by rw [HX.out]; exact HQ.out), if_pos (by rw [HN.out]; exact hkn)]
        have HPP := Lib.hid hp
        clear hp
        go_wp2_with ((with_reducible refine (BY.out).mono ?_); rintro e w2 ⟨rfl, b2⟩; have B2 := Lib.hid (WB.out.trans (b2.mono WB.out.size)); clear b2)
        go_ret
        exact ⟨ret_int HPP.out.symm, B2.out⟩
    · have hkn' : ¬ ((k : Int) < n) := by omega
      obtain rfl : k = n := by omega
      have hp : r = -1 := by
        rw [← HR.out, idx, pos_none (d := zero) (fun j hj => HO.out j (by rw [← HN.out]; exact hj)), if_neg (by omega)]
      have HPP := Lib.hid hp
      clear hno hb hp
      go_wp2_with fail
      go_ret
      exact ⟨ret_int HPP.out.symm, WB.out⟩

/-- One more, out of a row of one that lies in the block q. -/
theorem push {w : World} {B q : Nat} {v : Value} {ms : List R} (m : R) (h : owns w B v ms) (hB : B ≤ w.heap.size) (lim : ms.length ≤ 1000000) (hq : w.heap[q]? = some (.cells m.cells.toArray 34)) (ty : TypeId) :
    ∃ a' c' w', (Builtin.append_ #[22, 22] ty #[v, .slice (some ⟨q, 0, none⟩) 1 1]).run Tryz.prog w = .ok (.slice a' (ms ++ [m]).length c') w' ∧ owns w' B (.slice a' (ms ++ [m]).length c') (ms ++ [m]) ∧ w.grownBy w' v.ownBlock := by
  obtain ⟨i0, hi, hz0, hz1, hz2⟩ := info_parts info
  obtain ⟨v', w', ra, ro, rg, _, rat⟩ := run_append_own_at (P := Tryz.prog) w B 22 ty 34 i0 _ 13 168 Tryz.underlying22 hi hz0 hz1 hz2 rfl (by decide) v ms.length (flat ms) h ⟨q, 0, none⟩ 1 1 m.cells rfl
    (fun j u hj => by
      rw [addM, Nat.zero_add, Lib.cell_of_heap hq]
      simpa using hj)
    (cells_one m) (by unfold maxLen; omega) (by omega) hB
  have ho : owns w' B v' (ms ++ [m]) := by
    unfold owns
    rw [List.length_append, flat_append]
    simpa [flat] using ro
  obtain ⟨a', c', rfl, _⟩ := ho.form
  exact ⟨a', c', w', ra, ho, rg⟩
end Go.Proofs.YtkihleecjgoipaaGreatDoor.Per
end
/- Rows of homecoming/api.Session: what they hold; slices.Clone; one put anew. Written by wip/tools/rowlib.py. -/
section
namespace Go.Proofs.YtkihleecjgoipaaGreatDoor.Ses
open Go.RowKit Go.Maps Go.Proofs.YtkihleecjgoipaaGreatDoorW.PrintWords Go.Proofs.YtkihleecjgoipaaGreatDoor Go.Proofs.YtkihleecjgoipaaGreatDoor.Rw

structure R where
  dig : ByteArray
  acc : Int
  exp : Int
def R.cells (l : R) : List Value := [.string l.dig, .int .i64 l.acc, .int .i64 l.exp]
def R.agg (l : R) : Value := .agg #[.string l.dig, .int .i64 l.acc, .int .i64 l.exp]
def R.obj (l : R) : Obj := .cells #[.string l.dig, .int .i64 l.acc, .int .i64 l.exp] 37
def zero : R := ⟨⟨#[]⟩, 0, 0⟩
def flat (ls : List R) : List Value := ls.flatMap R.cells
theorem flat_nil : flat [] = [] := rfl
theorem flat_cons (l : R) (ls : List R) : flat (l :: ls) = l.cells ++ flat ls := by simp [flat]
theorem flat_append (a b : List R) : flat (a ++ b) = flat a ++ flat b := by simp [flat]
theorem flat_len : ∀ ls : List R, (flat ls).length = ls.length * 3
  | [] => rfl
  | l :: ls => by rw [flat_cons, List.length_append, flat_len ls]; simp [R.cells]; omega
theorem flat_drop : ∀ (k : Nat) (ls : List R), (flat ls).drop (k * 3) = flat (ls.drop k)
  | 0, ls => by simp
  | k + 1, [] => by simp [flat_nil]
  | k + 1, l :: ls => by
    rw [flat_cons, List.drop_succ_cons, ← flat_drop k ls, show (k + 1) * 3 = l.cells.length + k * 3 by simp [R.cells]; omega, List.drop_append, Nat.add_sub_cancel_left, List.drop_eq_nil_of_le (Nat.le_add_right _ _), List.nil_append]
theorem flat_take : ∀ (k : Nat) (ls : List R), (flat ls).take (k * 3) = flat (ls.take k)
  | 0, ls => by simp [flat_nil]
  | k + 1, [] => by simp [flat_nil]
  | k + 1, l :: ls => by
    rw [flat_cons, List.take_succ_cons, flat_cons, ← flat_take k ls, show (k + 1) * 3 = l.cells.length + k * 3 by simp [R.cells]; omega, List.take_append, Nat.add_sub_cancel_left, List.take_of_length_le (Nat.le_add_right _ _)]
theorem flat_at : ∀ (i j : Nat) (ls : List R) (l : R), ls[i]? = some l → j < 3 → (flat ls)[i * 3 + j]? = l.cells[j]?
  | 0, j, [], l, h, _ => by simp at h
  | 0, j, l' :: ls, l, h, hj => by
    simp at h
    subst h
    rw [flat_cons, List.getElem?_append_left (by simp [R.cells]; omega)]
    simp
  | i + 1, j, [], l, h, _ => by simp at h
  | i + 1, j, l' :: ls, l, h, hj => by
    rw [flat_cons, List.getElem?_append_right (by simp [R.cells]; omega)]
    rw [show (i + 1) * 3 + j - l'.cells.length = i * 3 + j by simp [R.cells]; omega]
    exact flat_at i j ls l (by simpa using h) hj
theorem cells_one (l : R) : ∀ u ∈ l.cells, u.oneCell' = true := by
  intro u hl
  simp [R.cells] at hl
  rcases hl with rfl | rfl | rfl <;> rfl
theorem flat_one (ls : List R) : ∀ u ∈ flat ls, u.oneCell' = true := by
  intro u hu
  obtain ⟨l, _, hl⟩ := List.mem_flatMap.1 hu
  exact cells_one l u hl

/-- The row lies in what the slice v owns, from block B on. -/
def owns (w : World) (B : Nat) (v : Value) (ms : List R) : Prop := w.ownsRow B 37 3 v ms.length (flat ms)
theorem owns.nil (w : World) (B : Nat) : owns w B (.slice none 0 0) [] := World.ownsRow_nil _ _ _ _
theorem owns.below {w w' : World} {B : Nat} {v : Value} {ms : List R} (h : owns w B v ms) (b : Below w.heap.size w w') : owns w' B v ms := by
  have hg : w.grownBy w' none := ⟨b.os, b.tape, b.output, b.size, fun k hk _ => b.block k hk⟩
  refine World.ownsRow.kept h hg ?_
  cases hb : v.ownBlock with
  | none => exact .inl rfl
  | some g => exact .inr (by simp)
theorem owns.mono {w : World} {B B' : Nat} {v : Value} {ms : List R} (h : owns w B v ms) (hB : B' ≤ B) : owns w B' v ms := by
  refine ⟨h.1, ?_⟩
  rcases h.2 with x | ⟨g, cap, cur, e1, r1, r⟩
  · exact .inl x
  · exact .inr ⟨g, cap, cur, e1, Nat.le_trans hB r1, r⟩
theorem owns.form {w : World} {B : Nat} {v : Value} {ms : List R} (h : owns w B v ms) : ∃ a c, v = .slice a ms.length c ∧ ms.length ≤ c ∧ c ≤ 9223372036854775807 := by
  rcases h.2 with ⟨e1, e2⟩ | ⟨g, cap, cur, e1, r⟩
  · exact ⟨none, 0, by rw [e1, e2], by omega, by omega⟩
  · exact ⟨some ⟨g, 0, none⟩, cap, e1, r.2.2.1, by have := r.2.2.2.1; unfold maxLen at this; exact this⟩
theorem owns.at {w : World} {B c : Nat} {a : Option Addr} {n : Nat} {ms : List R} (h : owns w B (.slice a n c) ms) : ∀ j, j < ms.length → ∃ g, a = some ⟨g, 0, none⟩ ∧ B ≤ g ∧ g < w.heap.size ∧ ∀ i v, (ms[j]?.getD zero).cells[i]? = some v → w.cell? ⟨g, j * 3 + i, none⟩ = some v := fun j hj => by
  rcases h.2 with ⟨e1, e2⟩ | ⟨g, cap, cur, e1, r⟩
  · omega
  · cases e1
    have hg1 : ms[j]? = some ms[j] := List.getElem?_eq_getElem hj
    have hlt := (World.ownsRow.lt h g rfl)
    refine ⟨g, rfl, hlt.1, hlt.2, fun i v hv => ?_⟩
    rw [hg1] at hv
    have hi : i < 3 := by
      rcases Nat.lt_or_ge i 3 with x | x
      · exact x
      · rw [List.getElem?_eq_none (by simp [R.cells]; omega)] at hv
        cases hv
    have e1 := World.ownsRow.cells h (g := g) rfl (j * 3 + i) v (by rw [flat_at j i ms ms[j] hg1 hi]; exact hv)
    rwa [addM, Nat.zero_add] at e1
theorem owns.all {w : World} {B c : Nat} {a : Option Addr} {n : Nat} {ms : List R} (h : owns w B (.slice a n c) ms) (j : Nat) (hj : j < ms.length) : ∃ g, a = some ⟨g, 0, none⟩ ∧ B ≤ g ∧ g < w.heap.size ∧ w.cell? ⟨g, j * 3, none⟩ = some (.string (ms[j]?.getD zero).dig) ∧ w.cell? ⟨g, j * 3 + 1, none⟩ = some (.int .i64 (ms[j]?.getD zero).acc) ∧ w.cell? ⟨g, j * 3 + 2, none⟩ = some (.int .i64 (ms[j]?.getD zero).exp) := by
  obtain ⟨g, e1, e2, e3, e4⟩ := h.at j hj
  exact ⟨g, e1, e2, e3, e4 0 _ rfl, e4 1 _ rfl, e4 2 _ rfl⟩
theorem owns.apart {w : World} {B b k : Nat} {v : Value} {ms : List R} (h : owns w B v ms) (hb : b < B) (x : Value) : owns (w.setCell ⟨b, k, none⟩ x) B v ms :=
  ownsRow_setCell_other h (fun e => by have := (World.ownsRow.lt h b e).1; omega) x
theorem owns.apartT {w : World} {B b : Nat} {v : Value} {ms : List R} {cs : Array Value} {T : TypeId} (h : owns w B v ms) (hb : w.heap[b]? = some (.cells cs T)) (ne : T ≠ 37) (k1 k2 : Nat) (x1 x2 : Value) : owns ((w.setCell ⟨b, k1, none⟩ x1).setCell ⟨b, k2, none⟩ x2) B v ms := by
  have e : v.ownBlock ≠ some b := fun e => by
    rcases h.2 with ⟨e1, _⟩ | ⟨g, cap, cur, e1, r1, r2, _⟩
    · rw [e1] at e
      cases e
    · rw [e1] at e
      simp only [Value.ownBlock, Option.some.injEq] at e
      subst e
      rw [r2] at hb
      injection hb with hb
      injection hb with _ hb
      exact ne hb.symm
  exact ownsRow_setCell_other (ownsRow_setCell_other h e x1) e x2
theorem owns.free {w : World} {B c g : Nat} {n : Nat} {ms : List R} (h : owns w B (.slice (some ⟨g, 0, none⟩) n c) ms) (j : Nat) : w.frozen? ⟨g, j, none⟩ = false := by
  rcases h.2 with ⟨e1, e2⟩ | ⟨g', cap, cur, e1, r1, r2, r⟩
  · cases e1
  · cases e1
    simp [World.frozen?, r2]
theorem owns.cap {w : World} {B n cap g : Nat} {ms : List R} (h : owns w B (.slice (some ⟨g, 0, none⟩) n cap) ms) : n ≤ cap ∧ cap ≤ maxLen := by
  rcases h.2 with ⟨e1, _⟩ | ⟨g', cap', cur, e1, r1, r2, r3, r4, r5, r6⟩
  · simp at e1
  · simp only [Value.slice.injEq, Option.some.injEq, Addr.mk.injEq, and_true] at e1
    obtain ⟨_, _, rfl⟩ := e1
    exact ⟨by omega, r4⟩
theorem owns.head {w : World} {B n cap g i : Nat} {ms : List R} (h : owns w B (.slice (some ⟨g, 0, none⟩) n cap) ms) (hi : i ≤ ms.length) : owns w B (.slice (some ⟨g, 0, none⟩) i cap) (ms.take i) := by
  have hl := h.1
  refine ⟨flat_len _, ?_⟩
  rcases h.2 with ⟨h1, _⟩ | ⟨g', cap', cur, h1, r1, r2, r3, r4, r5, r6⟩
  · simp at h1
  · simp only [Value.slice.injEq, Option.some.injEq, Addr.mk.injEq, and_true] at h1
    obtain ⟨rfl, _, rfl⟩ := h1
    refine .inr ⟨g, cap, cur, by rw [List.length_take, Nat.min_eq_left hi], r1, r2, by rw [List.length_take]; omega, r4, r5, ?_⟩
    rw [List.length_take, Nat.min_eq_left hi, ← flat_take, ← r6, List.take_take]
    congr 1
    have : i * 3 ≤ ms.length * 3 := Nat.mul_le_mul_right _ hi
    omega

theorem box (w : World) (m : R) : (w.alloc m.obj).cell? ⟨w.heap.size, 0, none⟩ = some (.string m.dig) ∧ (w.alloc m.obj).cell? ⟨w.heap.size, 1, none⟩ = some (.int .i64 m.acc) ∧ (w.alloc m.obj).cell? ⟨w.heap.size, 2, none⟩ = some (.int .i64 m.exp) := by
  refine ⟨?_, ?_, ?_⟩ <;> rw [Lib.cell_of_heap (heap_new w m.obj)] <;> rfl
theorem box_free (w : World) (m : R) (j : Nat) : (w.alloc m.obj).frozen? ⟨w.heap.size, j, none⟩ = false := by
  simp only [World.frozen?, heap_new w m.obj]
  simp [R.obj]
theorem box_later {w w2 : World} (m : R) (b : Below (w.alloc m.obj).heap.size (w.alloc m.obj) w2) : (w2.cell? ⟨w.heap.size, 0, none⟩ = some (.string m.dig) ∧ w2.cell? ⟨w.heap.size, 1, none⟩ = some (.int .i64 m.acc) ∧ w2.cell? ⟨w.heap.size, 2, none⟩ = some (.int .i64 m.exp)) ∧ ∀ j, w2.frozen? ⟨w.heap.size, j, none⟩ = false := by
  have hl : w.heap.size < (w.alloc m.obj).heap.size := by simp
  obtain ⟨z0, z1, z2⟩ := box w m
  exact ⟨⟨(b.cell (p := ⟨w.heap.size, 0, none⟩) hl).trans z0, (b.cell (p := ⟨w.heap.size, 1, none⟩) hl).trans z1, (b.cell (p := ⟨w.heap.size, 2, none⟩) hl).trans z2⟩, fun j => (b.frozen (p := ⟨w.heap.size, j, none⟩) hl).trans (box_free w m j)⟩

/-- The block g begins with the cells of m. -/
def At (w2 : World) (g : Nat) (m : R) : Prop := w2.cell? ⟨g, 0, none⟩ = some (.string m.dig) ∧ w2.cell? ⟨g, 1, none⟩ = some (.int .i64 m.acc) ∧ w2.cell? ⟨g, 2, none⟩ = some (.int .i64 m.exp)
theorem At.of_heap {w2 : World} {g : Nat} {m : R} (h : w2.heap[g]? = some m.obj) : At w2 g m := by
  refine ⟨?_, ?_, ?_⟩ <;> rw [Lib.cell_of_heap h] <;> rfl
theorem At.below {w w2 : World} {g B : Nat} {m : R} (h : At w g m) (b : Below B w w2) (hl : g < B) : At w2 g m := by
  obtain ⟨z0, z1, z2⟩ := h
  exact ⟨(b.cell (p := ⟨g, 0, none⟩) hl).trans z0, (b.cell (p := ⟨g, 1, none⟩) hl).trans z1, (b.cell (p := ⟨g, 2, none⟩) hl).trans z2⟩
theorem At.set {w : World} {g b k : Nat} {m : R} (h : At w g m) (hb : b ≠ g) (v : Value) : At (w.setCell ⟨b, k, none⟩ v) g m := by
  obtain ⟨z0, z1, z2⟩ := h
  exact ⟨(cell_far hb).trans z0, (cell_far hb).trans z1, (cell_far hb).trans z2⟩
theorem set_flat : ∀ (ms : List R) (i : Nat) (m : R), i < ms.length → (((flat ms).set (i * 3) (.string m.dig)).set (i * 3 + 1) (.int .i64 m.acc)).set (i * 3 + 2) (.int .i64 m.exp) = flat (ms.set i m)
  | [], i, m, h => by simp at h
  | x :: ms, 0, m, h => by
    simp only [List.set_cons_zero, flat_cons, R.cells, Nat.zero_mul, Nat.zero_add, List.cons_append, List.nil_append, List.set_cons_succ]
  | x :: ms, i + 1, m, h => by
    have ih := set_flat ms i m (by simpa using h)
    rw [List.set_cons_succ, flat_cons, flat_cons, ← ih]
    have hl : x.cells.length = 3 := rfl
    rw [List.set_append_right _ _ (by omega), List.set_append_right _ _ (by omega), List.set_append_right _ _ (by omega)]
    rw [hl, show (i + 1) * 3 - 3 = i * 3 by omega, show (i + 1) * 3 + 1 - 3 = i * 3 + 1 by omega, show (i + 1) * 3 + 2 - 3 = i * 3 + 2 by omega]
theorem owns.put {w : World} {B c g n : Nat} {ms : List R} (h : owns w B (.slice (some ⟨g, 0, none⟩) n c) ms) (hn : ms.length = n) (i : Nat) (hi : i < ms.length) (x : R) :
    owns ((((w).setCell ⟨g, i * 3, none⟩ (.string x.dig)).setCell ⟨g, i * 3 + 1, none⟩ (.int .i64 x.acc)).setCell ⟨g, i * 3 + 2, none⟩ (.int .i64 x.exp)) B (.slice (some ⟨g, 0, none⟩) n c) (ms.set i x) := by
  unfold owns
  rw [List.length_set, ← set_flat ms i x hi]
  subst hn
  have hl := flat_len ms
  unfold owns at h
  have k : ∀ j, j < 3 → i * 3 + j < ms.length * 3 := fun j hj => by omega
  have h0 := ownsRow_put h (k := i * 3) (by rw [hl]; exact k 0 (by omega)) (.string x.dig)
  have h1 := ownsRow_put h0 (k := i * 3 + 1) (by simp only [List.length_set, hl]; exact k 1 (by omega)) (.int .i64 x.acc)
  exact ownsRow_put h1 (k := i * 3 + 2) (by simp only [List.length_set, hl]; exact k 2 (by omega)) (.int .i64 x.exp)
theorem set1_flat : ∀ (ms : List R) (i k : Nat) (v : Value) (y : R), i < ms.length → k < 3 → y.cells = (ms[i]?.getD zero).cells.set k v → (flat ms).set (i * 3 + k) v = flat (ms.set i y)
  | [], i, k, v, y, h, _, _ => by simp at h
  | x :: ms, 0, k, v, y, h, hk, hy => by
    simp only [List.getElem?_cons_zero, Option.getD_some] at hy
    rw [List.set_cons_zero, flat_cons, flat_cons, hy, Nat.zero_mul, Nat.zero_add, List.set_append_left _ _ (by simp [R.cells]; omega)]
  | x :: ms, i + 1, k, v, y, h, hk, hy => by
    have ih := set1_flat ms i k v y (by simpa using h) hk (by simpa using hy)
    have hl : x.cells.length = 3 := rfl
    rw [List.set_cons_succ, flat_cons, flat_cons, ← ih, List.set_append_right _ _ (by omega)]
    rw [hl, show (i + 1) * 3 + k - 3 = i * 3 + k by omega]
theorem owns.put1 {w : World} {B c g n : Nat} {ms : List R} (h : owns w B (.slice (some ⟨g, 0, none⟩) n c) ms) (i k : Nat) (hi : i < ms.length) (hk : k < 3) (v : Value) (y : R) (hy : y.cells = (ms[i]?.getD zero).cells.set k v) :
    owns (w.setCell ⟨g, i * 3 + k, none⟩ v) B (.slice (some ⟨g, 0, none⟩) n c) (ms.set i y) := by
  have hn : n = ms.length := by
    rcases h.2 with ⟨e1, _⟩ | ⟨g', cap', cur, e1, r⟩
    · simp at e1
    · simp only [Value.slice.injEq] at e1
      exact e1.2.1
  subst hn
  unfold owns
  rw [List.length_set, ← set1_flat ms i k v y hi hk hy]
  exact ownsRow_put h (by rw [flat_len]; have := Nat.mul_le_mul_right 3 (show i + 1 ≤ ms.length from hi); omega) v
theorem set_at (ms : List R) (i : Nat) (y : R) (hi : i < ms.length) : (ms.set i y)[i]?.getD zero = y := by
  rw [List.getElem?_eq_getElem (by simpa using hi)]
  simp
theorem below_put {B g o : Nat} {w W : World} (b : Below B w W) (hg : B ≤ g) (v0 v1 v2 : Value) : Below B w ((((W).setCell ⟨g, o, none⟩ v0).setCell ⟨g, o + 1, none⟩ v1).setCell ⟨g, o + 2, none⟩ v2) :=
  (((b).setCell hg _).setCell hg _).setCell hg _

theorem info : (Tryz.prog.info? 37).map (fun i => (i.zero, i.size, i.bytes)) = some (some (.agg #[.string ⟨#[]⟩, .int .i64 0, .int .i64 0]), 3, 32) := by kernel_rfl
theorem slice_not_nil (a : Addr) (n c : Nat) (w : World) : (binOp .eql 23 (.slice (some a) n c) (.slice none 0 0)).run Tryz.prog w = .ok (.bool false) w := by kernel_rfl
theorem slice_nil (n c : Nat) (w : World) : (binOp .eql 23 (.slice none n c) (.slice none 0 0)).run Tryz.prog w = .ok (.bool true) w := by kernel_rfl
end Go.Proofs.YtkihleecjgoipaaGreatDoor.Ses
end
