/- people.Contact, Locked, Contacts. Written by wip/tools/mktla.py. -/
import Derived.Test.YtkihleecjgoipaaDoorStaA
import Derived.Test.YtkihleecjgoipaaDoorR16C
namespace Go.Proofs.YtkihleecjgoipaaDoor
open Go.RowKit Go.Maps Go.Proofs.YtkihleecjgoipaaDoor.Rw

set_option maxHeartbeats 4000000 in
set_option maxRecDepth 100000 in
theorem toldc_any {B : Nat} {v : Value} {p : Ppl} {w : World} (hown : pown w B v p) (lim : few p) (id : Int) (m : ByteArray) :
    Calls Tryd.prog 17 #[v, .int .i64 id, .string m] w fun e w' => e = .returned (.bool (p.ps.any (fun x => decide (x.id = id)) && hasB (pick p.ps (fun x => decide (x.id = id))) m)) ∧ Below w.heap.size w w' := by
  have hown0 := hown
  obtain ⟨a, c, a', c', rfl, o1, o2⟩ := hown
  have b1 : Below w.heap.size w (w.alloc (pobj (.slice a p.ps.length c) (.slice a' p.ss.length c'))) := (Below.refl _ _).alloc (Nat.le_refl _) _
  obtain ⟨x0, x1⟩ := pbox w (.slice a p.ps.length c) (.slice a' p.ss.length c')
  have FD := Lib.hid (find_any (hown0.below b1) lim id)
  have HB := Lib.hid b1
  have SB : Hid (w.heap.size + 1 = (w.alloc (pobj (.slice a p.ps.length c) (.slice a' p.ss.length c'))).heap.size) := Lib.hid (by simp)
  generalize pick p.ps (fun x => decide (x.id = id)) = y at *
  generalize p.ps.any (fun x => decide (x.id = id)) = q at *
  clear hown0 o1 o2 b1 lim
  have HA := Lib.hid (fun w2 => has_any y m w2)
  generalize hasB y m = h at *
  obtain ⟨yid, ymail, yver, ysalt, ychk, yvers, ymiss, ylock, yc0, yc1, yc2, yc3, yc4⟩ := y
  unfold pobj Per.R.agg at *
  simp only at *
  cases q
  · go_enter Tryd.func17, Tryd.ntmps17
    go_wp2_with (go_at_call 12; (refine (FD.out).mono ?_); rintro z w2 ⟨rfl, b2⟩; have B2 := Lib.hid ((HB.out.trans (b2.mono HB.out.size)).alloc (by have := b2.size; have := SB.out; omega) (.cells #[.int .i64 yid, .string ymail, .bool yver, .string ysalt, .string ychk, .int .i64 yvers, .int .i64 ymiss, .int .i64 ylock, .string yc0, .string yc1, .string yc2, .string yc3, .string yc4] 38)); have HY := Lib.hid (heap_new w2 (.cells #[.int .i64 yid, .string ymail, .bool yver, .string ysalt, .string ychk, .int .i64 yvers, .int .i64 ymiss, .int .i64 ylock, .string yc0, .string yc1, .string yc2, .string yc3, .string yc4] 38)); obtain ⟨d0, d1, d2, d3, d4, d5, d6, d7, d8, d9, d10, d11, d12⟩ := Per.At.of_heap (m := ⟨yid, ymail, yver, ysalt, ychk, yvers, ymiss, ylock, yc0, yc1, yc2, yc3, yc4⟩) HY.out; simp only at d0 d1 d2 d3 d4 d5 d6 d7 d8 d9 d10 d11 d12; clear b2)
    go_ret
    exact ⟨rfl, B2.out⟩
  · go_enter Tryd.func17, Tryd.ntmps17
    go_wp2_with (first
      | (go_at_call 12; (refine (FD.out).mono ?_); rintro z w2 ⟨rfl, b2⟩; have B2 := Lib.hid ((HB.out.trans (b2.mono HB.out.size)).alloc (by have := b2.size; have := SB.out; omega) (.cells #[.int .i64 yid, .string ymail, .bool yver, .string ysalt, .string ychk, .int .i64 yvers, .int .i64 ymiss, .int .i64 ylock, .string yc0, .string yc1, .string yc2, .string yc3, .string yc4] 38)); have HY := Lib.hid (heap_new w2 (.cells #[.int .i64 yid, .string ymail, .bool yver, .string ysalt, .string ychk, .int .i64 yvers, .int .i64 ymiss, .int .i64 ylock, .string yc0, .string yc1, .string yc2, .string yc3, .string yc4] 38)); obtain ⟨d0, d1, d2, d3, d4, d5, d6, d7, d8, d9, d10, d11, d12⟩ := Per.At.of_heap (m := ⟨yid, ymail, yver, ysalt, ychk, yvers, ymiss, ylock, yc0, yc1, yc2, yc3, yc4⟩) HY.out; simp only at d0 d1 d2 d3 d4 d5 d6 d7 d8 d9 d10 d11 d12; clear b2)
      | (go_at_call 36; (with_reducible refine (HA.out _).mono ?_); rintro z w3 ⟨rfl, b3⟩; have B3 := Lib.hid (B2.out.trans (b3.mono B2.out.size)); clear b3))
    go_ret
    exact ⟨rfl, B3.out⟩
set_option maxHeartbeats 4000000 in
set_option maxRecDepth 100000 in
theorem locked_any {B : Nat} {v : Value} {p : Ppl} {w : World} (hown : pown w B v p) (lim : few p) (id now : Int) :
    Calls Tryd.prog 18 #[v, .int .i64 id, .int .i64 now] w fun e w' => e = .returned (.bool (p.ps.any (fun x => decide (x.id = id)) && decide (now < (pick p.ps (fun x => decide (x.id = id))).lock))) ∧ Below w.heap.size w w' := by
  have hown0 := hown
  obtain ⟨a, c, a', c', rfl, o1, o2⟩ := hown
  have b1 : Below w.heap.size w (w.alloc (pobj (.slice a p.ps.length c) (.slice a' p.ss.length c'))) := (Below.refl _ _).alloc (Nat.le_refl _) _
  obtain ⟨x0, x1⟩ := pbox w (.slice a p.ps.length c) (.slice a' p.ss.length c')
  have FD := Lib.hid (find_any (hown0.below b1) lim id)
  have HB := Lib.hid b1
  have SB : Hid (w.heap.size + 1 = (w.alloc (pobj (.slice a p.ps.length c) (.slice a' p.ss.length c'))).heap.size) := Lib.hid (by simp)
  generalize pick p.ps (fun x => decide (x.id = id)) = y at *
  generalize p.ps.any (fun x => decide (x.id = id)) = q at *
  clear hown0 o1 o2 b1 lim
  obtain ⟨yid, ymail, yver, ysalt, ychk, yvers, ymiss, ylock, yc0, yc1, yc2, yc3, yc4⟩ := y
  unfold pobj Per.R.agg at *
  simp only at *
  cases q
  · go_enter Tryd.func18, Tryd.ntmps18
    go_wp2_with (go_at_call 12; (refine (FD.out).mono ?_); rintro z w2 ⟨rfl, b2⟩; have B2 := Lib.hid ((HB.out.trans (b2.mono HB.out.size)).alloc (by have := b2.size; have := SB.out; omega) (.cells #[.int .i64 yid, .string ymail, .bool yver, .string ysalt, .string ychk, .int .i64 yvers, .int .i64 ymiss, .int .i64 ylock, .string yc0, .string yc1, .string yc2, .string yc3, .string yc4] 38)); have HY := Lib.hid (heap_new w2 (.cells #[.int .i64 yid, .string ymail, .bool yver, .string ysalt, .string ychk, .int .i64 yvers, .int .i64 ymiss, .int .i64 ylock, .string yc0, .string yc1, .string yc2, .string yc3, .string yc4] 38)); obtain ⟨d0, d1, d2, d3, d4, d5, d6, d7, d8, d9, d10, d11, d12⟩ := Per.At.of_heap (m := ⟨yid, ymail, yver, ysalt, ychk, yvers, ymiss, ylock, yc0, yc1, yc2, yc3, yc4⟩) HY.out; simp only at d0 d1 d2 d3 d4 d5 d6 d7 d8 d9 d10 d11 d12; clear b2)
    go_ret
    exact ⟨rfl, B2.out⟩
  · go_enter Tryd.func18, Tryd.ntmps18
    go_wp2_with (go_at_call 12; (refine (FD.out).mono ?_); rintro z w2 ⟨rfl, b2⟩; have B2 := Lib.hid ((HB.out.trans (b2.mono HB.out.size)).alloc (by have := b2.size; have := SB.out; omega) (.cells #[.int .i64 yid, .string ymail, .bool yver, .string ysalt, .string ychk, .int .i64 yvers, .int .i64 ymiss, .int .i64 ylock, .string yc0, .string yc1, .string yc2, .string yc3, .string yc4] 38)); have HY := Lib.hid (heap_new w2 (.cells #[.int .i64 yid, .string ymail, .bool yver, .string ysalt, .string ychk, .int .i64 yvers, .int .i64 ymiss, .int .i64 ylock, .string yc0, .string yc1, .string yc2, .string yc3, .string yc4] 38)); obtain ⟨d0, d1, d2, d3, d4, d5, d6, d7, d8, d9, d10, d11, d12⟩ := Per.At.of_heap (m := ⟨yid, ymail, yver, ysalt, ychk, yvers, ymiss, ylock, yc0, yc1, yc2, yc3, yc4⟩) HY.out; simp only at d0 d1 d2 d3 d4 d5 d6 d7 d8 d9 d10 d11 d12; clear b2)
    go_ret
    exact ⟨by simp, B2.out⟩
/-- Strings that lie in a row of their own. -/
def sowns (w : World) (B : Nat) (v : Value) (l : List ByteArray) : Prop := w.ownsRow B 9 1 v l.length (l.map Value.string)
theorem sinfo : (Tryd.prog.info? 9).map (fun i => (i.zero, i.size, i.bytes)) = some (some (.string ⟨#[]⟩), 1, 16) := by kernel_rfl
theorem sowns.nil (w : World) (B : Nat) : sowns w B (.slice none 0 0) [] := World.ownsRow_nil _ _ _ _
theorem sowns.below {w w' : World} {B : Nat} {v : Value} {l : List ByteArray} (h : sowns w B v l) (b : Below w.heap.size w w') : sowns w' B v l :=
  World.ownsRow.kept (row := none) h ⟨b.os, b.tape, b.output, b.size, fun k hk _ => b.block k hk⟩ (by cases v.ownBlock <;> simp)
theorem sowns.mono {w : World} {B B' : Nat} {v : Value} {l : List ByteArray} (h : sowns w B v l) (hB : B' ≤ B) : sowns w B' v l := by
  unfold sowns at *
  rcases h with ⟨h1, h2 | ⟨g, cap, cur, e1, r1, r⟩⟩
  · exact ⟨h1, .inl h2⟩
  · exact ⟨h1, .inr ⟨g, cap, cur, e1, Nat.le_trans hB r1, r⟩⟩
theorem spush {w : World} {B q : Nat} {v : Value} {l : List ByteArray} (s : ByteArray) (h : sowns w B v l) (hB : B ≤ w.heap.size) (lim : l.length ≤ 1000000) (hq : w.heap[q]? = some (.cells #[.string s] 9)) (ty : TypeId) :
    ∃ a' c' w', (Builtin.append_ #[53, 53] ty #[v, .slice (some ⟨q, 0, none⟩) 1 1]).run Tryd.prog w = .ok (.slice a' (l ++ [s]).length c') w' ∧ sowns w' B (.slice a' (l ++ [s]).length c') (l ++ [s]) ∧ w.grownBy w' v.ownBlock := by
  obtain ⟨i0, hi, hz0, hz1, hz2⟩ := info_parts sinfo
  obtain ⟨v', w', ra, ro, rg, _, rat⟩ := run_append_own_at (P := Tryd.prog) w B 53 ty 9 i0 _ 1 16 Tryd.underlying53 hi hz0 hz1 hz2 rfl (by decide) v l.length (l.map Value.string) h ⟨q, 0, none⟩ 1 1 [.string s] rfl
    (fun j u hj => by
      rw [addM, Nat.zero_add, Lib.cell_of_heap hq]
      simpa using hj)
    (fun u hu => by rw [List.mem_singleton.1 hu]; rfl) (by unfold maxLen; omega) (by omega) hB
  have ho : sowns w' B v' (l ++ [s]) := by
    unfold sowns
    rw [List.length_append, List.map_append]
    exact ro
  have hf : ∃ a' c', v' = .slice a' (l ++ [s]).length c' := by
    rcases ho.2 with ⟨e1, e2⟩ | ⟨g', cap', cur', e1, r⟩
    · simp at e2
    · exact ⟨_, cap', e1⟩
  obtain ⟨a', c', rfl⟩ := hf
  exact ⟨a', c', w', ra, ho, rg⟩
theorem sowns.at {w : World} {B c : Nat} {a : Option Addr} {l : List ByteArray} (h : sowns w B (.slice a l.length c) l) (j : Nat) (hj : j < l.length) : ∃ g, a = some ⟨g, 0, none⟩ ∧ g < w.heap.size ∧ w.cell? ⟨g, j, none⟩ = some (.string l[j]) := by
  have hc := h
  rcases h.2 with ⟨e1, e2⟩ | ⟨g, cap, cur, e1, r1, r2, _⟩
  · omega
  · injection e1 with e1 _ _
    subst e1
    refine ⟨g, rfl, heap_lt r2, ?_⟩
    have := World.ownsRow.cells hc (g := g) rfl j (.string l[j]) (by simp [hj])
    simpa [addM] using this
def conL (x : Per.R) : List ByteArray := x.cs.filter (fun c => !decide (c = ⟨#[]⟩))
set_option maxHeartbeats 4000000 in
set_option maxRecDepth 100000 in
theorem contactsL_any {B : Nat} {v : Value} {p : Ppl} {w : World} (hown : pown w B v p) (lim : few p) (id : Int) :
    Calls Tryd.prog 16 #[v, .int .i64 id] w fun r w' => ∃ a2 c2, r = .returned (.slice a2 (conL (pick p.ps (fun x => decide (x.id = id)))).length c2) ∧ sowns w' w.heap.size (.slice a2 (conL (pick p.ps (fun x => decide (x.id = id)))).length c2) (conL (pick p.ps (fun x => decide (x.id = id)))) ∧ Below w.heap.size w w' := by
  have hown0 := hown
  obtain ⟨a, c, a', c', rfl, o1, o2⟩ := hown
  have b1 : Below w.heap.size w (w.alloc (pobj (.slice a p.ps.length c) (.slice a' p.ss.length c'))) := (Below.refl _ _).alloc (Nat.le_refl _) _
  obtain ⟨x0, x1⟩ := pbox w (.slice a p.ps.length c) (.slice a' p.ss.length c')
  have FD := Lib.hid (find_any (hown0.below b1) lim id)
  have HB := Lib.hid b1
  have SB : Hid (w.heap.size + 1 = (w.alloc (pobj (.slice a p.ps.length c) (.slice a' p.ss.length c'))).heap.size) := Lib.hid (by simp)
  generalize pick p.ps (fun x => decide (x.id = id)) = y at *
  generalize p.ps.any (fun x => decide (x.id = id)) = q at *
  clear hown0 o1 o2 b1 lim
  obtain ⟨yid, ymail, yver, ysalt, ychk, yvers, ymiss, ylock, yc0, yc1, yc2, yc3, yc4⟩ := y
  have CL : Hid (conL ⟨yid, ymail, yver, ysalt, ychk, yvers, ymiss, ylock, yc0, yc1, yc2, yc3, yc4⟩ = ([yc0, yc1, yc2, yc3, yc4].take 5).filter (fun c => !decide (c = ⟨#[]⟩))) := Lib.hid rfl
  have FT := Lib.hid (fun k hk x hx => filt_take [yc0, yc1, yc2, yc3, yc4] (fun c => !decide (c = (⟨#[]⟩ : ByteArray))) k hk x hx)
  have FL : Hid (∀ k, (([yc0, yc1, yc2, yc3, yc4].take k).filter (fun c => !decide (c = (⟨#[]⟩ : ByteArray)))).length ≤ 5) := Lib.hid (fun k => by
    have h1 := List.length_filter_le (fun c => !decide (c = (⟨#[]⟩ : ByteArray))) ([yc0, yc1, yc2, yc3, yc4].take k)
    rw [List.length_take] at h1
    have h2 : [yc0, yc1, yc2, yc3, yc4].length = 5 := rfl
    omega)
  generalize conL ⟨yid, ymail, yver, ysalt, ychk, yvers, ymiss, ylock, yc0, yc1, yc2, yc3, yc4⟩ = CC at *
  unfold pobj Per.R.agg at *
  simp only at *
  go_enter Tryd.func16, Tryd.ntmps16
  go_wp2_with (go_at_call 12; (refine (FD.out).mono ?_); rintro z w2 ⟨rfl, b2⟩; have B2 := Lib.hid ((HB.out.trans (b2.mono HB.out.size)).alloc (by have := b2.size; have := SB.out; omega) (.cells #[.int .i64 yid, .string ymail, .bool yver, .string ysalt, .string ychk, .int .i64 yvers, .int .i64 ymiss, .int .i64 ylock, .string yc0, .string yc1, .string yc2, .string yc3, .string yc4] 38)); have HY := Lib.hid (heap_new w2 (.cells #[.int .i64 yid, .string ymail, .bool yver, .string ysalt, .string ychk, .int .i64 yvers, .int .i64 ymiss, .int .i64 ylock, .string yc0, .string yc1, .string yc2, .string yc3, .string yc4] 38)); obtain ⟨d0, d1, d2, d3, d4, d5, d6, d7, d8, d9, d10, d11, d12⟩ := Per.At.of_heap (m := ⟨yid, ymail, yver, ysalt, ychk, yvers, ymiss, ylock, yc0, yc1, yc2, yc3, yc4⟩) HY.out; simp only at d0 d1 d2 d3 d4 d5 d6 d7 d8 d9 d10 d11 d12; clear b2)
  obtain ⟨w3, hw3⟩ : ∃ w3, w2.alloc (.cells #[.int .i64 yid, .string ymail, .bool yver, .string ysalt, .string ychk, .int .i64 yvers, .int .i64 ymiss, .int .i64 ylock, .string yc0, .string yc1, .string yc2, .string yc3, .string yc4] 38) = w3 := ⟨_, rfl⟩
  rw [hw3] at B2
  simp only [hw3]
  clear HY hw3 d0 d1 d2 d3 d4 d5 d6 d7 d8 d9 d10 d11 d12
  go_loopw [7, 18] (fun out i wr => ∃ (k : Nat) (a7 : Option Addr) (c7 : Nat), k ≤ 5 ∧ i = .int .i64 k ∧ out = .slice a7 (([yc0, yc1, yc2, yc3, yc4].take k).filter (fun c => !decide (c = ⟨#[]⟩))).length c7 ∧ sowns wr w.heap.size (.slice a7 (([yc0, yc1, yc2, yc3, yc4].take k).filter (fun c => !decide (c = ⟨#[]⟩))).length c7) (([yc0, yc1, yc2, yc3, yc4].take k).filter (fun c => !decide (c = ⟨#[]⟩))) ∧ Below w.heap.size w wr) (fun _ i _ => 5 - (intOf i).toNat)
  case atStart => exact ⟨0, none, 0, Nat.zero_le _, rfl, rfl, sowns.nil _ _, B2.out⟩
  case round =>
    obtain ⟨k, a7, c7, hk, rfl, rfl, ho, hbr⟩ := hrel
    have OO := Lib.hid ho
    have WB := Lib.hid hbr
    by_cases hkn : k < 5
    · have hkn' : (k : Int) < 5 := by omega
      have hk0 : (0 : Int) ≤ k := by omega
      have hidx := fun w => idxC yc0 yc1 yc2 yc3 yc4 k hkn w
      obtain ⟨x, hx⟩ : ∃ x, [yc0, yc1, yc2, yc3, yc4].getD k ⟨#[]⟩ = x := ⟨_, rfl⟩
      have HT := Lib.hid (FT.out k hkn x (by rw [← hx, List.getD_eq_getElem?_getD, List.getElem?_eq_getElem (show k < [yc0, yc1, yc2, yc3, yc4].length from hkn)]; rfl))
      rw [hx] at hidx
      have hl := FL.out k
      clear hx
      have ba := hbr.alloc hbr.size (.cells #[.string x] 9)
      obtain ⟨a8, c8, w8, ra, o8, g8⟩ := spush x (ho.below ((Below.refl wr.heap.size wr).alloc (Nat.le_refl _) (.cells #[.string x] 9))) ba.size (by omega) (heap_new wr _) 53
      have B8 := Lib.hid (ba.grown g8 ba.size (fun j hj => (World.ownsRow.lt ho j hj).1))
      have RA := Lib.hid ra
      have O8 := Lib.hid o8
      clear ra o8 g8 ba ho hbr
      cases hv : x.toList.isEmpty
      · have HE : Hid (([yc0, yc1, yc2, yc3, yc4].take (k + 1)).filter (fun c => !decide (c = (⟨#[]⟩ : ByteArray))) = ([yc0, yc1, yc2, yc3, yc4].take k).filter (fun c => !decide (c = (⟨#[]⟩ : ByteArray))) ++ [x]) := Lib.hid (by
          rw [HT.out, ← emp_dec, hv]
          rfl)
        clear HT
        go_wp2_with (at_builtin; refine Lib.wpList_append_run _ rfl _ _ _ _ rfl _ _ rfl rfl _ _ RA.out ?_)
        go_roundw
        case rel => exact ⟨k + 1, a8, c8, by omega, by go_num, by rw [HE.out, List.length_append]; rfl, by rw [HE.out]; exact O8.out, B8.out⟩
        case measure => simp [intOf]; omega
      · have HE : Hid (([yc0, yc1, yc2, yc3, yc4].take (k + 1)).filter (fun c => !decide (c = (⟨#[]⟩ : ByteArray))) = ([yc0, yc1, yc2, yc3, yc4].take k).filter (fun c => !decide (c = (⟨#[]⟩ : ByteArray)))) := Lib.hid (by
          rw [HT.out, ← emp_dec, hv]
          rfl)
        clear HT
        go_wp2_with fail
        go_roundw
        case rel => exact ⟨k + 1, a7, c7, by omega, by go_num, by rw [HE.out], by rw [HE.out]; exact OO.out, WB.out⟩
        case measure => simp [intOf]; omega
    · have hkn' : ¬ ((k : Int) < 5) := by omega
      obtain rfl : k = 5 := by omega
      clear ho hbr
      go_wp2_with fail
      go_ret
      exact ⟨a7, c7, by rw [CL.out]; rfl, by rw [CL.out]; exact OO.out, WB.out⟩
end Go.Proofs.YtkihleecjgoipaaDoor
