/- slices.Insert of one case, anywhere in a row of one's own. -/
import Derived.Test.YtcidllckmidkoaaDoorCdel
import Derived.Lib.Overlaps
import Derived.Lib.AppendZerosOnto
import Derived.Deep.RegionLaw
namespace Go.Proofs.YtcidllckmidkoaaDoor
open Go.RowKit Go.Maps Go.Proofs.YtcidllckmidkoaaDoorW.PrintWords

set_option maxHeartbeats 2000000 in
set_option maxRecDepth 100000 in
theorem insert_end (B n : Nat) (s : Value) (xs : List Value) (w : World) (hown : w.ownsRow B 28 9 s n xs) (vb : Nat) (l : Cas)
    (hv : w.heap[vb]? = some (.cells l.cells.toArray 28 (0, 0))) (hB : B ≤ w.heap.size) (lim : n ≤ 1000000) :
    Calls Tryd.prog 43 #[s, .int .i64 n, .slice (some ⟨vb, 0, none⟩) 1 1] w fun e w' =>
      ∃ v', e = .returned v' ∧ w'.ownsRow B 28 9 v' (n + 1) (xs ++ l.cells) ∧ w.grownBy w' s.ownBlock ∧ (v'.ownBlock = s.ownBlock ∨ v'.ownBlock = some w.heap.size) := by
  have hs : ∃ a c, s = .slice a n c ∧ n ≤ c ∧ c ≤ 9223372036854775807 := by
    rcases hown.2 with ⟨h1, h2⟩ | ⟨g, cap, cur, h1, r⟩
    · subst h2; exact ⟨none, 0, h1, by omega, by omega⟩
    · exact ⟨some ⟨g, 0, none⟩, cap, h1, r.2.2.1, by have := r.2.2.2.1; unfold maxLen at this; exact this⟩
  obtain ⟨a, c, rfl, hc1, hc2⟩ := hs
  obtain ⟨i0, hi, hz0, hz1, hz2⟩ := info_parts infoMsg
  have hc : ∀ (j : Nat) (u : Value), l.cells[j]? = some u → w.cell? ((⟨vb, 0, none⟩ : Addr).add j) = some u := by
    intro j u hj
    rw [addM, Lib.cell_of_heap hv, Nat.zero_add]
    simpa using hj
  have hu : ∀ u ∈ l.cells, u.oneCell' = true := cells_one l
  have h3 : n + 1 ≤ maxLen := by unfold maxLen; omega
  have h4 : (n + 1) * 112 ≤ 140737488355328 := by omega
  rcases Nat.eq_or_lt_of_le hc1 with h5 | h5
  · subst h5
    go_enter Tryd.func43, Tryd.ntmps43
    go_wp2_with (at_builtin; refine wpList_append_own_at _ rfl _ _ 22 rfl B 28 i0 _ 9 112 Tryd.underlying22 hi hz0 hz1 hz2 rfl (by decide) _ _ _ rfl hown ⟨vb, 0, none⟩ 1 1 l.cells rfl rfl hc hu h3 h4 hB ?_)
    intro v5 w5 hown5 hgrow5 _ hat5
    go_wp2
    go_ret
    exact ⟨v5, rfl, hown5, hgrow5, hat5⟩
  · have h6 : ¬ c = n := by omega
    go_enter Tryd.func43, Tryd.ntmps43
    go_wp2_with (at_builtin; refine wpList_append_own_at _ rfl _ _ 22 rfl B 28 i0 _ 9 112 Tryd.underlying22 hi hz0 hz1 hz2 rfl (by decide) _ _ _ rfl hown ⟨vb, 0, none⟩ 1 1 l.cells rfl rfl hc hu h3 h4 hB ?_)
    intro v5 w5 hown5 hgrow5 _ hat5
    go_wp2
    go_ret
    exact ⟨v5, rfl, hown5, hgrow5, hat5⟩
theorem infoSize : (Tryd.prog.info? 28).map (·.size) = some 9 := by kernel_rfl
theorem sizeLetter (w : World) : (Go.sizeOf 28).run Tryd.prog w = .ok 9 w := by kernel_rfl
/-- copy of letters into a block that holds letters alone. -/
theorem run_copy4 (W : World) (g o : Nat) (cur : Array Value) (hg : W.heap[g]? = some (.cells cur 28 (0, 0))) (dl dc : Nat) (a : Addr) (sl sc m : Nat) (cs : List Value) (hm : Nat.min sl dl = m) (hl : cs.length = m * 9)
    (hcs : ∀ j v, cs[j]? = some v → W.cell? (a.add j) = some v) (h1 : ∀ v ∈ cs, v.oneCell' = true) (hfit : o + cs.length ≤ cur.size) (ty : TypeId) :
    (Builtin.copy_ #[22, 22] ty #[.slice (some ⟨g, o, none⟩) dl dc, .slice (some a) sl sc]).run Tryd.prog W = .ok (goInt m) (W.setRow g (cur.toList.take o ++ cs ++ cur.toList.drop (o + cs.length)).toArray) := by
  have hst := run_storeCells_at (P := Tryd.prog) g o 28 cs 0 cur W hg (by omega) h1
  simp only [Nat.add_zero] at hst
  have hfc := run_firstCells_some (P := Tryd.prog) W 9 m a sl sc cs hl hcs
  simp [Builtin.copy_, run_underlying Tryd.underlying22, Builtin.lenOf, hm, hfc, hst, Result.andThen]
theorem overlaps_not (w : World) (vb g o : Nat) (l : List Value) (cur : Array Value) (hvb : vb ≠ g) (h1 : w.heap[vb]? = some (.cells l.toArray 28 (0, 0))) (h2 : w.heap[g]? = some (.cells cur 28 (0, 0))) (hc : cur.size ≠ 0) (la ca lb cb : Nat) :
    (callFunc 49 #[.slice (some ⟨vb, 0, none⟩) la ca, .slice (some ⟨g, o, none⟩) lb cb]).run Tryd.prog w = .ok (.value (.bool false)) w := by
  rw [run_callFunc_extern Tryd.func49 (by kernel_rfl) (by kernel_rfl) (by kernel_rfl) (e := Extern.SlicesOverlaps.overlaps #[22, 22] #[4]) (by kernel_rfl),
    Lib.run_overlaps_apart w 22 4 28 Tryd.underlying22 9 sizeLetter ⟨vb, 0, none⟩ ⟨g, o, none⟩ la ca lb cb hvb 28 28 l.length cur.size (by simp [World.shape?, h1]) (by simp [World.shape?, h2]) hc (by simp [World.frozen?, h1]) (by simp [World.frozen?, h1])]
  rfl
theorem step_copy_run {P : Program} {ops : Array Oper} {o : Oper} {a : Act} {w : World} {K : Act → World → Prop} {Q : Exit → Act → World → Prop} {E : Prop} (hg : o.guard = none) (d x : Operand) (t : TypeId)
    (hop : o.op = Op.call { callee := Callee.builtin Builtin.copy, args := #[d, x], argTypes := #[t, t] }) (v1 v2 v' : Value) (h1 : a.eval d = v1) (h2 : a.eval x = v2) (w' : World)
    (hr : (Builtin.copy_ #[t, t] o.type #[v1, v2]).run P w = .ok v' w') (hK : K (a.put o.dst v') w') : if Region.wanted o (yielded ops a.tmps) = true then Oper.wp P o a w K Q else E := by
  have hw : Region.wanted o (yielded ops a.tmps) = true := by simp [Region.wanted, hg]
  rw [if_pos hw]
  unfold Oper.wp
  simp [execOp, hop, resolve, invoke, builtin, h1, h2, hr, Result.andThen]
  exact hK
theorem wpList_copy_run {P : Program} {w : World} {ops : Array Oper} {rest : List Oper} {o : Oper} {a : Act} {Q : Exit → Act → World → Prop} (hgd : o.guard = none) (d x : Operand) (t : TypeId)
    (hop : o.op = .call { callee := .builtin .copy, args := #[d, x], argTypes := #[t, t] }) (v1 v2 v' : Value) (h1 : a.eval d = v1) (h2 : a.eval x = v2) (w' : World)
    (hr : (Builtin.copy_ #[t, t] o.type #[v1, v2]).run P w = .ok v' w') (h : wpList P ops Q rest (a.put o.dst v') w') : wpList P ops Q (o :: rest) a w := by
  refine wpList_plain hgd fun K hK => ?_
  unfold Oper.wp
  simp [execOp, hop, resolve, invoke, builtin, h1, h2, hr, Result.andThen]
  exact hK _ _ h
theorem setRow_grown (w : World) (g : Nat) (cs : Array Value) : w.grownBy (w.setRow g cs) (some g) := ⟨rfl, rfl, rfl, by simp, fun j _ hj => setRow_other w g j _ (fun e => hj (by simp [e]))⟩

theorem room_list (A F L : List Value) (p n : Nat) (hA : A.take (n * 9) = F) (hn : F.length = n * 9) (hp : p < n) (hfit : (n + 1) * 9 ≤ A.length) (hL : L.length = 9) (A1 A2 : List Value)
    (h1 : A1 = A.take ((p + 1) * 9) ++ F.drop (p * 9) ++ A.drop ((p + 1) * 9 + (F.drop (p * 9)).length)) (h2 : A2 = A1.take (p * 9) ++ L ++ A1.drop (p * 9 + L.length)) :
    A2.take ((n + 1) * 9) = F.take (p * 9) ++ (L ++ F.drop (p * 9)) ∧ A1.length = A.length ∧ A2.length = A.length := by
  have hQ : ∃ Q, A.take ((p + 1) * 9) = F.take (p * 9) ++ Q ∧ Q.length = 9 := by
    refine ⟨(A.take ((p + 1) * 9)).drop (p * 9), ?_, ?_⟩
    · have e := (List.take_append_drop (p * 9) (A.take ((p + 1) * 9))).symm
      rw [List.take_take, Nat.min_eq_left (by omega)] at e
      rw [← hA, List.take_take, Nat.min_eq_left (by omega)]
      exact e
    · rw [List.length_drop, List.length_take]; omega
  obtain ⟨Q, hQ1, hQ2⟩ := hQ
  have hF1 : (F.take (p * 9)).length = p * 9 := by rw [List.length_take]; omega
  have hF2 : (F.drop (p * 9)).length = n * 9 - p * 9 := by rw [List.length_drop, hn]
  rw [hQ1] at h1
  generalize F.take (p * 9) = F1 at *
  generalize F.drop (p * 9) = F2 at *
  have hT : (A.drop ((p + 1) * 9 + F2.length)).length = A.length - ((p + 1) * 9 + F2.length) := List.length_drop
  generalize A.drop ((p + 1) * 9 + F2.length) = T at *
  have e1 : A1.take (p * 9) = F1 := by rw [h1, List.append_assoc, List.append_assoc, ← hF1]; exact List.take_left
  have e2 : A1.drop (p * 9 + L.length) = F2 ++ T := by
    rw [h1, List.append_assoc, show p * 9 + L.length = (F1 ++ Q).length by rw [List.length_append]; omega]
    exact List.drop_left
  rw [e1, e2] at h2
  refine ⟨?_, ?_, ?_⟩
  · rw [h2, ← List.append_assoc, show (n + 1) * 9 = (F1 ++ L ++ F2).length by simp only [List.length_append]; omega, List.take_left, List.append_assoc]
  · rw [h1]; simp only [List.length_append]; omega
  · rw [h2]; simp only [List.length_append]; omega

set_option maxHeartbeats 4000000 in
set_option maxRecDepth 100000 in
theorem insert_room {B : Nat} {us : List Cas} {p g cap : Nat} {cur : Array Value} {w : World} (vb : Nat) (l : Cas) (hp : p < us.length) (hB : B ≤ g)
    (hg : w.heap[g]? = some (.cells cur 28 (0, 0))) (hcap : us.length + 1 ≤ cap) (hc63 : cap ≤ 9223372036854775807) (hcs : cur.size = cap * 9) (htk : cur.toList.take (us.length * 9) = mflat us)
    (hv : w.heap[vb]? = some (.cells l.cells.toArray 28 (0, 0))) (hvb : vb ≠ g) (lim : us.length ≤ 1000000) :
    Calls Tryd.prog 43 #[.slice (some ⟨g, 0, none⟩) us.length cap, .int .i64 p, .slice (some ⟨vb, 0, none⟩) 1 1] w fun e w' =>
      e = .returned (.slice (some ⟨g, 0, none⟩) (us.length + 1) cap) ∧ mowns w' B (.slice (some ⟨g, 0, none⟩) (us.length + 1) cap) (us.take p ++ l :: us.drop p) ∧ w.grownBy w' (some g) := by
  have hov := fun la ca lb cb o => overlaps_not w vb g o l.cells cur hvb hv hg (by omega) la ca lb cb
  have hw1 : IntKind.i64.wrap ((p : Int) + 1) = (p : Int) + 1 := by rw [IntKind.wrap_i64] <;> omega
  have hb1 : (0 : Int) ≤ (p : Int) + 1 := by omega
  have hb3 : (p : Int) ≤ (us.length : Int) + 1 := by omega
  have htn : ((p : Int) + 1).toNat = p + 1 := by omega
  have hin : (p : Int) ≤ (us.length : Int) := by omega
  have hz2 : ¬ ((p : Int) = (us.length : Int)) := by omega
  have hpp : ¬ (cap = p) := by omega
  have hpp1 : ¬ (cap = p + 1) := by omega
  have hfl := mflat_len us
  have hdl : ((mflat us).drop (p * 9)).length = (us.length - p) * 9 := by rw [List.length_drop, hfl, Nat.sub_mul]
  have hLc : l.cells.length = 9 := rfl
  have hcl : cur.toList.length = cap * 9 := by rw [Array.length_toList, hcs]
  have hown : w.drew.ownsRow B 28 9 (.slice (some ⟨g, 0, none⟩) us.length cap) us.length (mflat us) := ⟨hfl, .inr ⟨g, cap, cur, rfl, hB, hg, by omega, by unfold maxLen; omega, hcs, htk⟩⟩
  obtain ⟨A1, hA1⟩ : ∃ A1, A1 = cur.toList.take ((p + 1) * 9) ++ (mflat us).drop (p * 9) ++ cur.toList.drop ((p + 1) * 9 + ((mflat us).drop (p * 9)).length) := ⟨_, rfl⟩
  obtain ⟨A2, hA2⟩ : ∃ A2, A2 = A1.take (p * 9) ++ l.cells ++ A1.drop (p * 9 + l.cells.length) := ⟨_, rfl⟩
  obtain ⟨r1, r2, r3⟩ := room_list cur.toList (mflat us) l.cells p us.length htk hfl hp (by omega) hLc A1 A2 hA1 hA2
  have cp1 := run_copy4 w.drew g ((p + 1) * 9) cur hg (us.length - p) (cap - (p + 1)) ⟨g, p * 9, none⟩ (us.length + 1 - p) (cap - p) (us.length - p) ((mflat us).drop (p * 9)) (by simp only [Nat.min_def]; split <;> omega) hdl
    (fun j u hj => by
      rw [List.getElem?_drop] at hj
      have := hown.cells (g := g) rfl (p * 9 + j) u hj
      rw [addM] at this ⊢
      simpa using this) (fun v hv => mflat_one us v (List.mem_of_mem_drop hv)) (by omega) 3
  rw [← hA1] at cp1
  have g1 := setRow_grown w.drew g A1.toArray
  have hg1 : (w.drew.setRow g A1.toArray).heap[g]? = some (.cells A1.toArray 28 (0, 0)) := setRow_heap w.drew g cur _ _ _ hg
  have hv1 : (w.drew.setRow g A1.toArray).heap[vb]? = some (.cells l.cells.toArray 28 (0, 0)) := (g1.block vb (Array.getElem?_eq_some_iff.1 hv).1 (by simpa using hvb)).trans hv
  obtain ⟨w1, hw⟩ : ∃ w1, w1 = w.drew.setRow g A1.toArray := ⟨_, rfl⟩
  rw [← hw] at cp1 g1 hg1 hv1
  have cp2 := run_copy4 w1 g (p * 9) A1.toArray hg1 (us.length + 1 - p) (cap - p) ⟨vb, 0, none⟩ 1 1 1 l.cells (by simp only [Nat.min_def]; split <;> omega) rfl
    (fun j u hj => by rw [addM, Lib.cell_of_heap hv1, Nat.zero_add]; simpa using hj) (cells_one l) (by simp only [List.size_toArray]; omega) 3
  simp only [← hA2] at cp2
  have g2 := setRow_grown w1 g A2.toArray
  have hg2 : (w1.setRow g A2.toArray).heap[g]? = some (.cells A2.toArray 28 (0, 0)) := setRow_heap w1 g _ _ _ _ hg1
  obtain ⟨w2, hw'⟩ : ∃ w2, w2 = w1.setRow g A2.toArray := ⟨_, rfl⟩
  rw [← hw'] at cp2 g2 hg2
  have fin : mowns w2 B (.slice (some ⟨g, 0, none⟩) (us.length + 1) cap) (us.take p ++ l :: us.drop p) ∧ w.grownBy w2 (some g) := by
    refine ⟨⟨mflat_len _, .inr ⟨g, cap, A2.toArray, ?_, hB, hg2, ?_, by unfold maxLen; omega, by simp only [List.size_toArray]; omega, ?_⟩⟩, ?_⟩
    · congr 1; simp; omega
    · simp; omega
    · rw [show (us.take p ++ l :: us.drop p).length = us.length + 1 by simp; omega, mflat_append, mflat_cons, ← mflat_take, ← mflat_drop]
      exact r1
    · exact World.grownBy.trans (b := w1) ⟨g1.os, g1.tape, g1.output, g1.size, g1.block⟩ g2
  clear hown hA1 hA2 r1 r2 r3 hg1 hv1 hw hw' hg2 g1 g2 htk hdl hfl hg hv
  have C1 := Lib.hid cp1
  have C2 := Lib.hid cp2
  clear cp1 cp2
  go_enter Tryd.func43, Tryd.ntmps43
  go_wp2_with (simp only [hov])
  go_region_law (refine step_copy_run rfl (.tmp 73) (.tmp 76) 22 rfl _ _ _ (by simp [Act.eval, Act.put]) (by simp [Act.eval, Act.put]) _ C1.out ?_)
  go_wp2_with (refine wpList_copy_run rfl _ _ 22 rfl _ _ _ rfl rfl _ C2.out ?_)
  go_ret
  exact ⟨rfl, fin⟩
theorem grow_list (R F L : List Value) (p n : Nat) (hX : R.take (p * 9) = F.take (p * 9)) (hn : F.length = n * 9) (hp : p < n) (hfit : (n + 1) * 9 ≤ R.length) (hL : L.length = 9) (A1 A2 : List Value)
    (h1 : A1 = R.take (p * 9) ++ L ++ R.drop (p * 9 + L.length)) (h2 : A2 = A1.take ((p + 1) * 9) ++ F.drop (p * 9) ++ A1.drop ((p + 1) * 9 + (F.drop (p * 9)).length)) :
    A2.take ((n + 1) * 9) = F.take (p * 9) ++ (L ++ F.drop (p * 9)) ∧ A1.length = R.length ∧ A2.length = R.length := by
  have hF1 : (F.take (p * 9)).length = p * 9 := by rw [List.length_take]; omega
  have hF2 : (F.drop (p * 9)).length = n * 9 - p * 9 := by rw [List.length_drop, hn]
  rw [hX] at h1
  generalize F.take (p * 9) = F1 at *
  generalize F.drop (p * 9) = F2 at *
  have hT : (R.drop (p * 9 + L.length)).length = R.length - (p * 9 + L.length) := List.length_drop
  generalize R.drop (p * 9 + L.length) = T at *
  have hl1 : A1.length = R.length := by rw [h1]; simp only [List.length_append]; omega
  have e1 : A1.take ((p + 1) * 9) = F1 ++ L := by rw [h1, show (p + 1) * 9 = (F1 ++ L).length by simp only [List.length_append]; omega]; exact List.take_left
  rw [e1] at h2
  have hT2 : (A1.drop ((p + 1) * 9 + F2.length)).length = A1.length - ((p + 1) * 9 + F2.length) := List.length_drop
  refine ⟨?_, hl1, ?_⟩
  · rw [h2, show (n + 1) * 9 = (F1 ++ L ++ F2).length by simp only [List.length_append]; omega, List.take_left, List.append_assoc]
  · rw [h2]; simp only [List.length_append]; omega

set_option maxHeartbeats 4000000 in
set_option maxRecDepth 100000 in
theorem insert_grow {B : Nat} {us : List Cas} {p g cap : Nat} {w : World} (vb : Nat) (l : Cas) (hp : p < us.length)
    (hown : w.ownsRow B 28 9 (.slice (some ⟨g, 0, none⟩) us.length cap) us.length (mflat us)) (hBw : B ≤ w.heap.size) (hnc : us.length ≤ cap) (hroom : cap < us.length + 1)
    (hv : w.heap[vb]? = some (.cells l.cells.toArray 28 (0, 0))) (lim : us.length ≤ 1000000) :
    Calls Tryd.prog 43 #[.slice (some ⟨g, 0, none⟩) us.length cap, .int .i64 p, .slice (some ⟨vb, 0, none⟩) 1 1] w fun e w' =>
      ∃ v', e = .returned v' ∧ mowns w' B v' (us.take p ++ l :: us.drop p) ∧ w.grownBy w' (some g) ∧ v'.ownBlock = some w.heap.size := by
  obtain ⟨i0, hi, hz0, hz1, hz2⟩ := info_parts infoMsg
  have hz3 : (cap : Int) < (us.length : Int) + 1 := by omega
  have hw1 : IntKind.i64.wrap ((p : Int) + 1) = (p : Int) + 1 := by rw [IntKind.wrap_i64] <;> omega
  have hb1 : (0 : Int) ≤ (p : Int) + 1 := by omega
  have hb3 : (p : Int) ≤ (us.length : Int) + 1 := by omega
  have htn : ((p : Int) + 1).toNat = p + 1 := by omega
  have hin : (p : Int) ≤ (us.length : Int) := by omega
  have hz2' : ¬ ((p : Int) = (us.length : Int)) := by omega
  have hpp : ¬ (cap = p) := by omega
  have hfl := mflat_len us
  have hdl : ((mflat us).drop (p * 9)).length = (us.length - p) * 9 := by rw [List.length_drop, hfl, Nat.sub_mul]
  have hLc : l.cells.length = 9 := rfl
  have hgw : g < w.heap.size := (World.ownsRow.lt hown g rfl).2
  have hvw : vb < w.heap.size := (Array.getElem?_eq_some_iff.1 hv).1
  have hkk : (us.length : Int) + 1 - (p : Int) = ((us.length + 1 - p : Nat) : Int) := by omega
  have hik : p + (us.length + 1 - p) = us.length + 1 := by omega
  have hold : (Builtin.firstCells i0.size p (.slice (some ⟨g, 0, none⟩) p cap)).run Tryd.prog w.drew = .ok ((mflat us).take (p * 9)).toArray w.drew := by
    rw [hz1]
    exact run_firstCells_some w.drew 9 p ⟨g, 0, none⟩ p cap ((mflat us).take (p * 9)) (by rw [List.length_take]; omega) (fun j v hj => by
      rw [List.getElem?_take] at hj
      split at hj
      · exact hown.cells (g := g) rfl j v hj
      · cases hj)
  have hrz : ∀ ty, (Builtin.append_ #[22, 3] ty #[.slice (some ⟨g, 0, none⟩) p cap, .int .i64 ((us.length : Int) + 1 - (p : Int))]).run Tryd.prog w =
      .ok (.slice (some ⟨w.heap.size, 0, none⟩) (us.length + 1) (grownCap w (us.length + 1) cap 28)) (w.drew.alloc (.cells (((mflat us).take (p * 9)).toArray ++ Builtin.zeroCells zeroMsg.cells (us.length + 1 - p) ++ Builtin.zeroCells zeroMsg.cells (grownCap w (us.length + 1) cap 28 - (us.length + 1))) 28)) := fun ty => by
    have h := Lib.run_append_grow_zeros w 22 3 ty 28 i0 zeroMsg .i64 .i64 Tryd.underlying22 Tryd.underlying3 hi hz0 (some ⟨g, 0, none⟩) p cap ((mflat us).take (p * 9)) hold (us.length + 1 - p) (by omega) (by omega) (by omega) (by omega) (by rw [hz2]; omega) (by rw [hz2, hik]; exact growslice_fits (by omega) (by omega))
    rw [hik] at h
    rw [hkk]
    exact h
  have hGn : us.length + 1 ≤ grownCap w (us.length + 1) cap 28 := grownCap_ge w _ _ _
  have hG63 : grownCap w (us.length + 1) cap 28 ≤ 9223372036854775807 := by
    have := grownCap_le_maxLen w (us.length + 1) cap 28 (by unfold maxLen; omega)
    unfold maxLen at this
    omega
  generalize grownCap w (us.length + 1) cap 28 = G at *
  obtain ⟨R, hR⟩ : ∃ R : List Value, R = (((mflat us).take (p * 9)).toArray ++ Builtin.zeroCells zeroMsg.cells (us.length + 1 - p) ++ Builtin.zeroCells zeroMsg.cells (G - (us.length + 1))).toList := ⟨_, rfl⟩
  have hRa : (((mflat us).take (p * 9)).toArray ++ Builtin.zeroCells zeroMsg.cells (us.length + 1 - p) ++ Builtin.zeroCells zeroMsg.cells (G - (us.length + 1))) = R.toArray := by rw [hR]
  rw [hRa] at hrz
  have hz9 : zeroMsg.cells.size = 9 := by kernel_rfl
  have hRl : R.length = G * 9 := by
    rw [hR, Array.length_toList, Array.size_append, Array.size_append, size_zeroCells, size_zeroCells, hz9]
    simp only [List.size_toArray, List.length_take]
    omega
  have hRx : R.take (p * 9) = (mflat us).take (p * 9) := by
    have hl : ((mflat us).take (p * 9)).length = p * 9 := by rw [List.length_take]; omega
    rw [hR]
    simp only [Array.toList_append, List.append_assoc]
    generalize (mflat us).take (p * 9) = X at *
    rw [← hl]
    exact List.take_left
  obtain ⟨A1, hA1⟩ : ∃ A1, A1 = R.take (p * 9) ++ l.cells ++ R.drop (p * 9 + l.cells.length) := ⟨_, rfl⟩
  obtain ⟨A2, hA2⟩ : ∃ A2, A2 = A1.take ((p + 1) * 9) ++ (mflat us).drop (p * 9) ++ A1.drop ((p + 1) * 9 + ((mflat us).drop (p * 9)).length) := ⟨_, rfl⟩
  obtain ⟨r1, r2, r3⟩ := grow_list R (mflat us) l.cells p us.length hRx hfl hp (by omega) hLc A1 A2 hA1 hA2
  obtain ⟨w1, hw1'⟩ : ∃ w1, w1 = w.drew.alloc (.cells R.toArray 28) := ⟨_, rfl⟩
  rw [← hw1'] at hrz
  have g0 : w.grownBy w1 (some g) := by
    have x := World.grownBy_alloc w.drew (.cells R.toArray 28) (some g)
    rw [hw1']
    exact ⟨x.os, x.tape, x.output, x.size, x.block⟩
  have hN1 : w1.heap[w.heap.size]? = some (.cells R.toArray 28 (0, 0)) := by rw [hw1']; exact heap_new w.drew _
  have hv1 : w1.heap[vb]? = some (.cells l.cells.toArray 28 (0, 0)) := by rw [hw1']; exact (Lib.alloc_old w.drew _ vb hvw).trans hv
  have ho1 : w1.ownsRow B 28 9 (.slice (some ⟨g, 0, none⟩) us.length cap) us.length (mflat us) := by rw [hw1']; exact World.ownsRow.alloc (World.ownsRow.drew hown) _
  have cpA := run_copy4 w1 w.heap.size (p * 9) R.toArray hN1 (us.length + 1 - p) (G - p) ⟨vb, 0, none⟩ 1 1 1 l.cells (by simp only [Nat.min_def]; split <;> omega) rfl
    (fun j u hj => by rw [addM, Lib.cell_of_heap hv1, Nat.zero_add]; simpa using hj) (cells_one l) (by simp only [List.size_toArray]; omega) 3
  simp only [← hA1] at cpA
  have g1 := setRow_grown w1 w.heap.size A1.toArray
  have hN2 : (w1.setRow w.heap.size A1.toArray).heap[w.heap.size]? = some (.cells A1.toArray 28 (0, 0)) := setRow_heap w1 _ _ _ _ _ hN1
  have ho2 := World.ownsRow.kept ho1 g1 (.inr (by simp [Value.ownBlock]; omega))
  obtain ⟨w2, hw2'⟩ : ∃ w2, w2 = w1.setRow w.heap.size A1.toArray := ⟨_, rfl⟩
  rw [← hw2'] at cpA g1 hN2 ho2
  have cpB := run_copy4 w2.drew w.heap.size ((p + 1) * 9) A1.toArray hN2 (us.length - p) (G - (p + 1)) ⟨g, p * 9, none⟩ (us.length - p) (cap - p) (us.length - p) ((mflat us).drop (p * 9)) (Nat.min_self _) hdl
    (fun j u hj => by
      rw [List.getElem?_drop] at hj
      have := ho2.drew.cells (g := g) rfl (p * 9 + j) u hj
      rw [addM] at this ⊢
      simpa using this) (fun v hv => mflat_one us v (List.mem_of_mem_drop hv)) (by simp only [List.size_toArray]; omega) 3
  simp only [← hA2] at cpB
  have g2 := setRow_grown w2.drew w.heap.size A2.toArray
  have hN3 : (w2.drew.setRow w.heap.size A2.toArray).heap[w.heap.size]? = some (.cells A2.toArray 28 (0, 0)) := setRow_heap w2.drew _ _ _ _ _ hN2
  obtain ⟨w3, hw3'⟩ : ∃ w3, w3 = w2.drew.setRow w.heap.size A2.toArray := ⟨_, rfl⟩
  rw [← hw3'] at cpB g2 hN3
  have fin : mowns w3 B (.slice (some ⟨w.heap.size, 0, none⟩) (us.length + 1) G) (us.take p ++ l :: us.drop p) ∧ w.grownBy w3 (some g) := by
    have hll : (us.take p ++ l :: us.drop p).length = us.length + 1 := by simp; omega
    refine ⟨⟨mflat_len _, .inr ⟨w.heap.size, G, A2.toArray, by rw [hll], hBw, hN3, by rw [hll]; exact hGn, by unfold maxLen; omega, by simp only [List.size_toArray]; omega, ?_⟩⟩, ?_⟩
    · rw [hll, mflat_append, mflat_cons, ← mflat_take, ← mflat_drop]
      exact r1
    · refine ⟨g2.os.trans (g1.os.trans g0.os), g2.tape.trans (g1.tape.trans g0.tape), g2.output.trans (g1.output.trans g0.output), Nat.le_trans g0.size (Nat.le_trans g1.size g2.size), fun k hk hne => ?_⟩
      have s0 := g0.size
      have s1 := g1.size
      rw [g2.block k (show k < w2.heap.size by omega) (by simp; omega)]
      show w2.heap[k]? = _
      rw [g1.block k (by omega) (by simp; omega)]
      exact g0.block k hk hne
  have hGi : ¬ (G = p) := by omega
  have hGi1 : ¬ (G = p + 1) := by omega
  clear hown hA1 hA2 r1 r2 r3 hN1 hv1 ho1 hN2 ho2 hN3 hw1' hw2' hw3' g0 g1 g2 hdl hfl hv hR hRa hRl hRx hold hkk hik
  have C0 := Lib.hid hrz
  have C1 := Lib.hid cpA
  have C2 := Lib.hid cpB
  clear hrz cpA cpB
  go_enter Tryd.func43, Tryd.ntmps43
  go_wp2_with (first
    | (at_builtin; refine Lib.wpList_append_run _ rfl _ _ _ _ rfl _ _ rfl rfl _ _ (C0.out _) ?_)
    | (refine wpList_copy_run rfl _ _ 22 rfl _ _ _ rfl rfl _ C1.out ?_))
  go_region_law (refine step_copy_run rfl (.tmp 50) (.tmp 53) 22 rfl _ _ _ (by simp [Act.eval, Act.put]) (by simp [Act.eval, Act.put]) _ C2.out ?_)
  go_wp2_with fail
  go_ret
  exact ⟨_, rfl, fin.1, fin.2, rfl⟩

def InsAt (B : Nat) (us : List Cas) (p : Nat) : Prop := ∀ (q : Int) (s : Value) (w : World) (vb : Nat) (l : Cas), q = p → mowns w B s us → w.heap[vb]? = some (.cells l.cells.toArray 28 (0, 0)) → s.ownBlock ≠ some vb → B ≤ w.heap.size →
  Calls Tryd.prog 43 #[s, .int .i64 q, .slice (some ⟨vb, 0, none⟩) 1 1] w fun e w' =>
    ∃ v', e = .returned v' ∧ mowns w' B v' (us.take p ++ l :: us.drop p) ∧ w.grownBy w' s.ownBlock ∧ (v'.ownBlock = s.ownBlock ∨ ∃ g, v'.ownBlock = some g ∧ w.heap.size ≤ g)
theorem insAt_any (B : Nat) (us : List Cas) (p : Nat) (hp : p ≤ us.length) (lim : us.length ≤ 1000000) : InsAt B us p := by
  intro q s w vb l hq hown hv hne hB
  subst hq
  by_cases he : p = us.length
  · subst he
    refine (insert_end B us.length s (mflat us) w hown vb l hv hB lim).mono ?_
    rintro e w' ⟨v', rfl, h1, h2, h3⟩
    refine ⟨v', rfl, ?_, h2, ?_⟩
    · rw [List.take_length, List.drop_length]
      unfold mowns
      rw [mflat_append, mflat_cons, mflat_nil, List.append_nil, List.length_append]
      exact h1
    · rcases h3 with h3 | h3
      · exact .inl h3
      · exact .inr ⟨_, h3, Nat.le_refl _⟩
  · rcases hown.2 with ⟨e1, e2⟩ | ⟨g, cap, cur, e1, r1, r2, r3, r4, r5, r6⟩
    · omega
    · subst e1
      by_cases hroom : us.length + 1 ≤ cap
      · refine (insert_room vb l (by omega) r1 r2 hroom (by unfold maxLen at r4; omega) r5 r6 hv (fun e => hne (by rw [e]; rfl)) lim).mono ?_
        rintro e w' ⟨rfl, h1, h2⟩
        exact ⟨_, rfl, h1, h2, .inl rfl⟩
      · refine (insert_grow vb l (by omega) hown hB r3 (by omega) hv lim).mono ?_
        rintro e w' ⟨v', rfl, h1, h2, h3⟩
        exact ⟨v', rfl, h1, h2, .inr ⟨_, h3, Nat.le_refl _⟩⟩
end Go.Proofs.YtcidllckmidkoaaDoor
