/- slices.Insert of one letter ahead of others. -/
import Derived.Test.YtdoghnpmbpomcaaSend
import Derived.Lib.Overlaps
import Derived.Lib.AppendZerosOnto
namespace Go.Proofs.Ytdoghnpmbpomcaa
open Go.RowKit Go.Maps

theorem infoSize : (Try.prog.info? 40).map (·.size) = some 4 := by kernel_rfl
theorem sizeLetter (w : World) : (Go.sizeOf 40).run Try.prog w = .ok 4 w := by kernel_rfl
/-- copy of letters into a block that holds letters alone. -/
theorem run_copy4 (W : World) (g o : Nat) (cur : Array Value) (hg : W.heap[g]? = some (.cells cur 40 (0, 0))) (dl dc : Nat) (a : Addr) (sl sc m : Nat) (cs : List Value) (hm : Nat.min sl dl = m) (hl : cs.length = m * 4)
    (hcs : ∀ j v, cs[j]? = some v → W.cell? (a.add j) = some v) (h1 : ∀ v ∈ cs, v.oneCell' = true) (hfit : o + cs.length ≤ cur.size) (ty : TypeId) :
    (Builtin.copy_ #[37, 37] ty #[.slice (some ⟨g, o, none⟩) dl dc, .slice (some a) sl sc]).run Try.prog W = .ok (goInt m) (W.setRow g (cur.toList.take o ++ cs ++ cur.toList.drop (o + cs.length)).toArray) := by
  have hst := run_storeCells_at (P := Try.prog) g o 40 cs 0 cur W hg (by omega) h1
  simp only [Nat.add_zero] at hst
  have hfc := run_firstCells_some (P := Try.prog) W 4 m a sl sc cs hl hcs
  simp [Builtin.copy_, run_underlying Try.underlying37, Builtin.lenOf, hm, hfc, hst, Result.andThen]
theorem overlaps_not (w : World) (vb g o : Nat) (l : List Value) (cur : Array Value) (hvb : vb ≠ g) (h1 : w.heap[vb]? = some (.cells l.toArray 40 (0, 0))) (h2 : w.heap[g]? = some (.cells cur 40 (0, 0))) (hc : cur.size ≠ 0) (la ca lb cb : Nat) :
    (callFunc 36 #[.slice (some ⟨vb, 0, none⟩) la ca, .slice (some ⟨g, o, none⟩) lb cb]).run Try.prog w = .ok (.value (.bool false)) w := by
  rw [run_callFunc_extern Try.func36 (by kernel_rfl) (by kernel_rfl) (by kernel_rfl) (e := Extern.SlicesOverlaps.overlaps #[37, 37] #[4]) (by kernel_rfl),
    Lib.run_overlaps_apart w 37 4 40 Try.underlying37 4 sizeLetter ⟨vb, 0, none⟩ ⟨g, o, none⟩ la ca lb cb hvb 40 40 l.length cur.size (by simp [World.shape?, h1]) (by simp [World.shape?, h2]) hc (by simp [World.frozen?, h1]) (by simp [World.frozen?, h1])]
  rfl
theorem step_copy_run {P : Program} {ops : Array Oper} {o : Oper} {a : Act} {w : World} {K : Act → World → Prop} {Q : Exit → Act → World → Prop} {E : Prop} (hg : o.guard = none) (d x : Operand) (t : TypeId)
    (hop : o.op = Op.call { callee := Callee.builtin Builtin.copy, args := #[d, x], argTypes := #[t, t] }) (v1 v2 v' : Value) (h1 : a.eval d = v1) (h2 : a.eval x = v2) (w' : World)
    (hr : (Builtin.copy_ #[t, t] o.type #[v1, v2]).run P w = .ok v' w') (hK : K (a.put o.dst v') w') : if Region.wanted o (yielded ops a.tmps) = true then Oper.wp P o a w K Q else E := by
  have hw : Region.wanted o (yielded ops a.tmps) = true := by simp [Region.wanted, hg]
  rw [if_pos hw]
  unfold Oper.wp
  simp [execOp, hop, resolve, invoke, builtin, h1, h2, hr, Result.andThen]
  exact hK
theorem wpList_copy_run {P : Program} {w : World} {ops : Array Oper} {rest : List Oper} {o : Oper} {a : Act} {Q : Exit → Act → World → Prop} (hgd : o.guard = none) (d x : Operand) (t : TypeId)
    (hop : o.op = .call { callee := .builtin .copy, args := #[d, x], argTypes := #[t, t] }) (v1 v2 v' : Value) (h1 : a.eval d = v1) (h2 : a.eval x = v2) (w' : World)
    (hr : (Builtin.copy_ #[t, t] o.type #[v1, v2]).run P w = .ok v' w') (h : wpList P ops Q rest (a.put o.dst v') w') : wpList P ops Q (o :: rest) a w := by
  refine wpList_plain hgd fun K hK => ?_
  unfold Oper.wp
  simp [execOp, hop, resolve, invoke, builtin, h1, h2, hr, Result.andThen]
  exact hK _ _ h
theorem setRow_grown (w : World) (g : Nat) (cs : Array Value) : w.grownBy (w.setRow g cs) (some g) := ⟨rfl, rfl, rfl, by simp, fun j _ hj => setRow_other w g j _ (fun e => hj (by simp [e]))⟩

theorem room_list (A F L : List Value) (p n : Nat) (hA : A.take (n * 4) = F) (hn : F.length = n * 4) (hp : p < n) (hfit : (n + 1) * 4 ≤ A.length) (hL : L.length = 4) (A1 A2 : List Value)
    (h1 : A1 = A.take ((p + 1) * 4) ++ F.drop (p * 4) ++ A.drop ((p + 1) * 4 + (F.drop (p * 4)).length)) (h2 : A2 = A1.take (p * 4) ++ L ++ A1.drop (p * 4 + L.length)) :
    A2.take ((n + 1) * 4) = F.take (p * 4) ++ (L ++ F.drop (p * 4)) ∧ A1.length = A.length ∧ A2.length = A.length := by
  have hQ : ∃ Q, A.take ((p + 1) * 4) = F.take (p * 4) ++ Q ∧ Q.length = 4 := by
    refine ⟨(A.take ((p + 1) * 4)).drop (p * 4), ?_, ?_⟩
    · have e := (List.take_append_drop (p * 4) (A.take ((p + 1) * 4))).symm
      rw [List.take_take, Nat.min_eq_left (by omega)] at e
      rw [← hA, List.take_take, Nat.min_eq_left (by omega)]
      exact e
    · rw [List.length_drop, List.length_take]; omega
  obtain ⟨Q, hQ1, hQ2⟩ := hQ
  have hF1 : (F.take (p * 4)).length = p * 4 := by rw [List.length_take]; omega
  have hF2 : (F.drop (p * 4)).length = n * 4 - p * 4 := by rw [List.length_drop, hn]
  rw [hQ1] at h1
  generalize F.take (p * 4) = F1 at *
  generalize F.drop (p * 4) = F2 at *
  have hT : (A.drop ((p + 1) * 4 + F2.length)).length = A.length - ((p + 1) * 4 + F2.length) := List.length_drop
  generalize A.drop ((p + 1) * 4 + F2.length) = T at *
  have e1 : A1.take (p * 4) = F1 := by rw [h1, List.append_assoc, List.append_assoc, ← hF1]; exact List.take_left
  have e2 : A1.drop (p * 4 + L.length) = F2 ++ T := by
    rw [h1, List.append_assoc, show p * 4 + L.length = (F1 ++ Q).length by rw [List.length_append]; omega]
    exact List.drop_left
  rw [e1, e2] at h2
  refine ⟨?_, ?_, ?_⟩
  · rw [h2, ← List.append_assoc, show (n + 1) * 4 = (F1 ++ L ++ F2).length by simp only [List.length_append]; omega, List.take_left, List.append_assoc]
  · rw [h1]; simp only [List.length_append]; omega
  · rw [h2]; simp only [List.length_append]; omega

set_option maxHeartbeats 4000000 in
set_option maxRecDepth 100000 in
theorem insert_room {B : Nat} {us : List Ltr} {p g cap : Nat} {cur : Array Value} {w : World} (vb : Nat) (l : Ltr) (hp : p < us.length) (hB : B ≤ g)
    (hg : w.heap[g]? = some (.cells cur 40 (0, 0))) (hcap : us.length + 1 ≤ cap) (hc63 : cap ≤ 9223372036854775807) (hcs : cur.size = cap * 4) (htk : cur.toList.take (us.length * 4) = flat us)
    (hv : w.heap[vb]? = some (.cells l.cells.toArray 40 (0, 0))) (hvb : vb ≠ g) (lim : us.length ≤ 1000000) :
    Calls Try.prog 33 #[.slice (some ⟨g, 0, none⟩) us.length cap, .int .i64 p, .slice (some ⟨vb, 0, none⟩) 1 1] w fun e w' =>
      e = .returned (.slice (some ⟨g, 0, none⟩) (us.length + 1) cap) ∧ owns w' B (.slice (some ⟨g, 0, none⟩) (us.length + 1) cap) (us.take p ++ l :: us.drop p) ∧ w.grownBy w' (some g) := by
  have hov := fun la ca lb cb o => overlaps_not w vb g o l.cells cur hvb hv hg (by omega) la ca lb cb
  have hw1 : IntKind.i64.wrap ((p : Int) + 1) = (p : Int) + 1 := by rw [IntKind.wrap_i64] <;> omega
  have hb1 : (0 : Int) ≤ (p : Int) + 1 := by omega
  have hb3 : (p : Int) ≤ (us.length : Int) + 1 := by omega
  have htn : ((p : Int) + 1).toNat = p + 1 := by omega
  have hin : (p : Int) ≤ (us.length : Int) := by omega
  have hz2 : ¬ ((p : Int) = (us.length : Int)) := by omega
  have hpp : ¬ (cap = p) := by omega
  have hpp1 : ¬ (cap = p + 1) := by omega
  have hfl := flat_len us
  have hdl : ((flat us).drop (p * 4)).length = (us.length - p) * 4 := by rw [List.length_drop, hfl, Nat.sub_mul]
  have hLc : l.cells.length = 4 := rfl
  have hcl : cur.toList.length = cap * 4 := by rw [Array.length_toList, hcs]
  have hown : w.drew.ownsRow B 40 4 (.slice (some ⟨g, 0, none⟩) us.length cap) us.length (flat us) := ⟨hfl, .inr ⟨g, cap, cur, rfl, hB, hg, by omega, by unfold maxLen; omega, hcs, htk⟩⟩
  obtain ⟨A1, hA1⟩ : ∃ A1, A1 = cur.toList.take ((p + 1) * 4) ++ (flat us).drop (p * 4) ++ cur.toList.drop ((p + 1) * 4 + ((flat us).drop (p * 4)).length) := ⟨_, rfl⟩
  obtain ⟨A2, hA2⟩ : ∃ A2, A2 = A1.take (p * 4) ++ l.cells ++ A1.drop (p * 4 + l.cells.length) := ⟨_, rfl⟩
  obtain ⟨r1, r2, r3⟩ := room_list cur.toList (flat us) l.cells p us.length htk hfl hp (by omega) hLc A1 A2 hA1 hA2
  have cp1 := run_copy4 w.drew g ((p + 1) * 4) cur hg (us.length - p) (cap - (p + 1)) ⟨g, p * 4, none⟩ (us.length + 1 - p) (cap - p) (us.length - p) ((flat us).drop (p * 4)) (by simp only [Nat.min_def]; split <;> omega) hdl
    (fun j u hj => by
      rw [List.getElem?_drop] at hj
      have := hown.cells (g := g) rfl (p * 4 + j) u hj
      rw [addP] at this ⊢
      simpa using this) (fun v hv => flat_one us v (List.mem_of_mem_drop hv)) (by omega) 3
  rw [← hA1] at cp1
  have g1 := setRow_grown w.drew g A1.toArray
  have hg1 : (w.drew.setRow g A1.toArray).heap[g]? = some (.cells A1.toArray 40 (0, 0)) := setRow_heap w.drew g cur _ _ _ hg
  have hv1 : (w.drew.setRow g A1.toArray).heap[vb]? = some (.cells l.cells.toArray 40 (0, 0)) := (g1.block vb (Array.getElem?_eq_some_iff.1 hv).1 (by simpa using hvb)).trans hv
  obtain ⟨w1, hw⟩ : ∃ w1, w1 = w.drew.setRow g A1.toArray := ⟨_, rfl⟩
  rw [← hw] at cp1 g1 hg1 hv1
  have cp2 := run_copy4 w1 g (p * 4) A1.toArray hg1 (us.length + 1 - p) (cap - p) ⟨vb, 0, none⟩ 1 1 1 l.cells (by simp only [Nat.min_def]; split <;> omega) rfl
    (fun j u hj => by rw [addP, Lib.cell_of_heap hv1, Nat.zero_add]; simpa using hj) (fun u hu => by simp [Ltr.cells] at hu; rcases hu with rfl | rfl | rfl | rfl <;> rfl) (by simp only [List.size_toArray]; omega) 3
  simp only [← hA2] at cp2
  have g2 := setRow_grown w1 g A2.toArray
  have hg2 : (w1.setRow g A2.toArray).heap[g]? = some (.cells A2.toArray 40 (0, 0)) := setRow_heap w1 g _ _ _ _ hg1
  obtain ⟨w2, hw'⟩ : ∃ w2, w2 = w1.setRow g A2.toArray := ⟨_, rfl⟩
  rw [← hw'] at cp2 g2 hg2
  have fin : owns w2 B (.slice (some ⟨g, 0, none⟩) (us.length + 1) cap) (us.take p ++ l :: us.drop p) ∧ w.grownBy w2 (some g) := by
    refine ⟨⟨flat_len _, .inr ⟨g, cap, A2.toArray, ?_, hB, hg2, ?_, by unfold maxLen; omega, by simp only [List.size_toArray]; omega, ?_⟩⟩, ?_⟩
    · congr 1; simp; omega
    · simp; omega
    · rw [show (us.take p ++ l :: us.drop p).length = us.length + 1 by simp; omega, flat_append, flat_cons, ← flat_take, ← flat_drop]
      exact r1
    · exact World.grownBy.trans (b := w1) ⟨g1.os, g1.tape, g1.output, g1.size, g1.block⟩ g2
  clear hown hA1 hA2 r1 r2 r3 hg1 hv1 hw hw' hg2 g1 g2 htk hdl hfl hg hv
  have C1 := Lib.hid cp1
  have C2 := Lib.hid cp2
  clear cp1 cp2
  go_enter Try.func33, Try.ntmps33
  go_wp2_with (simp only [hov])
  go_region_law (refine step_copy_run rfl (.tmp 73) (.tmp 76) 37 rfl _ _ _ (by simp [Act.eval, Act.put]) (by simp [Act.eval, Act.put]) _ C1.out ?_)
  go_wp2_with (refine wpList_copy_run rfl _ _ 37 rfl _ _ _ rfl rfl _ C2.out ?_)
  go_ret
  exact ⟨rfl, fin⟩
theorem grow_list (R F L : List Value) (p n : Nat) (hX : R.take (p * 4) = F.take (p * 4)) (hn : F.length = n * 4) (hp : p < n) (hfit : (n + 1) * 4 ≤ R.length) (hL : L.length = 4) (A1 A2 : List Value)
    (h1 : A1 = R.take (p * 4) ++ L ++ R.drop (p * 4 + L.length)) (h2 : A2 = A1.take ((p + 1) * 4) ++ F.drop (p * 4) ++ A1.drop ((p + 1) * 4 + (F.drop (p * 4)).length)) :
    A2.take ((n + 1) * 4) = F.take (p * 4) ++ (L ++ F.drop (p * 4)) ∧ A1.length = R.length ∧ A2.length = R.length := by
  have hF1 : (F.take (p * 4)).length = p * 4 := by rw [List.length_take]; omega
  have hF2 : (F.drop (p * 4)).length = n * 4 - p * 4 := by rw [List.length_drop, hn]
  rw [hX] at h1
  generalize F.take (p * 4) = F1 at *
  generalize F.drop (p * 4) = F2 at *
  have hT : (R.drop (p * 4 + L.length)).length = R.length - (p * 4 + L.length) := List.length_drop
  generalize R.drop (p * 4 + L.length) = T at *
  have hl1 : A1.length = R.length := by rw [h1]; simp only [List.length_append]; omega
  have e1 : A1.take ((p + 1) * 4) = F1 ++ L := by rw [h1, show (p + 1) * 4 = (F1 ++ L).length by simp only [List.length_append]; omega]; exact List.take_left
  rw [e1] at h2
  have hT2 : (A1.drop ((p + 1) * 4 + F2.length)).length = A1.length - ((p + 1) * 4 + F2.length) := List.length_drop
  refine ⟨?_, hl1, ?_⟩
  · rw [h2, show (n + 1) * 4 = (F1 ++ L ++ F2).length by simp only [List.length_append]; omega, List.take_left, List.append_assoc]
  · rw [h2]; simp only [List.length_append]; omega

set_option maxHeartbeats 4000000 in
set_option maxRecDepth 100000 in
theorem insert_grow {B : Nat} {us : List Ltr} {p g cap : Nat} {w : World} (vb : Nat) (l : Ltr) (hp : p < us.length)
    (hown : w.ownsRow B 40 4 (.slice (some ⟨g, 0, none⟩) us.length cap) us.length (flat us)) (hBw : B ≤ w.heap.size) (hnc : us.length ≤ cap) (hroom : cap < us.length + 1)
    (hv : w.heap[vb]? = some (.cells l.cells.toArray 40 (0, 0))) (lim : us.length ≤ 1000000) :
    Calls Try.prog 33 #[.slice (some ⟨g, 0, none⟩) us.length cap, .int .i64 p, .slice (some ⟨vb, 0, none⟩) 1 1] w fun e w' =>
      ∃ v', e = .returned v' ∧ owns w' B v' (us.take p ++ l :: us.drop p) ∧ w.grownBy w' (some g) ∧ v'.ownBlock = some w.heap.size := by
  obtain ⟨i0, hi, hz0, hz1, hz2⟩ := info_parts infoLetter
  have hz3 : (cap : Int) < (us.length : Int) + 1 := by omega
  have hw1 : IntKind.i64.wrap ((p : Int) + 1) = (p : Int) + 1 := by rw [IntKind.wrap_i64] <;> omega
  have hb1 : (0 : Int) ≤ (p : Int) + 1 := by omega
  have hb3 : (p : Int) ≤ (us.length : Int) + 1 := by omega
  have htn : ((p : Int) + 1).toNat = p + 1 := by omega
  have hin : (p : Int) ≤ (us.length : Int) := by omega
  have hz2' : ¬ ((p : Int) = (us.length : Int)) := by omega
  have hpp : ¬ (cap = p) := by omega
  have hfl := flat_len us
  have hdl : ((flat us).drop (p * 4)).length = (us.length - p) * 4 := by rw [List.length_drop, hfl, Nat.sub_mul]
  have hLc : l.cells.length = 4 := rfl
  have hgw : g < w.heap.size := (World.ownsRow.lt hown g rfl).2
  have hvw : vb < w.heap.size := (Array.getElem?_eq_some_iff.1 hv).1
  have hkk : (us.length : Int) + 1 - (p : Int) = ((us.length + 1 - p : Nat) : Int) := by omega
  have hik : p + (us.length + 1 - p) = us.length + 1 := by omega
  have hold : (Builtin.firstCells i0.size p (.slice (some ⟨g, 0, none⟩) p cap)).run Try.prog w.drew = .ok ((flat us).take (p * 4)).toArray w.drew := by
    rw [hz1]
    exact run_firstCells_some w.drew 4 p ⟨g, 0, none⟩ p cap ((flat us).take (p * 4)) (by rw [List.length_take]; omega) (fun j v hj => by
      rw [List.getElem?_take] at hj
      split at hj
      · exact hown.cells (g := g) rfl j v hj
      · cases hj)
  have hrz : ∀ ty, (Builtin.append_ #[37, 3] ty #[.slice (some ⟨g, 0, none⟩) p cap, .int .i64 ((us.length : Int) + 1 - (p : Int))]).run Try.prog w =
      .ok (.slice (some ⟨w.heap.size, 0, none⟩) (us.length + 1) (grownCap w (us.length + 1) cap 40)) (w.drew.alloc (.cells (((flat us).take (p * 4)).toArray ++ Builtin.zeroCells zeroLetter.cells (us.length + 1 - p) ++ Builtin.zeroCells zeroLetter.cells (grownCap w (us.length + 1) cap 40 - (us.length + 1))) 40)) := fun ty => by
    have h := Lib.run_append_grow_zeros w 37 3 ty 40 i0 zeroLetter .i64 .i64 Try.underlying37 Try.underlying3 hi hz0 (some ⟨g, 0, none⟩) p cap ((flat us).take (p * 4)) hold (us.length + 1 - p) (by omega) (by omega) (by omega) (by omega) (by rw [hz2]; omega) (by rw [hz2, hik]; exact growslice_fits (by omega) (by omega))
    rw [hik] at h
    rw [hkk]
    exact h
  have hGn : us.length + 1 ≤ grownCap w (us.length + 1) cap 40 := grownCap_ge w _ _ _
  have hG63 : grownCap w (us.length + 1) cap 40 ≤ 9223372036854775807 := by
    have := grownCap_le_maxLen w (us.length + 1) cap 40 (by unfold maxLen; omega)
    unfold maxLen at this
    omega
  generalize grownCap w (us.length + 1) cap 40 = G at *
  obtain ⟨R, hR⟩ : ∃ R : List Value, R = (((flat us).take (p * 4)).toArray ++ Builtin.zeroCells zeroLetter.cells (us.length + 1 - p) ++ Builtin.zeroCells zeroLetter.cells (G - (us.length + 1))).toList := ⟨_, rfl⟩
  have hRa : (((flat us).take (p * 4)).toArray ++ Builtin.zeroCells zeroLetter.cells (us.length + 1 - p) ++ Builtin.zeroCells zeroLetter.cells (G - (us.length + 1))) = R.toArray := by rw [hR]
  rw [hRa] at hrz
  have hz4 : zeroLetter.cells.size = 4 := by kernel_rfl
  have hRl : R.length = G * 4 := by
    rw [hR, Array.length_toList, Array.size_append, Array.size_append, size_zeroCells, size_zeroCells, hz4]
    simp only [List.size_toArray, List.length_take]
    omega
  have hRx : R.take (p * 4) = (flat us).take (p * 4) := by
    have hl : ((flat us).take (p * 4)).length = p * 4 := by rw [List.length_take]; omega
    rw [hR]
    simp only [Array.toList_append, List.append_assoc]
    generalize (flat us).take (p * 4) = X at *
    rw [← hl]
    exact List.take_left
  obtain ⟨A1, hA1⟩ : ∃ A1, A1 = R.take (p * 4) ++ l.cells ++ R.drop (p * 4 + l.cells.length) := ⟨_, rfl⟩
  obtain ⟨A2, hA2⟩ : ∃ A2, A2 = A1.take ((p + 1) * 4) ++ (flat us).drop (p * 4) ++ A1.drop ((p + 1) * 4 + ((flat us).drop (p * 4)).length) := ⟨_, rfl⟩
  obtain ⟨r1, r2, r3⟩ := grow_list R (flat us) l.cells p us.length hRx hfl hp (by omega) hLc A1 A2 hA1 hA2
  obtain ⟨w1, hw1'⟩ : ∃ w1, w1 = w.drew.alloc (.cells R.toArray 40) := ⟨_, rfl⟩
  rw [← hw1'] at hrz
  have g0 : w.grownBy w1 (some g) := by
    have x := World.grownBy_alloc w.drew (.cells R.toArray 40) (some g)
    rw [hw1']
    exact ⟨x.os, x.tape, x.output, x.size, x.block⟩
  have hN1 : w1.heap[w.heap.size]? = some (.cells R.toArray 40 (0, 0)) := by rw [hw1']; exact heap_push1 w.drew _
  have hv1 : w1.heap[vb]? = some (.cells l.cells.toArray 40 (0, 0)) := by rw [hw1']; exact heap_keep (w := w.drew) hv _
  have ho1 : w1.ownsRow B 40 4 (.slice (some ⟨g, 0, none⟩) us.length cap) us.length (flat us) := by rw [hw1']; exact World.ownsRow.alloc (World.ownsRow.drew hown) _
  have cpA := run_copy4 w1 w.heap.size (p * 4) R.toArray hN1 (us.length + 1 - p) (G - p) ⟨vb, 0, none⟩ 1 1 1 l.cells (by simp only [Nat.min_def]; split <;> omega) rfl
    (fun j u hj => by rw [addP, Lib.cell_of_heap hv1, Nat.zero_add]; simpa using hj) (fun u hu => by simp [Ltr.cells] at hu; rcases hu with rfl | rfl | rfl | rfl <;> rfl) (by simp only [List.size_toArray]; omega) 3
  simp only [← hA1] at cpA
  have g1 := setRow_grown w1 w.heap.size A1.toArray
  have hN2 : (w1.setRow w.heap.size A1.toArray).heap[w.heap.size]? = some (.cells A1.toArray 40 (0, 0)) := setRow_heap w1 _ _ _ _ _ hN1
  have ho2 := World.ownsRow.kept ho1 g1 (.inr (by simp [Value.ownBlock]; omega))
  obtain ⟨w2, hw2'⟩ : ∃ w2, w2 = w1.setRow w.heap.size A1.toArray := ⟨_, rfl⟩
  rw [← hw2'] at cpA g1 hN2 ho2
  have cpB := run_copy4 w2.drew w.heap.size ((p + 1) * 4) A1.toArray hN2 (us.length - p) (G - (p + 1)) ⟨g, p * 4, none⟩ (us.length - p) (cap - p) (us.length - p) ((flat us).drop (p * 4)) (Nat.min_self _) hdl
    (fun j u hj => by
      rw [List.getElem?_drop] at hj
      have := ho2.drew.cells (g := g) rfl (p * 4 + j) u hj
      rw [addP] at this ⊢
      simpa using this) (fun v hv => flat_one us v (List.mem_of_mem_drop hv)) (by simp only [List.size_toArray]; omega) 3
  simp only [← hA2] at cpB
  have g2 := setRow_grown w2.drew w.heap.size A2.toArray
  have hN3 : (w2.drew.setRow w.heap.size A2.toArray).heap[w.heap.size]? = some (.cells A2.toArray 40 (0, 0)) := setRow_heap w2.drew _ _ _ _ _ hN2
  obtain ⟨w3, hw3'⟩ : ∃ w3, w3 = w2.drew.setRow w.heap.size A2.toArray := ⟨_, rfl⟩
  rw [← hw3'] at cpB g2 hN3
  have fin : owns w3 B (.slice (some ⟨w.heap.size, 0, none⟩) (us.length + 1) G) (us.take p ++ l :: us.drop p) ∧ w.grownBy w3 (some g) := by
    have hll : (us.take p ++ l :: us.drop p).length = us.length + 1 := by simp; omega
    refine ⟨⟨flat_len _, .inr ⟨w.heap.size, G, A2.toArray, by rw [hll], hBw, hN3, by rw [hll]; exact hGn, by unfold maxLen; omega, by simp only [List.size_toArray]; omega, ?_⟩⟩, ?_⟩
    · rw [hll, flat_append, flat_cons, ← flat_take, ← flat_drop]
      exact r1
    · refine ⟨g2.os.trans (g1.os.trans g0.os), g2.tape.trans (g1.tape.trans g0.tape), g2.output.trans (g1.output.trans g0.output), Nat.le_trans g0.size (Nat.le_trans g1.size g2.size), fun k hk hne => ?_⟩
      have s0 := g0.size
      have s1 := g1.size
      rw [g2.block k (show k < w2.heap.size by omega) (by simp; omega)]
      show w2.heap[k]? = _
      rw [g1.block k (by omega) (by simp; omega)]
      exact g0.block k hk hne
  have hGi : ¬ (G = p) := by omega
  have hGi1 : ¬ (G = p + 1) := by omega
  clear hown hA1 hA2 r1 r2 r3 hN1 hv1 ho1 hN2 ho2 hN3 hw1' hw2' hw3' g0 g1 g2 hdl hfl hv hR hRa hRl hRx hold hkk hik
  have C0 := Lib.hid hrz
  have C1 := Lib.hid cpA
  have C2 := Lib.hid cpB
  clear hrz cpA cpB
  go_enter Try.func33, Try.ntmps33
  go_wp2_with (first
    | (at_builtin; refine Lib.wpList_append_run _ rfl _ _ _ _ rfl _ _ rfl rfl _ _ (C0.out _) ?_)
    | (refine wpList_copy_run rfl _ _ 37 rfl _ _ _ rfl rfl _ C1.out ?_))
  go_region_law (refine step_copy_run rfl (.tmp 50) (.tmp 53) 37 rfl _ _ _ (by simp [Act.eval, Act.put]) (by simp [Act.eval, Act.put]) _ C2.out ?_)
  go_wp2_with fail
  go_ret
  exact ⟨_, rfl, fin.1, fin.2, rfl⟩

theorem insAt_any (B : Nat) (us : List Ltr) (p : Nat) (hp : p ≤ us.length) (lim : us.length ≤ 1000000) : InsAt B us p := by
  by_cases he : p = us.length
  · rw [he]; exact insAt_end B us lim
  · intro q s w vb id dest body tm hq hown hv hne hB
    subst hq
    rcases hown.2 with ⟨e1, e2⟩ | ⟨g, cap, cur, e1, r1, r2, r3, r4, r5, r6⟩
    · omega
    · subst e1
      by_cases hroom : us.length + 1 ≤ cap
      · refine (insert_room vb ⟨id, dest, body, tm⟩ (by omega) r1 r2 hroom (by unfold maxLen at r4; omega) r5 r6 hv (fun e => hne (by rw [e]; rfl)) lim).mono ?_
        rintro e w' ⟨rfl, h1, h2⟩
        exact ⟨_, rfl, h1, h2, .inl rfl⟩
      · refine (insert_grow vb ⟨id, dest, body, tm⟩ (by omega) hown hB r3 (by omega) hv lim).mono ?_
        rintro e w' ⟨v', rfl, h1, h2, h3⟩
        exact ⟨v', rfl, h1, h2, .inr ⟨_, h3, Nat.le_refl _⟩⟩
end Go.Proofs.Ytdoghnpmbpomcaa
