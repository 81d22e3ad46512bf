/- slices.Delete of cases, of any part of a row of one's own. -/
import Derived.Test.YtcidllckmidkoaaDoorCas
namespace Go.Proofs.YtcidllckmidkoaaDoor
open Go.RowKit Go.Maps

theorem addM (b o j : Nat) : (⟨b, o, none⟩ : Addr).add j = ⟨b, o + j, none⟩ := by
  unfold Addr.add
  split
  · rename_i h; subst h; rfl
  · rfl
theorem own_head {w : World} {B n cap g i : Nat} {xs : List Value} (h : w.ownsRow B 28 9 (.slice (some ⟨g, 0, none⟩) n cap) n xs) (hi : i ≤ n) : w.ownsRow B 28 9 (.slice (some ⟨g, 0, none⟩) i cap) i (xs.take (i * 9)) := by
  have hl := h.1
  refine ⟨by rw [List.length_take]; omega, ?_⟩
  rcases h.2 with ⟨h1, _⟩ | ⟨g', cap', cur, h1, r1, r2, r3, r4, r5, r6⟩
  · simp at h1
  · simp only [Value.slice.injEq, Option.some.injEq, Addr.mk.injEq, and_true, true_and] at h1
    obtain ⟨rfl, rfl⟩ := h1
    exact .inr ⟨g, cap, cur, rfl, r1, r2, by omega, r4, r5, by rw [← r6, List.take_take]; congr 1; omega⟩
theorem own_cap {w : World} {B n cap g : Nat} {xs : List Value} (h : w.ownsRow B 28 9 (.slice (some ⟨g, 0, none⟩) n cap) n xs) : n ≤ cap ∧ cap ≤ maxLen := by
  rcases h.2 with ⟨e1, _⟩ | ⟨g', cap', cur, e1, r1, r2, r3, r4, r5, r6⟩
  · simp at e1
  · simp only [Value.slice.injEq, Option.some.injEq, Addr.mk.injEq, and_true, true_and] at e1
    obtain ⟨_, rfl⟩ := e1
    exact ⟨r3, r4⟩

theorem append_over {w : World} {B n i j cap g : Nat} {xs : List Value} (h : w.ownsRow B 28 9 (.slice (some ⟨g, 0, none⟩) n cap) n xs) (hij : i ≤ j) (hj : j ≤ n) (h1 : ∀ u ∈ xs, u.oneCell' = true) (ty : TypeId) (c q : Nat) (hq : q = j * 9 ∨ j = n) :
    ∃ w', (Builtin.append_ #[22, 22] ty #[.slice (some ⟨g, 0, none⟩) i cap, .slice (some ⟨g, q, none⟩) (n - j) c]).run Tryd.prog w = .ok (.slice (some ⟨g, 0, none⟩) (i + (n - j)) cap) w' ∧
      w'.ownsRow B 28 9 (.slice (some ⟨g, 0, none⟩) (i + (n - j)) cap) (i + (n - j)) (xs.take (i * 9) ++ xs.drop (j * 9)) ∧ w.grownBy w' (some g) := by
  obtain ⟨i0, hi, hz0, hz1, hz2⟩ := info_parts infoMsg
  obtain ⟨hcap, _⟩ := own_cap h
  have hl := h.1
  exact run_append_fits (P := Tryd.prog) w B 22 ty 28 i0 9 Tryd.underlying22 hi hz1 g i cap (xs.take (i * 9)) (own_head h (by omega)) ⟨g, q, none⟩ (n - j) c (xs.drop (j * 9)) (by rw [List.length_drop, hl, Nat.sub_mul])
    (fun k u hk => by
      rcases hq with rfl | rfl
      · rw [List.getElem?_drop] at hk
        have := h.cells (g := g) rfl (j * 9 + k) u hk
        rw [addM] at this ⊢
        simpa using this
      · rw [List.drop_eq_nil_of_le (by omega)] at hk
        simp at hk)
    (fun u hu => h1 u (List.mem_of_mem_drop hu)) (by omega)

def zeroMsg : Value := .agg #[.int .i64 0, .int .i64 0, .int .i64 0, .int .i64 0, .string ⟨#[]⟩, .string ⟨#[]⟩, .string ⟨#[]⟩, .string ⟨#[]⟩, .string ⟨#[]⟩]
theorem zeroMsg_run (w : World) : (zeroValue 28).run Tryd.prog w = .ok zeroMsg w := by kernel_rfl
theorem mzeros_one (k : Nat) : ∀ v ∈ (Builtin.zeroCells zeroMsg.cells k).toList, v.oneCell' = true := by
  intro v hv
  have h4 : ∀ x ∈ zeroMsg.cells.toList, x.oneCell' = true := by decide +kernel
  have hz : zeroMsg.cells.size = 9 := by kernel_rfl
  obtain ⟨j, hj, rfl⟩ := List.getElem_of_mem hv
  simp only [Array.getElem_toList, Builtin.zeroCells]
  refine h4 _ ?_
  simp only [Array.getElem_map, Array.getElem_range, Array.mem_toList_iff]
  have hlt : j % zeroMsg.cells.size < zeroMsg.cells.size := Nat.mod_lt _ (by omega)
  rw [getElem!_pos zeroMsg.cells (j % zeroMsg.cells.size) hlt]
  exact Array.getElem_mem hlt
theorem clear_behind {w : World} {B m k cap g : Nat} {xs : List Value} (h : w.ownsRow B 28 9 (.slice (some ⟨g, 0, none⟩) m cap) m xs) (hk : 0 < k) (hmk : m + k ≤ cap) (ty : TypeId) (c q : Nat) (hq : q = m * 9) :
    ∃ w', (Builtin.clear_ #[22] ty #[.slice (some ⟨g, q, none⟩) k c]).run Tryd.prog w = .ok (.tuple #[]) w' ∧
      w'.ownsRow B 28 9 (.slice (some ⟨g, 0, none⟩) m cap) m xs ∧ w.grownBy w' (some g) := by
  subst hq
  have hl := h.1
  rcases h.2 with ⟨e1, e2⟩ | ⟨g', cap', cur, e1, r1, r2, r3, r4, r5, r6⟩
  · simp at e1
  · simp only [Value.slice.injEq, Option.some.injEq, Addr.mk.injEq, and_true, true_and] at e1
    obtain ⟨rfl, rfl⟩ := e1
    have hz : zeroMsg.cells.size = 9 := by kernel_rfl
    have hzl : (Builtin.zeroCells zeroMsg.cells k).toList.length = k * 9 := by rw [Array.length_toList, size_zeroCells, hz]
    have hst := run_storeCells_at (P := Tryd.prog) g (m * 9) 28 (Builtin.zeroCells zeroMsg.cells k).toList 0 cur w r2 (by rw [hzl, r5]; omega) (mzeros_one k)
    simp only [Nat.add_zero] at hst
    obtain ⟨k', rfl⟩ : ∃ k', k = k' + 1 := ⟨k - 1, by omega⟩
    obtain ⟨R, hR⟩ : ∃ R, R = (cur.toList.take (m * 9) ++ (Builtin.zeroCells zeroMsg.cells (k' + 1)).toList ++ cur.toList.drop (m * 9 + (Builtin.zeroCells zeroMsg.cells (k' + 1)).toList.length)).toArray := ⟨_, rfl⟩
    rw [← hR] at hst
    have hrun : (Builtin.clear_ #[22] ty #[.slice (some ⟨g, m * 9, none⟩) (k' + 1) c]).run Tryd.prog w = .ok (.tuple #[]) (w.setRow g R) := by
      simp [Builtin.clear_, run_underlying Tryd.underlying22]
      change ((storeCells ⟨g, m * 9, none⟩ (Builtin.zeroCells zeroMsg.cells (k' + 1)).toList).run Tryd.prog w).andThen _ = _
      rw [hst]
      rfl
    refine ⟨w.setRow g R, hrun, ⟨hl, .inr ⟨g, cap, R, rfl, r1, setRow_heap w g cur _ _ _ r2, r3, r4, ?_, ?_⟩⟩, ⟨rfl, rfl, rfl, by simp, fun j _ hj => setRow_other w g j _ (fun e => hj (by simp [e]))⟩⟩
    · rw [hR]
      simp only [List.size_toArray, List.length_append, List.length_take, List.length_drop, hzl]
      rw [Array.length_toList, r5]
      omega
    · have hlen : (cur.toList.take (m * 9)).length = m * 9 := by rw [r6]; exact hl
      rw [hR, ← r6, List.append_assoc]
      generalize (Builtin.zeroCells zeroMsg.cells (k' + 1)).toList ++ cur.toList.drop (m * 9 + (Builtin.zeroCells zeroMsg.cells (k' + 1)).toList.length) = Z
      generalize cur.toList.take (m * 9) = X at *
      have e := List.take_left (l₁ := X) (l₂ := Z)
      rw [hlen] at e
      exact e

theorem step_append_at {P : Program} {ops : Array Oper} {o : Oper} {a : Act} {w : World} {K : Act → World → Prop} {Q : Exit → Act → World → Prop} {E : Prop} (hg : o.guard = none) (d x : Operand) (t : TypeId)
    (hop : o.op = Op.call { callee := Callee.builtin Builtin.append, args := #[d, x], argTypes := #[t, t] }) (v1 v2 v' : Value) (h1 : a.eval d = v1) (h2 : a.eval x = v2) (w' : World)
    (hr : (Builtin.append_ #[t, t] o.type #[v1, v2]).run P w = .ok v' w') (hK : K (a.put o.dst v') w') : if Region.wanted o (yielded ops a.tmps) = true then Oper.wp P o a w K Q else E := by
  have hw : Region.wanted o (yielded ops a.tmps) = true := by simp [Region.wanted, hg]
  rw [if_pos hw]
  unfold Oper.wp
  simp [execOp, hop, resolve, invoke, builtin, h1, h2, hr, Result.andThen]
  exact hK

set_option maxHeartbeats 4000000 in
set_option maxRecDepth 100000 in
theorem mdelete_any (B n i j cap g : Nat) (xs : List Value) (w : World) (hown : w.ownsRow B 28 9 (.slice (some ⟨g, 0, none⟩) n cap) n xs) (hij : i < j) (hj : j ≤ n) (h1 : ∀ u ∈ xs, u.oneCell' = true) :
    Calls Tryd.prog 33 #[.slice (some ⟨g, 0, none⟩) n cap, .int .i64 i, .int .i64 j] w fun e w' => e = .returned (.slice (some ⟨g, 0, none⟩) (i + (n - j)) cap) ∧ w'.ownsRow B 28 9 (.slice (some ⟨g, 0, none⟩) (i + (n - j)) cap) (i + (n - j)) (xs.take (i * 9) ++ xs.drop (j * 9)) ∧ w.grownBy w' (some g) := by
  obtain ⟨hnc, hc⟩ := own_cap hown
  unfold maxLen at hc
  have hne : ¬ (i : Int) = j := by omega
  have hownD : w.drew.ownsRow B 28 9 (.slice (some ⟨g, 0, none⟩) n cap) n xs := hown
  have hi1 : (i : Int) ≤ j := by omega
  have hj1 : (j : Int) ≤ n := by omega
  have hic : i ≤ cap := by omega
  obtain ⟨m, hm⟩ : ∃ m, i + (n - j) = m := ⟨_, rfl⟩
  by_cases hck : cap = j
  · have hnc2 : n = cap := by omega
    subst hnc2
    subst hck
    obtain ⟨w2, ha, hown2, hg2⟩ := append_over (i := i) hownD (by omega) hj h1 22 0 0 (.inr rfl)
    rw [hm] at ha hown2 ⊢
    rw [Nat.sub_self] at ha
    obtain ⟨w3, hc3, hown3, hg3⟩ := clear_behind (k := n - m) hown2 (by omega) (by omega) 0 (n - m) (m * 9) rfl
    have HA := Lib.hid ha
    clear ha
    go_enter Tryd.func33, Tryd.ntmps33
    go_wp2_with fail
    go_region_law (refine step_append_at rfl (.tmp 22) (.tmp 25) 22 rfl _ _ _ (by simp [Act.eval, Act.put]) (by simp [Act.eval, Act.put]) _ HA.out ?_)
    go_wp2_with fail
    go_ret
    exact ⟨rfl, hown3, World.grownBy.trans (a := w) (b := w2) ⟨hg2.os, hg2.tape, hg2.output, hg2.size, hg2.block⟩ hg3⟩
  · obtain ⟨w2, ha, hown2, hg2⟩ := append_over (i := i) hownD (by omega) hj h1 22 (cap - j) (j * 9) (.inl rfl)
    rw [hm] at ha hown2 ⊢
    obtain ⟨w3, hc3, hown3, hg3⟩ := clear_behind (k := n - m) hown2 (by omega) (by omega) 0 (cap - m) (m * 9) rfl
    have HA := Lib.hid ha
    clear ha
    go_enter Tryd.func33, Tryd.ntmps33
    go_wp2_with fail
    go_region_law (refine step_append_at rfl (.tmp 22) (.tmp 25) 22 rfl _ _ _ (by simp [Act.eval, Act.put]) (by simp [Act.eval, Act.put]) _ HA.out ?_)
    go_wp2_with fail
    go_ret
    exact ⟨rfl, hown3, World.grownBy.trans (a := w) (b := w2) ⟨hg2.os, hg2.tape, hg2.output, hg2.size, hg2.block⟩ hg3⟩
end Go.Proofs.YtcidllckmidkoaaDoor
