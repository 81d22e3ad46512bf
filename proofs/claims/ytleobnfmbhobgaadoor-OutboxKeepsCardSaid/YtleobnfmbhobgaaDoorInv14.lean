/- What holds of a row of messages, whatever was done: plain. -/
import Derived.Test.YtleobnfmbhobgaaDoorOnc14
namespace Go.Proofs.YtleobnfmbhobgaaDoor
open Go.RowKit Go.Maps

/-- A row: numbers rise, each message may be, none above the last number; 40 at most. -/
def INV (last : Nat) (L : List Msg) : Prop := L.Pairwise (fun a b => a.id < b.id) ∧ (∀ m ∈ L, rightB m = true ∧ m.id ≤ last) ∧ L.length ≤ 40
theorem inv_nil (last : Nat) : INV last [] := ⟨List.Pairwise.nil, by simp, by simp⟩
theorem INV.sub {last : Nat} {L L' : List Msg} (h : INV last L) (s : L'.Sublist L) : INV last L' := ⟨h.1.sublist s, fun m hm => h.2.1 m (s.subset hm), Nat.le_trans s.length_le h.2.2⟩
theorem clk_range (n t : Int) : 0 ≤ clk n t ∧ clk n t ≤ 1099511627776 := by
  unfold clk
  split <;> omega
theorem right_parts {m : Msg} (h : rightB m = true) : 1 ≤ m.id ∧ m.id ≤ 1099511627776 ∧ kindOf m.dest ≠ 0 ∧ m.body.toList.isEmpty = false ∧ m.body.size ≤ 80 ∧ 0 ≤ m.att ∧ m.att ≤ 8 ∧ 0 ≤ m.due ∧ m.due ≤ 1099511627776 ∧ m.dead = gone m.att := by
  unfold rightB at h
  simp only [Bool.and_eq_true, decide_eq_true_eq, Bool.not_eq_true', beq_iff_eq] at h
  obtain ⟨⟨⟨⟨⟨⟨⟨⟨⟨a, b⟩, c⟩, d⟩, e⟩, f⟩, g⟩, i⟩, j⟩, k⟩ := h
  exact ⟨a, b, c, d, e, f, g, i, j, k⟩
theorem right_of {m : Msg} (h : 1 ≤ m.id ∧ m.id ≤ 1099511627776 ∧ kindOf m.dest ≠ 0 ∧ m.body.toList.isEmpty = false ∧ m.body.size ≤ 80 ∧ 0 ≤ m.att ∧ m.att ≤ 8 ∧ 0 ≤ m.due ∧ m.due ≤ 1099511627776 ∧ m.dead = gone m.att) : rightB m = true := by
  obtain ⟨a, b, c, d, e, f, g, i, j, k⟩ := h
  unfold rightB
  simp only [Bool.and_eq_true, decide_eq_true_eq, Bool.not_eq_true', beq_iff_eq]
  exact ⟨⟨⟨⟨⟨⟨⟨⟨⟨a, b⟩, c⟩, d⟩, e⟩, f⟩, g⟩, i⟩, j⟩, k⟩
theorem live_parts {L : List Msg} {id : Nat} (h : live L id = true) : pos L id < L.length ∧ (L[pos L id]?.getD noMsg).dead = false := by
  unfold live at h
  simpa using h
theorem fail_right {m : Msg} (now : Int) (h : rightB m = true) (hd : m.dead = false) : rightB (failM m now) = true := by
  obtain ⟨a, b, c, d, e, f, g, i, j, k⟩ := right_parts h
  have h8 : m.att < 8 := by
    rw [k] at hd
    unfold gone at hd
    have := of_decide_eq_false hd
    omega
  have hw : IntKind.i64.wrap (m.att + 1) = m.att + 1 := by rw [IntKind.wrap_i64]; omega
  have hc := clk_range now (dly (m.att + 1))
  apply right_of
  unfold failM
  rw [hw]
  exact ⟨a, b, c, d, e, by show 0 ≤ m.att + 1; omega, by show m.att + 1 ≤ 8; omega, hc.1, hc.2, rfl⟩
theorem inv_fail {last : Nat} {L : List Msg} (h : INV last L) (id : Nat) (now : Int) : INV last (failR L id now) := by
  unfold failR
  split
  · rename_i hl
    obtain ⟨hp, hd⟩ := live_parts hl
    have hg : L[pos L id]?.getD noMsg = L[pos L id] := by rw [List.getElem?_eq_getElem hp]; rfl
    rw [hg] at hd ⊢
    refine ⟨?_, fun m hm => ?_, by rw [List.length_set]; exact h.2.2⟩
    · rw [List.pairwise_iff_getElem]
      intro i j hi hj hij
      rw [List.length_set] at hi hj
      have h0 := List.pairwise_iff_getElem.1 h.1 i j hi hj hij
      have hid : ∀ k (hk : k < L.length), ((L.set (pos L id) (failM L[pos L id] now))[k]'(by rw [List.length_set]; exact hk)).id = L[k].id := fun k hk => by
        rw [List.getElem_set]
        split
        · rename_i e
          subst e
          rfl
        · rfl
      rw [hid i hi, hid j hj]
      exact h0
    · rcases List.mem_or_eq_of_mem_set hm with hm | rfl
      · exact h.2.1 m hm
      · have hq := h.2.1 _ (List.getElem_mem hp)
        exact ⟨fail_right now hq.1 hd, hq.2⟩
  · exact h
theorem inv_take {last : Nat} {L : List Msg} (h : INV last L) (id : Nat) : INV last (takeR L id) := by
  unfold takeR
  split
  · apply h.sub
    have h1 := List.take_append_drop (pos L id) L
    have h2 : (L.drop (pos L id + 1)).Sublist (L.drop (pos L id)) := List.drop_sublist_drop_left _ (Nat.le_succ _)
    have h3 : (L.take (pos L id) ++ L.drop (pos L id + 1)).Sublist (L.take (pos L id) ++ L.drop (pos L id)) := List.Sublist.append (List.Sublist.refl _) h2
    rwa [h1] at h3
  · exact h
theorem inv_filter {last : Nat} {L : List Msg} (h : INV last L) (p : Msg → Bool) : INV last (L.filter p) := h.sub List.filter_sublist
theorem inv_last {last : Nat} {L : List Msg} (h : INV last L) (h0 : 0 < L.length) : lastId L ≤ last := by
  unfold lastId
  have hl : L.length - 1 < L.length := by omega
  rw [List.getElem?_eq_getElem hl]
  exact (h.2.1 _ (List.getElem_mem hl)).2
theorem inv_post {last : Nat} {L : List Msg} (h : INV last L) (hl : last + 1 ≤ 1099511627776) (n : Nat) (hn : 1 ≤ n) (hn2 : n ≤ 80) (now : Int) (h0 : 0 ≤ now) (h3 : now ≤ 1099511627776) :
    (L.length < 40 → postE L (msgL (last + 1) n) now = 0 ∧ postR L (msgL (last + 1) n) now = L ++ [postM (msgL (last + 1) n) now] ∧ INV (last + 1) (L ++ [postM (msgL (last + 1) n) now])) ∧
    (¬ L.length < 40 → postE L (msgL (last + 1) n) now = 15 ∧ postR L (msgL (last + 1) n) now = L) := by
  have hr := right_law (last + 1) n now (by omega) hl hn hn2 h0 h3
  have hnl : ¬ (0 < L.length ∧ (msgL (last + 1) n).id ≤ lastId L) := fun ⟨a, b⟩ => by
    have := inv_last h a
    have e : (msgL (last + 1) n).id = last + 1 := rfl
    omega
  refine ⟨fun h4 => ?_, fun h4 => ?_⟩
  · have e : postE L (msgL (last + 1) n) now = 0 := by
      unfold postE
      rw [hr, if_neg (by decide), if_neg hnl, if_neg (by omega)]
    refine ⟨e, by unfold postR; rw [e, if_pos rfl], ?_, fun m hm => ?_, by simp; omega⟩
    · rw [List.pairwise_append]
      refine ⟨h.1, List.pairwise_singleton _ _, fun a ha b hb => ?_⟩
      simp at hb
      subst hb
      have := (h.2.1 a ha).2
      show a.id < last + 1
      omega
    · rcases List.mem_append.1 hm with hm | hm
      · have := h.2.1 m hm
        exact ⟨this.1, by omega⟩
      · simp at hm
        subst hm
        exact ⟨hr, Nat.le_refl _⟩
  · have e : postE L (msgL (last + 1) n) now = 15 := by
      unfold postE
      rw [hr, if_neg (by decide), if_neg hnl, if_pos (by omega)]
    exact ⟨e, by unfold postR; rw [e, if_neg (by decide)]⟩
end Go.Proofs.YtleobnfmbhobgaaDoor
