/- OutboxOrder: the calls between its steps. -/
import Derived.Test.YtleobnfmbhobgaaDoorRoomP
import Derived.Test.YtleobnfmbhobgaaDoorChk14
namespace Go.Proofs.YtleobnfmbhobgaaDoor
open Go.RowKit Go.Maps

theorem check_v {Bs : Nat} {v : Value} {ms : List Msg} {w : World} (h : mowns w Bs v ms) (lim : ms.length ≤ 1000000) (hs : ∀ m ∈ ms, m.dest.size ≤ 4000000000) (hm : ML w) :
    Calls Tryd.prog 19 #[v] w fun e w' => e = .returned (.bool (checkB ms)) ∧ Below w.heap.size w w' := by
  obtain ⟨a, c, rfl, _⟩ := h.form
  exact check_any h lim hs hm
theorem rm_check {W w : World} {last : Nat} {L : List Msg} {v : Value} (h : RM W last L v w) (hW : ML W) :
    Calls Tryd.prog 19 #[v] w fun e w' => e = .returned (.bool true) ∧ RM W last L v w' := by
  have hc := inv_check h.2.2
  refine (check_v h.1 h.lim hc.2 (hW.below h.2.1)).mono ?_
  rintro e w' ⟨rfl, b⟩
  exact ⟨by rw [hc.1], h.later b⟩
theorem rm_taken {W w : World} {last : Nat} {L : List Msg} {v : Value} (h : RM W last L v w) (id : Int) (hid : 0 ≤ id) :
    Calls Tryd.prog 15 #[v, .int .u64 id] w fun e w' => ∃ (a : Option Addr) (c : Nat) (L' : List Msg) (er : Int), e = .returned (.tuple #[.slice a L'.length c, .int .i64 er]) ∧ RM W last L' (.slice a L'.length c) w' := by
  obtain ⟨i, rfl⟩ : ∃ i : Nat, id = i := ⟨id.toNat, by omega⟩
  refine (taken_v h.1 h.lim i).mono ?_
  rintro e w' ⟨a, c, rfl, f⟩
  exact ⟨a, c, _, _, rfl, h.fresh f (inv_take h.2.2 i)⟩
theorem rm_dead {W w : World} {last : Nat} {L : List Msg} {v : Value} (h : RM W last L v w) :
    Calls Tryd.prog 18 #[v] w fun e w' => ∃ (a : Option Addr) (c : Nat), e = .returned (.slice a (L.filter dedB).length c) ∧ RM W last L v w' := by
  refine (deads_v h.1 h.lim).mono ?_
  rintro e w' ⟨a, c, rfl, f⟩
  exact ⟨a, c, rfl, h.later f.2⟩
theorem dead_split (L : List Msg) : (L.filter dedB).length + (L.filter alvB).length = L.length := by
  induction L with
  | nil => rfl
  | cons m L ih =>
    simp only [List.filter_cons]
    cases hd : m.dead
    · have e1 : dedB m = false := hd
      have e2 : alvB m = true := by simp [alvB, hd]
      rw [e1, e2]
      simp
      omega
    · have e1 : dedB m = true := hd
      have e2 : alvB m = false := by simp [alvB, hd]
      rw [e1, e2]
      simp
      omega

/-- What Next tells of a row. -/
theorem nextF_snoc_spec (bs : List Msg) (m : Msg) (ih : (bs = [] ∧ nextF bs = (0, false)) ∨ ((nextF bs).2 = true ∧ (∃ m ∈ bs, m.due = (nextF bs).1) ∧ ∀ m ∈ bs, (nextF bs).1 ≤ m.due)) : (nextF (bs ++ [m])).2 = true ∧ (∃ x ∈ bs ++ [m], x.due = (nextF (bs ++ [m])).1) ∧ ∀ x ∈ bs ++ [m], (nextF (bs ++ [m])).1 ≤ x.due := by
  rw [nextF_snoc]
  unfold nextStep
  rcases ih with ⟨rfl, e⟩ | ⟨h1, ⟨m', hm', he⟩, h3⟩
  · rw [e]
    simp
  · by_cases hc : m.due < (nextF bs).1
    · rw [if_pos (.inr hc)]
      refine ⟨rfl, ⟨m, by simp, rfl⟩, fun x hx => ?_⟩
      rcases List.mem_append.1 hx with hx | hx
      · have := h3 x hx
        show m.due ≤ x.due
        omega
      · simp at hx
        subst hx
        exact Int.le_refl _
    · rw [if_neg (by rw [h1]; simp; omega)]
      refine ⟨h1, ⟨m', by simp [hm'], he⟩, fun x hx => ?_⟩
      rcases List.mem_append.1 hx with hx | hx
      · exact h3 x hx
      · simp at hx
        subst hx
        omega
theorem nextF_take (bs : List Msg) : ∀ k, k ≤ bs.length → (bs.take k = [] ∧ nextF (bs.take k) = (0, false)) ∨ ((nextF (bs.take k)).2 = true ∧ (∃ m ∈ bs.take k, m.due = (nextF (bs.take k)).1) ∧ ∀ m ∈ bs.take k, (nextF (bs.take k)).1 ≤ m.due) := by
  intro k
  induction k with
  | zero => intro _; left; simp [nextF]
  | succ k ih =>
    intro hk
    right
    rw [List.take_succ_eq_append_getElem (by omega)]
    exact nextF_snoc_spec _ _ (ih (by omega))
theorem nextF_spec (bs : List Msg) : (bs = [] ∧ nextF bs = (0, false)) ∨ ((nextF bs).2 = true ∧ (∃ m ∈ bs, m.due = (nextF bs).1) ∧ ∀ m ∈ bs, (nextF bs).1 ≤ m.due) := by
  have h := nextF_take bs bs.length (Nat.le_refl _)
  rwa [List.take_length] at h
theorem due_mem {L : List Msg} {t : Int} {m : Msg} : m ∈ L.filter (dueB t) ↔ m ∈ L.filter alvB ∧ m.due ≤ t := by
  simp only [List.mem_filter, dueB, alvB, Bool.and_eq_true, decide_eq_true_eq]
  constructor
  · rintro ⟨a, b, c⟩; exact ⟨⟨a, b⟩, c⟩
  · rintro ⟨⟨a, b⟩, c⟩; exact ⟨a, b, c⟩
theorem next_facts {last : Nat} {L : List Msg} (h : INV last L) : ((nextF (L.filter alvB)).2 = false ∧ ∀ t, (L.filter (dueB t)).length = 0) ∨
    ((nextF (L.filter alvB)).2 = true ∧ 0 ≤ (nextF (L.filter alvB)).1 ∧ (nextF (L.filter alvB)).1 ≤ 1099511627776 ∧ 0 < (L.filter (dueB (nextF (L.filter alvB)).1)).length ∧ (L.filter (dueB ((nextF (L.filter alvB)).1 - 1))).length = 0) := by
  rcases nextF_spec (L.filter alvB) with ⟨e1, e2⟩ | ⟨e1, ⟨m, hm, he⟩, e3⟩
  · left
    refine ⟨by rw [e2], fun t => ?_⟩
    rw [List.length_eq_zero_iff, List.eq_nil_iff_forall_not_mem]
    intro m hm
    have := (due_mem.1 hm).1
    rw [e1] at this
    cases this
  · right
    have hr := right_parts (h.2.1 m (List.mem_filter.1 hm).1).1
    refine ⟨e1, by omega, by omega, List.length_pos_of_mem (due_mem.2 ⟨hm, by omega⟩), ?_⟩
    rw [List.length_eq_zero_iff, List.eq_nil_iff_forall_not_mem]
    intro x hx
    have h1 := due_mem.1 hx
    have h2 := e3 x h1.1
    omega
theorem rm_next {W w : World} {last : Nat} {L : List Msg} {v : Value} (h : RM W last L v w) :
    Calls Tryd.prog 20 #[v] w fun e w' => e = .returned (.tuple #[.int .i64 (nextF (L.filter alvB)).1, .bool (nextF (L.filter alvB)).2]) ∧ RM W last L v w' := by
  refine (next_v h.1 h.lim).mono ?_
  rintro e w' ⟨rfl, b⟩
  exact ⟨rfl, h.later b⟩
/-- Numbers rise in a row that is due. -/
theorem due_rise {last : Nat} {L : List Msg} (h : INV last L) (t : Int) (k : Nat) (h0 : 0 < k) (hk : k < (L.filter (dueB t)).length) : ((L.filter (dueB t))[k - 1]?.getD noMsg).id < ((L.filter (dueB t))[k]?.getD noMsg).id := by
  have hp := h.1.sublist (List.filter_sublist (p := dueB t))
  have := List.pairwise_iff_getElem.1 hp (k - 1) k (by omega) hk (by omega)
  rw [List.getElem?_eq_getElem (by omega), List.getElem?_eq_getElem hk]
  exact this
end Go.Proofs.YtleobnfmbhobgaaDoor
