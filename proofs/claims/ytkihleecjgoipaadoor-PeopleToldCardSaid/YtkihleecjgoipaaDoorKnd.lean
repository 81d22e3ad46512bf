/- address.Kind's parts, byte by byte: what the closures of strings' functions say, in plain words. -/
import Derived.Test.YtkihleecjgoipaaDoorAddr3
import Derived.Laws.RangeString
import Derived.Laws.RangeAny
namespace Go.Proofs.YtkihleecjgoipaaDoor.Knd
open Go.RowKit Go.Proofs.YtkihleecjgoipaaDoor

theorem digB_high (c : Nat) (h : 128 ≤ c) : digB c = false := by unfold digB; simp; omega
theorem letB_high (c : Nat) (h : 128 ≤ c) : letB c = false := by unfold letB; rw [digB_high c h]; simp; omega
theorem nmB_high (c : Nat) (h : 128 ≤ c) : nmB c = false := by unfold nmB; rw [letB_high c h]; simp; omega
theorem hsB_high (c : Nat) (h : 128 ≤ c) : hsB c = false := by unfold hsB; rw [letB_high c h]; simp; omega
/-- From place pos on all bytes are such as p says. -/
theorem from_all {p : Nat → Bool} (hp : ∀ c, 128 ≤ c → p c = false) (s : ByteArray) : ∀ f pos, s.size ≤ pos + f →
    (Lib.idxFuncFrom (fun c => !p c) true s f pos < 0 ↔ ∀ i (h : i < s.size), pos ≤ i → p s[i].toNat = true)
  | 0, pos, hf => by
    unfold Lib.idxFuncFrom
    exact ⟨fun _ i h hi => by omega, fun _ => by omega⟩
  | f + 1, pos, hf => by
    unfold Lib.idxFuncFrom
    by_cases hs : pos < s.size
    · rw [if_pos hs]
      by_cases ha : s[pos].toNat < 128
      · rw [decode_ascii s pos hs ha]
        by_cases hq : p s[pos].toNat = true
        · rw [if_neg (by simp [hq]), from_all hp s f (pos + 1) (by omega)]
          exact ⟨fun h i hi hpi => by
            rcases Nat.lt_or_ge pos i with c | c
            · exact h i hi c
            · obtain rfl : i = pos := by omega
              exact hq, fun h i hi hpi => h i hi (by omega)⟩
        · rw [if_pos (by simpa using hq)]
          exact ⟨fun h => by omega, fun h => absurd (h pos hs (Nat.le_refl _)) hq⟩
      · have hd := (decode_high s pos hs (by omega)).1
        have hq : p s[pos].toNat = false := hp _ (by omega)
        rw [if_pos (by rw [hp _ hd]; rfl)]
        exact ⟨fun h => by omega, fun h => by
          have := h pos hs (Nat.le_refl _)
          rw [hq] at this
          cases this⟩
    · rw [if_neg hs]
      exact ⟨fun _ i h hi => by omega, fun _ => by omega⟩
theorem only_iff {p : Nat → Bool} (hp : ∀ c, 128 ≤ c → p c = false) (s : ByteArray) : onlyB p s = true ↔ ∀ i (h : i < s.size), p s[i].toNat = true := by
  unfold onlyB Lib.idxFunc
  rw [decide_eq_true_eq, from_all hp s s.size 0 (by omega)]
  exact ⟨fun h i hi => h i hi (Nat.zero_le _), fun h i hi _ => h i hi⟩
theorem occ2 (l : List UInt8) (j : Nat) : Lib.occAt l [46, 46] j = true ↔ l[j]? = some 46 ∧ l[j + 1]? = some 46 := by
  unfold Lib.occAt
  rw [List.isPrefixOf_iff_prefix]
  constructor
  · rintro ⟨t, ht⟩
    have h0 : (l.drop j)[0]? = some 46 := by rw [← ht]; rfl
    have h1 : (l.drop j)[1]? = some 46 := by rw [← ht]; rfl
    rw [List.getElem?_drop] at h0 h1
    exact ⟨by simpa using h0, h1⟩
  · rintro ⟨h0, h1⟩
    obtain ⟨hl, e1⟩ := List.getElem?_eq_some_iff.1 h1
    obtain ⟨hl0, e0⟩ := List.getElem?_eq_some_iff.1 h0
    refine ⟨l.drop (j + 2), ?_⟩
    rw [List.drop_eq_getElem_cons hl0, List.drop_eq_getElem_cons hl, e0, e1]
    rfl
theorem index_neg {l sub : List UInt8} : Lib.index l sub < 0 ↔ ∀ j, j ≤ l.length → Lib.occAt l sub j = false := by
  constructor
  · intro h j hj
    cases hq : Lib.occAt l sub j
    · rfl
    · exfalso
      -- the first place
      have hex : ∃ i, i ≤ l.length ∧ Lib.occAt l sub i = true := ⟨j, hj, hq⟩
      have hf : ∃ i, (i ≤ l.length ∧ Lib.occAt l sub i = true) ∧ ∀ k, k < i → ¬ (k ≤ l.length ∧ Lib.occAt l sub k = true) := by
        refine ⟨(List.range (l.length + 1)).findIdx (fun i => Lib.occAt l sub i), ?_, ?_⟩
        · have hlt : (List.range (l.length + 1)).findIdx (fun i => Lib.occAt l sub i) < (List.range (l.length + 1)).length := List.findIdx_lt_length_of_exists ⟨j, List.mem_range.2 (by omega), hq⟩
          have hg := List.findIdx_getElem (w := hlt)
          rw [List.getElem_range] at hg
          rw [List.length_range] at hlt
          exact ⟨by omega, hg⟩
        · intro k hk hc
          have := List.not_of_lt_findIdx hk
          rw [List.getElem_range] at this
          rw [hc.2] at this
          cases this
      obtain ⟨i, ⟨h1, h2⟩, h3⟩ := hf
      have := Lib.index_first h1 h2 (fun k hk => by
        cases hc : Lib.occAt l sub k
        · rfl
        · exact absurd ⟨by omega, hc⟩ (h3 k hk))
      omega
  · intro h
    rw [Lib.index_none h]
    decide
theorem dotted_list (s : ByteArray) : (dotted s).data.toList = 46 :: (s.data.toList ++ [46]) := by
  unfold dotted
  simp [ByteArray.data_append]
theorem data_get (s : ByteArray) (i : Nat) (h : i < s.size) : s.data.toList[i]? = some s[i] := by
  have h' : i < s.data.toList.length := by rw [Array.length_toList]; exact h
  rw [List.getElem?_eq_getElem h', Array.getElem_toList]
  rfl
theorem data_none (s : ByteArray) (i : Nat) (h : s.size ≤ i) : s.data.toList[i]? = none := by
  rw [List.getElem?_eq_none]
  rw [Array.length_toList]
  exact h
theorem u8_46 {b : UInt8} : b = 46 ↔ b.toNat = 46 := by
  constructor
  · rintro rfl; rfl
  · intro h
    exact UInt8.toNat_inj.1 h
/-- No two dots stand beside each other, nor one at an end. -/
theorem dots_iff (s : ByteArray) (hs : 1 ≤ s.size) : Lib.contains (dotted s).data.toList [46, 46] = false ↔ ∀ i (h : i < s.size), s[i].toNat = 46 → 0 < i ∧ i + 1 < s.size ∧ ∀ (h0 : i - 1 < s.size), s[i - 1].toNat ≠ 46 := by
  unfold Lib.contains
  rw [decide_eq_false_iff_not, Int.not_le, index_neg, dotted_list]
  have hlen : (46 :: (s.data.toList ++ [(46 : UInt8)])).length = s.size + 2 := by
    rw [List.length_cons, List.length_append, Array.length_toList]
    rfl
  rw [hlen]
  have hat : ∀ j, Lib.occAt (46 :: (s.data.toList ++ [(46 : UInt8)])) [46, 46] j = false ↔ ¬ ((46 :: (s.data.toList ++ [(46 : UInt8)]))[j]? = some 46 ∧ (46 :: (s.data.toList ++ [(46 : UInt8)]))[j + 1]? = some 46) := fun j => by
    rw [← occ2]
    simp
  have hin : ∀ i (h : i < s.size), (s.data.toList ++ [(46 : UInt8)])[i]? = some s[i] := fun i h => by
    rw [List.getElem?_append_left (by rw [Array.length_toList]; exact h), data_get s i h]
  have hend : (s.data.toList ++ [(46 : UInt8)])[s.size]? = some 46 := by
    have hl : s.data.toList.length = s.size := Array.length_toList
    rw [List.getElem?_append_right (by omega), hl, Nat.sub_self]
    rfl
  constructor
  · intro h i hi h46
    have hi46 : (s.data.toList ++ [(46 : UInt8)])[i]? = some 46 := by rw [hin i hi, u8_46.2 h46]
    refine ⟨?_, ?_, fun h0 hc => ?_⟩
    · rcases Nat.eq_zero_or_pos i with c | c
      · subst c
        exact absurd ⟨rfl, by rw [List.getElem?_cons_succ]; exact hi46⟩ ((hat 0).1 (h 0 (by omega)))
      · exact c
    · rcases Nat.lt_or_ge (i + 1) s.size with c | c
      · exact c
      · have e : i + 1 = s.size := by omega
        exact absurd ⟨by rw [List.getElem?_cons_succ]; exact hi46, by rw [List.getElem?_cons_succ, e]; exact hend⟩ ((hat (i + 1)).1 (h (i + 1) (by omega)))
    · rcases Nat.eq_zero_or_pos i with c | c
      · subst c
        exact absurd ⟨rfl, by rw [List.getElem?_cons_succ]; exact hi46⟩ ((hat 0).1 (h 0 (by omega)))
      · have hp : (s.data.toList ++ [(46 : UInt8)])[i - 1]? = some 46 := by rw [hin (i - 1) h0, u8_46.2 hc]
        obtain ⟨k, rfl⟩ : ∃ k, i = k + 1 := ⟨i - 1, by omega⟩
        rw [Nat.add_sub_cancel] at hp
        exact absurd ⟨by rw [List.getElem?_cons_succ]; exact hp, by rw [List.getElem?_cons_succ]; exact hi46⟩ ((hat (k + 1)).1 (h (k + 1) (by omega)))
  · intro h j hj
    rw [hat]
    rintro ⟨h1, h2⟩
    rw [List.getElem?_cons_succ] at h2
    have hj2 : j ≤ s.size := by
      rcases Nat.lt_or_ge s.size j with c | c
      · rw [List.getElem?_eq_none (by rw [List.length_append, Array.length_toList]; show s.size + 1 ≤ j; omega)] at h2
        cases h2
      · exact c
    have key : ∀ i (hi : i < s.size), (s.data.toList ++ [(46 : UInt8)])[i]? = some 46 → s[i].toNat = 46 := fun i hi e => by
      rw [hin i hi] at e
      exact u8_46.1 (Option.some.inj e)
    rcases Nat.eq_zero_or_pos j with c | c
    · subst c
      have := (h 0 (by omega) (key 0 (by omega) h2)).1
      omega
    · obtain ⟨k, rfl⟩ : ∃ k, j = k + 1 := ⟨j - 1, by omega⟩
      rw [List.getElem?_cons_succ] at h1
      have hk := key k (by omega) h1
      rcases Nat.lt_or_ge (k + 1) s.size with d | d
      · have hk1 := h (k + 1) d (key (k + 1) d h2)
        exact hk1.2.2 (by omega) hk
      · have := (h k (by omega) hk).2.1
        omega
theorem name_iff (s : ByteArray) : nameB s = true ↔ 1 ≤ s.size ∧ ∀ i (h : i < s.size), nmB s[i].toNat = true ∧ (s[i].toNat = 46 → 0 < i ∧ i + 1 < s.size ∧ ∀ (h0 : i - 1 < s.size), s[i - 1].toNat ≠ 46) := by
  have he : (!s.toList.isEmpty) = decide (1 ≤ s.size) := by
    rw [Lib.toList_data]
    have hl : s.data.toList.length = s.size := Array.length_toList
    cases hq : s.data.toList with
    | nil =>
      rw [hq] at hl
      have : s.size = 0 := by rw [← hl]; rfl
      rw [this]
      rfl
    | cons a t =>
      rw [hq] at hl
      have : 1 ≤ s.size := by rw [← hl]; simp
      rw [decide_eq_true this]
      rfl
  unfold nameB
  rw [he]
  simp only [Bool.and_eq_true, decide_eq_true_eq, Bool.not_eq_true']
  constructor
  · rintro ⟨⟨h1, h2⟩, h3⟩
    have h4 := (only_iff nmB_high s).1 h3
    have h5 := (dots_iff s h1).1 h2
    exact ⟨h1, fun i hi => ⟨h4 i hi, h5 i hi⟩⟩
  · rintro ⟨h1, h2⟩
    exact ⟨⟨h1, (dots_iff s h1).2 fun i hi => (h2 i hi).2⟩, (only_iff nmB_high s).2 fun i hi => (h2 i hi).1⟩
end Go.Proofs.YtkihleecjgoipaaDoor.Knd
