/- address.Kind's parts, byte by byte: what the closures of strings' functions say, in plain words. -/
import Derived.Test.YtkihleecjgoipaaGreatDoorAddr3
import Derived.Laws.RangeString
import Derived.Laws.RangeAny
section
namespace Go.Proofs.YtkihleecjgoipaaGreatDoor.Knd
open Go.RowKit Go.Proofs.YtkihleecjgoipaaGreatDoor

theorem digB_high (c : Nat) (h : 128 ≤ c) : digB c = false := by unfold digB; simp; omega
theorem letB_high (c : Nat) (h : 128 ≤ c) : letB c = false := by unfold letB; rw [digB_high c h]; simp; omega
theorem nmB_high (c : Nat) (h : 128 ≤ c) : nmB c = false := by unfold nmB; rw [letB_high c h]; simp; omega
theorem hsB_high (c : Nat) (h : 128 ≤ c) : hsB c = false := by unfold hsB; rw [letB_high c h]; simp; omega
/-- From place pos on all bytes are such as p says. -/
theorem from_all {p : Nat → Bool} (hp : ∀ c, 128 ≤ c → p c = false) (s : ByteArray) : ∀ f pos, s.size ≤ pos + f →
    (Lib.idxFuncFrom (fun c => !p c) true s f pos < 0 ↔ ∀ i (h : i < s.size), pos ≤ i → p s[i].toNat = true)
  | 0, pos, hf => by
    unfold Lib.idxFuncFrom
    exact ⟨fun _ i h hi => by omega, fun _ => by omega⟩
  | f + 1, pos, hf => by
    unfold Lib.idxFuncFrom
    by_cases hs : pos < s.size
    · rw [if_pos hs]
      by_cases ha : s[pos].toNat < 128
      · rw [decode_ascii s pos hs ha]
        by_cases hq : p s[pos].toNat = true
        · rw [if_neg (by simp [hq]), from_all hp s f (pos + 1) (by omega)]
          exact ⟨fun h i hi hpi => by
            rcases Nat.lt_or_ge pos i with c | c
            · exact h i hi c
            · obtain rfl : i = pos := by omega
              exact hq, fun h i hi hpi => h i hi (by omega)⟩
        · rw [if_pos (by simpa using hq)]
          exact ⟨fun h => by omega, fun h => absurd (h pos hs (Nat.le_refl _)) hq⟩
      · have hd := (decode_high s pos hs (by omega)).1
        have hq : p s[pos].toNat = false := hp _ (by omega)
        rw [if_pos (by rw [hp _ hd]; rfl)]
        exact ⟨fun h => by omega, fun h => by
          have := h pos hs (Nat.le_refl _)
          rw [hq] at this
          cases this⟩
    · rw [if_neg hs]
      exact ⟨fun _ i h hi => by omega, fun _ => by omega⟩
theorem only_iff {p : Nat → Bool} (hp : ∀ c, 128 ≤ c → p c = false) (s : ByteArray) : onlyB p s = true ↔ ∀ i (h : i < s.size), p s[i].toNat = true := by
  unfold onlyB Lib.idxFunc
  rw [decide_eq_true_eq, from_all hp s s.size 0 (by omega)]
  exact ⟨fun h i hi => h i hi (Nat.zero_le _), fun h i hi _ => h i hi⟩
theorem occ2 (l : List UInt8) (j : Nat) : Lib.occAt l [46, 46] j = true ↔ l[j]? = some 46 ∧ l[j + 1]? = some 46 := by
  unfold Lib.occAt
  rw [List.isPrefixOf_iff_prefix]
  constructor
  · rintro ⟨t, ht⟩
    have h0 : (l.drop j)[0]? = some 46 := by rw [← ht]; rfl
    have h1 : (l.drop j)[1]? = some 46 := by rw [← ht]; rfl
    rw [List.getElem?_drop] at h0 h1
    exact ⟨by simpa using h0, h1⟩
  · rintro ⟨h0, h1⟩
    obtain ⟨hl, e1⟩ := List.getElem?_eq_some_iff.1 h1
    obtain ⟨hl0, e0⟩ := List.getElem?_eq_some_iff.1 h0
    refine ⟨l.drop (j + 2), ?_⟩
    rw [List.drop_eq_getElem_cons hl0, List.drop_eq_getElem_cons hl, e0, e1]
    rfl
theorem index_neg {l sub : List UInt8} : Lib.index l sub < 0 ↔ ∀ j, j ≤ l.length → Lib.occAt l sub j = false := by
  constructor
  · intro h j hj
    cases hq : Lib.occAt l sub j
    · rfl
    · exfalso
      -- the first place
      have hex : ∃ i, i ≤ l.length ∧ Lib.occAt l sub i = true := ⟨j, hj, hq⟩
      have hf : ∃ i, (i ≤ l.length ∧ Lib.occAt l sub i = true) ∧ ∀ k, k < i → ¬ (k ≤ l.length ∧ Lib.occAt l sub k = true) := by
        refine ⟨(List.range (l.length + 1)).findIdx (fun i => Lib.occAt l sub i), ?_, ?_⟩
        · have hlt : (List.range (l.length + 1)).findIdx (fun i => Lib.occAt l sub i) < (List.range (l.length + 1)).length := List.findIdx_lt_length_of_exists ⟨j, List.mem_range.2 (by omega), hq⟩
          have hg := List.findIdx_getElem (w := hlt)
          rw [List.getElem_range] at hg
          rw [List.length_range] at hlt
          exact ⟨by omega, hg⟩
        · intro k hk hc
          have := List.not_of_lt_findIdx hk
          rw [List.getElem_range] at this
          rw [hc.2] at this
          cases this
      obtain ⟨i, ⟨h1, h2⟩, h3⟩ := hf
      have := Lib.index_first h1 h2 (fun k hk => by
        cases hc : Lib.occAt l sub k
        · rfl
        · exact absurd ⟨by omega, hc⟩ (h3 k hk))
      omega
  · intro h
    rw [Lib.index_none h]
    decide
theorem dotted_list (s : ByteArray) : (dotted s).data.toList = 46 :: (s.data.toList ++ [46]) := by
  unfold dotted
  simp [ByteArray.data_append]
theorem data_get (s : ByteArray) (i : Nat) (h : i < s.size) : s.data.toList[i]? = some s[i] := by
  have h' : i < s.data.toList.length := by rw [Array.length_toList]; exact h
  rw [List.getElem?_eq_getElem h', Array.getElem_toList]
  rfl
theorem data_none (s : ByteArray) (i : Nat) (h : s.size ≤ i) : s.data.toList[i]? = none := by
  rw [List.getElem?_eq_none]
  rw [Array.length_toList]
  exact h
theorem u8_46 {b : UInt8} : b = 46 ↔ b.toNat = 46 := by
  constructor
  · rintro rfl; rfl
  · intro h
    exact UInt8.toNat_inj.1 h
/-- No two dots stand beside each other, nor one at an end. -/
theorem dots_iff (s : ByteArray) (hs : 1 ≤ s.size) : Lib.contains (dotted s).data.toList [46, 46] = false ↔ ∀ i (h : i < s.size), s[i].toNat = 46 → 0 < i ∧ i + 1 < s.size ∧ ∀ (h0 : i - 1 < s.size), s[i - 1].toNat ≠ 46 := by
  unfold Lib.contains
  rw [decide_eq_false_iff_not, Int.not_le, index_neg, dotted_list]
  have hlen : (46 :: (s.data.toList ++ [(46 : UInt8)])).length = s.size + 2 := by
    rw [List.length_cons, List.length_append, Array.length_toList]
    rfl
  rw [hlen]
  have hat : ∀ j, Lib.occAt (46 :: (s.data.toList ++ [(46 : UInt8)])) [46, 46] j = false ↔ ¬ ((46 :: (s.data.toList ++ [(46 : UInt8)]))[j]? = some 46 ∧ (46 :: (s.data.toList ++ [(46 : UInt8)]))[j + 1]? = some 46) := fun j => by
    rw [← occ2]
    simp
  have hin : ∀ i (h : i < s.size), (s.data.toList ++ [(46 : UInt8)])[i]? = some s[i] := fun i h => by
    rw [List.getElem?_append_left (by rw [Array.length_toList]; exact h), data_get s i h]
  have hend : (s.data.toList ++ [(46 : UInt8)])[s.size]? = some 46 := by
    have hl : s.data.toList.length = s.size := Array.length_toList
    rw [List.getElem?_append_right (by omega), hl, Nat.sub_self]
    rfl
  constructor
  · intro h i hi h46
    have hi46 : (s.data.toList ++ [(46 : UInt8)])[i]? = some 46 := by rw [hin i hi, u8_46.2 h46]
    refine ⟨?_, ?_, fun h0 hc => ?_⟩
    · rcases Nat.eq_zero_or_pos i with c | c
      · subst c
        exact absurd ⟨rfl, by rw [List.getElem?_cons_succ]; exact hi46⟩ ((hat 0).1 (h 0 (by omega)))
      · exact c
    · rcases Nat.lt_or_ge (i + 1) s.size with c | c
      · exact c
      · have e : i + 1 = s.size := by omega
        exact absurd ⟨by rw [List.getElem?_cons_succ]; exact hi46, by rw [List.getElem?_cons_succ, e]; exact hend⟩ ((hat (i + 1)).1 (h (i + 1) (by omega)))
    · rcases Nat.eq_zero_or_pos i with c | c
      · subst c
        exact absurd ⟨rfl, by rw [List.getElem?_cons_succ]; exact hi46⟩ ((hat 0).1 (h 0 (by omega)))
      · have hp : (s.data.toList ++ [(46 : UInt8)])[i - 1]? = some 46 := by rw [hin (i - 1) h0, u8_46.2 hc]
        obtain ⟨k, rfl⟩ : ∃ k, i = k + 1 := ⟨i - 1, by omega⟩
        rw [Nat.add_sub_cancel] at hp
        exact absurd ⟨by rw [List.getElem?_cons_succ]; exact hp, by rw [List.getElem?_cons_succ]; exact hi46⟩ ((hat (k + 1)).1 (h (k + 1) (by omega)))
  · intro h j hj
    rw [hat]
    rintro ⟨h1, h2⟩
    rw [List.getElem?_cons_succ] at h2
    have hj2 : j ≤ s.size := by
      rcases Nat.lt_or_ge s.size j with c | c
      · rw [List.getElem?_eq_none (by rw [List.length_append, Array.length_toList]; show s.size + 1 ≤ j; omega)] at h2
        cases h2
      · exact c
    have key : ∀ i (hi : i < s.size), (s.data.toList ++ [(46 : UInt8)])[i]? = some 46 → s[i].toNat = 46 := fun i hi e => by
      rw [hin i hi] at e
      exact u8_46.1 (Option.some.inj e)
    rcases Nat.eq_zero_or_pos j with c | c
    · subst c
      have := (h 0 (by omega) (key 0 (by omega) h2)).1
      omega
    · obtain ⟨k, rfl⟩ : ∃ k, j = k + 1 := ⟨j - 1, by omega⟩
      rw [List.getElem?_cons_succ] at h1
      have hk := key k (by omega) h1
      rcases Nat.lt_or_ge (k + 1) s.size with d | d
      · have hk1 := h (k + 1) d (key (k + 1) d h2)
        exact hk1.2.2 (by omega) hk
      · have := (h k (by omega) hk).2.1
        omega
theorem name_iff (s : ByteArray) : nameB s = true ↔ 1 ≤ s.size ∧ ∀ i (h : i < s.size), nmB s[i].toNat = true ∧ (s[i].toNat = 46 → 0 < i ∧ i + 1 < s.size ∧ ∀ (h0 : i - 1 < s.size), s[i - 1].toNat ≠ 46) := by
  have he : (!s.toList.isEmpty) = decide (1 ≤ s.size) := by
    rw [Lib.toList_data]
    have hl : s.data.toList.length = s.size := Array.length_toList
    cases hq : s.data.toList with
    | nil =>
      rw [hq] at hl
      have : s.size = 0 := by rw [← hl]; rfl
      rw [this]
      rfl
    | cons a t =>
      rw [hq] at hl
      have : 1 ≤ s.size := by rw [← hl]; simp
      rw [decide_eq_true this]
      rfl
  unfold nameB
  rw [he]
  simp only [Bool.and_eq_true, decide_eq_true_eq, Bool.not_eq_true']
  constructor
  · rintro ⟨⟨h1, h2⟩, h3⟩
    have h4 := (only_iff nmB_high s).1 h3
    have h5 := (dots_iff s h1).1 h2
    exact ⟨h1, fun i hi => ⟨h4 i hi, h5 i hi⟩⟩
  · rintro ⟨h1, h2⟩
    exact ⟨⟨h1, (dots_iff s h1).2 fun i hi => (h2 i hi).2⟩, (only_iff nmB_high s).2 fun i hi => (h2 i hi).1⟩
end Go.Proofs.YtkihleecjgoipaaGreatDoor.Knd
end
/- The reference's address: letter, name, label, walked. Written by wip/tools/mkrk9.py. -/
section
namespace Go.Proofs.YtkihleecjgoipaaGreatDoor.Knd
open Go.RowKit Go.Proofs.YtkihleecjgoipaaGreatDoor

set_option maxRecDepth 100000 in
theorem letter_any (c : Nat) (w : World) : Calls Tryz.prog 89 #[.int .u8 c] w fun e w' => e = .returned (.bool (letB c)) ∧ w' = w := by
  by_cases h1 : (97 : Int) ≤ c <;> by_cases h2 : (c : Int) ≤ 122 <;> by_cases h3 : (48 : Int) ≤ c <;> by_cases h4 : (c : Int) ≤ 57
  all_goals
    go_enter Tryz.func89, Tryz.ntmps89
    go_wp2_with fail
    go_ret
    exact ⟨ret_bool (by unfold letB digB; rw [Bool.eq_iff_iff]; simp; omega), rfl⟩
/-- May the byte stand in its place of a name? -/
def NmOk (s : ByteArray) (i : Nat) : Prop := ∀ h : i < s.size, nmB s[i].toNat = true ∧ (s[i].toNat = 46 → 0 < i ∧ i + 1 < s.size ∧ ∀ (h0 : i - 1 < s.size), s[i - 1].toNat ≠ 46)
theorem nm_prev {s : ByteArray} {k m : Nat} (hkm : k = m + 1) (hk : k < s.size) (hm : m < s.size) (h46 : s[k].toNat = 46) (h : NmOk s k) : s[m].toNat ≠ 46 := by
  subst hkm
  exact ((h hk).2 h46).2.2 hm
theorem nm_mk {s : ByteArray} {k m : Nat} (hkm : k = m + 1) (hk : k + 1 < s.size) (hm : m < s.size) (h46 : s[k].toNat = 46) (hp : s[m].toNat ≠ 46) : NmOk s k := by
  subst hkm
  exact fun h => ⟨by rw [h46]; decide, fun _ => ⟨by omega, hk, fun _ => hp⟩⟩
theorem name_iff2 (s : ByteArray) : nameB s = true ↔ 1 ≤ s.size ∧ ∀ i, NmOk s i := by
  rw [name_iff]
  rfl
theorem false_of {b : Bool} {P : Prop} (h : b = true ↔ P) (n : ¬ P) : b = false := by
  cases b
  · rfl
  · exact absurd (h.1 rfl) n
set_option maxHeartbeats 4000000 in
set_option maxRecDepth 100000 in
theorem name9_any (s : ByteArray) (hs : s.size ≤ 4000000000) (w : World) : Calls Tryz.prog 78 #[.string s] w fun e w' => e = .returned (.bool (nameB s)) ∧ w' = w := by
  have NI := Lib.hid (name_iff2 s)
  generalize nameB s = r at *
  have LT := Lib.hid (fun c w => letter_any c w)
  go_enter Tryz.func78, Tryz.ntmps78
  go_wp2_with fail
  go_loopw [3] (fun i wr => wr = w ∧ ∃ k : Nat, k ≤ s.size ∧ i = .int .i64 k ∧ ∀ j, j < k → NmOk s j) (fun i _ => s.size - (intOf i).toNat)
  case atStart => exact ⟨rfl, 0, Nat.zero_le _, rfl, fun j hj => (Nat.not_lt_zero j hj).elim⟩
  case round =>
    obtain ⟨hw, k, hk, rfl, hno⟩ := hrel
    subst hw
    have HO := Lib.hid hno
    clear hno
    by_cases hkn : k < s.size
    · have hkn' : (k : Int) < s.size := by omega
      have hk0 : (0 : Int) ≤ k := by omega
      obtain ⟨c, hc⟩ : ∃ c, s[k].toNat = c := ⟨_, rfl⟩
      have HC := Lib.hid hc
      have LT2 := Lib.hid (LT.out s[k].toNat)
      by_cases h46 : c = 46
      · subst h46
        have hl : letB s[k].toNat = false := by rw [HC.out]; decide
        rw [hl] at LT2
        have e46 : ((s[k].toNat : Int) == 46) = true := by simp; omega
        have e46n : ((s[k].toNat : Int) != 46) = false := by simp; omega
        have e95 : ((s[k].toNat : Int) == 95) = false := by simp; omega
        have e95n : ((s[k].toNat : Int) != 95) = true := by simp; omega
        have e45 : ((s[k].toNat : Int) == 45) = false := by simp; omega
        have e45n : ((s[k].toNat : Int) != 45) = true := by simp; omega
        clear hl hc
        have hw1 : IntKind.i64.wrap ((s.size : Int) - 1) = (s.size : Int) - 1 := by rw [IntKind.wrap_i64] <;> omega
        have hw2 : IntKind.i64.wrap ((k : Int) - 1) = (k : Int) - 1 := by rw [IntKind.wrap_i64] <;> omega
        by_cases h0 : k = 0
        · have h0b : ((k : Int) == 0) = true := by simp; omega
          have hre : Hid (r = false) := Lib.hid (false_of NI.out fun h => by have := ((h.2 k hkn).2 HC.out).1; omega)
          clear h0
          clear HO
          try clear hc
          go_wp2_with (go_at_call 89; (with_reducible refine (LT2.out _).mono ?_); rintro z w2 ⟨rfl, rfl⟩)
          go_ret
          exact ⟨ret_bool hre.out.symm, rfl⟩
        · have h0' : ((k : Int) == 0) = false := by simp; omega
          have h0i : ¬ (k : Int) = 0 := by omega
          by_cases he : k + 1 = s.size
          · have he' : ((k : Int) == (s.size : Int) - 1) = true := by simp; omega
            have hre : Hid (r = false) := Lib.hid (false_of NI.out fun h => by have := ((h.2 k hkn).2 HC.out).2.1; omega)
            clear HO
            try clear hc
            go_wp2_with (go_at_call 89; (with_reducible refine (LT2.out _).mono ?_); rintro z w2 ⟨rfl, rfl⟩)
            go_ret
            exact ⟨ret_bool hre.out.symm, rfl⟩
          · have he0 : ((k : Int) == (s.size : Int) - 1) = false := by simp; omega
            have hm1 : k - 1 < s.size := by omega
            have hm1' : (k : Int) - 1 < s.size := by omega
            have hm0 : (1 : Int) ≤ k := by omega
            have hk1 : Hid (k + 1 < s.size) := Lib.hid (by omega)
            have HK : Hid (k = k - 1 + 1) := Lib.hid (by omega)
            clear he
            by_cases hp : s[k - 1].toNat = 46
            · have hp' : ((s[k - 1].toNat : Int) == 46) = true := by simp; omega
              have hre : Hid (r = false) := Lib.hid (false_of NI.out fun h => nm_prev HK.out hkn hm1 HC.out (h.2 k) hp)
              clear HO
              try clear hc
              go_wp2_with (go_at_call 89; (with_reducible refine (LT2.out _).mono ?_); rintro z w2 ⟨rfl, rfl⟩)
              go_ret
              exact ⟨ret_bool hre.out.symm, rfl⟩
            · have hp' : ((s[k - 1].toNat : Int) == 46) = false := by simp; omega
              have hok : Hid (NmOk s k) := Lib.hid (nm_mk HK.out hk1.out hm1 HC.out hp)
              try clear hc
              go_wp2_with (go_at_call 89; (with_reducible refine (LT2.out _).mono ?_); rintro z w2 ⟨rfl, rfl⟩)
              go_roundw
              case rel => exact ⟨by trivial, k + 1, by omega, by go_num, fun j hj => by
                rcases Nat.lt_or_ge j k with q | q
                · exact HO.out j q
                · obtain rfl : j = k := by omega
                  exact hok.out⟩
              case measure => simp [intOf]; omega
      · have e46 : ((s[k].toNat : Int) == 46) = false := by simp; omega
        have e46n : ((s[k].toNat : Int) != 46) = true := by simp; omega
        obtain ⟨q, hq⟩ : ∃ q, letB s[k].toNat = q := ⟨_, rfl⟩
        rw [hq] at LT2
        have HQ : Hid (letB c = q) := Lib.hid (by rw [← HC.out]; exact hq)
        clear hq
        cases q
        · by_cases h95 : c = 95
          · have e95 : ((s[k].toNat : Int) == 95) = true := by simp; omega
            have e95n : ((s[k].toNat : Int) != 95) = false := by simp; omega
            have h46' : ¬ (95 : Int) = 46 := by omega
            have hok : Hid (NmOk s k) := Lib.hid (fun h => ⟨by rw [HC.out]; unfold nmB; simp [h95], fun h' => absurd h' (by omega)⟩)
            try clear hc
            go_wp2_with (go_at_call 89; (with_reducible refine (LT2.out _).mono ?_); rintro z w2 ⟨rfl, rfl⟩)
            go_roundw
            case rel => exact ⟨by trivial, k + 1, by omega, by go_num, fun j hj => by
              rcases Nat.lt_or_ge j k with q | q
              · exact HO.out j q
              · obtain rfl : j = k := by omega
                exact hok.out⟩
            case measure => simp [intOf]; omega
          · have e95 : ((s[k].toNat : Int) == 95) = false := by simp; omega
            have e95n : ((s[k].toNat : Int) != 95) = true := by simp; omega
            by_cases h45 : c = 45
            · have e45 : ((s[k].toNat : Int) == 45) = true := by simp; omega
              have e45n : ((s[k].toNat : Int) != 45) = false := by simp; omega
              have hok : Hid (NmOk s k) := Lib.hid (fun h => ⟨by rw [HC.out]; unfold nmB; simp [h45], fun h' => absurd h' (by omega)⟩)
              try clear hc
              go_wp2_with (go_at_call 89; (with_reducible refine (LT2.out _).mono ?_); rintro z w2 ⟨rfl, rfl⟩)
              go_roundw
              case rel => exact ⟨by trivial, k + 1, by omega, by go_num, fun j hj => by
                rcases Nat.lt_or_ge j k with q | q
                · exact HO.out j q
                · obtain rfl : j = k := by omega
                  exact hok.out⟩
              case measure => simp [intOf]; omega
            · have e45 : ((s[k].toNat : Int) == 45) = false := by simp; omega
              have e45n : ((s[k].toNat : Int) != 45) = true := by simp; omega
              have hre : Hid (r = false) := Lib.hid (false_of NI.out fun h => by
                have h1 := (h.2 k hkn).1
                rw [HC.out] at h1
                unfold nmB at h1
                rw [HQ.out] at h1
                simp [h95, h45, h46] at h1)
              clear HO
              try clear hc
              go_wp2_with (go_at_call 89; (with_reducible refine (LT2.out _).mono ?_); rintro z w2 ⟨rfl, rfl⟩)
              go_ret
              exact ⟨ret_bool hre.out.symm, rfl⟩
        · skip
          have hok : Hid (NmOk s k) := Lib.hid (fun h => ⟨by rw [HC.out]; unfold nmB; simp [HQ.out], fun h' => absurd h' (by omega)⟩)
          try clear hc
          go_wp2_with (go_at_call 89; (with_reducible refine (LT2.out _).mono ?_); rintro z w2 ⟨rfl, rfl⟩)
          go_roundw
          case rel => exact ⟨by trivial, k + 1, by omega, by go_num, fun j hj => by
            rcases Nat.lt_or_ge j k with q | q
            · exact HO.out j q
            · obtain rfl : j = k := by omega
              exact hok.out⟩
          case measure => simp [intOf]; omega
    · have hkn' : ¬ (k : Int) < s.size := by omega
      have hre : Hid (r = decide (1 ≤ s.size)) := Lib.hid (by
        rw [Bool.eq_iff_iff, NI.out, decide_eq_true_eq]
        exact ⟨fun h => h.1, fun h => ⟨h, fun i => by
          rcases Nat.lt_or_ge i k with q | q
          · exact HO.out i q
          · exact fun h => absurd h (by omega)⟩⟩)
      go_wp2_with fail
      go_ret
      exact ⟨ret_bool (by rw [hre.out, decide_eq_decide]; omega), rfl⟩
end Go.Proofs.YtkihleecjgoipaaGreatDoor.Knd
end
