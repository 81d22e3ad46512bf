/- address.Kind's parts in plain words: label, host, phone, mail, byte by byte. -/
import Derived.Test.YtkihleecjgoipaaGreatDoorMg7
section
namespace Go.Proofs.YtkihleecjgoipaaGreatDoor.Knd
open Go.RowKit Go.Proofs.YtkihleecjgoipaaGreatDoor

theorem emp_size (s : ByteArray) : (!s.toList.isEmpty) = decide (1 ≤ s.size) := by
  rw [Lib.toList_data]
  have hl : s.data.toList.length = s.size := Array.length_toList
  cases hq : s.data.toList with
  | nil =>
    rw [hq] at hl
    have : s.size = 0 := by rw [← hl]; rfl
    rw [this]
    rfl
  | cons a t =>
    rw [hq] at hl
    have : 1 ≤ s.size := by rw [← hl]; simp
    rw [decide_eq_true this]
    rfl
theorem u8_n (b : UInt8) (n : Nat) (hn : n < 256) : b = UInt8.ofNat n ↔ b.toNat = n := u8_eq b n hn
/-- May the byte stand in its place of a label? -/
def LbOk (s : ByteArray) (i : Nat) : Prop := ∀ h : i < s.size, letB s[i].toNat = true ∨ (s[i].toNat = 45 ∧ 0 < i ∧ i + 1 < s.size)
theorem lab_iff (s : ByteArray) : labB s = true ↔ (1 ≤ s.size ∧ s.size ≤ 20) ∧ ∀ i, LbOk s i := by
  unfold labB
  rw [emp_size]
  simp only [Bool.and_eq_true, decide_eq_true_eq]
  have l45 : letB 45 = false := by decide
  constructor
  · rintro ⟨⟨⟨⟨h1, h2⟩, h3⟩, h4⟩, h5⟩
    refine ⟨⟨h1, h2⟩, fun i hi => ?_⟩
    have h := (only_iff hsB_high s).1 h5 i hi
    unfold hsB at h
    simp only [Bool.or_eq_true, decide_eq_true_eq] at h
    rcases h with h | h
    · exact .inl h
    · refine .inr ⟨h, ?_, ?_⟩
      · rcases Nat.eq_zero_or_pos i with c | c
        · subst c
          rw [byte_at s 0 hi] at h3
          exact absurd ((u8_n _ 45 (by decide)).2 h) h3
        · exact c
      · rcases Nat.lt_or_ge (i + 1) s.size with c | c
        · exact c
        · have e : i = s.size - 1 := by omega
          subst e
          rw [byte_at s _ hi] at h4
          exact absurd ((u8_n _ 45 (by decide)).2 h) h4
  · rintro ⟨⟨h1, h2⟩, h⟩
    refine ⟨⟨⟨⟨h1, h2⟩, ?_⟩, ?_⟩, (only_iff hsB_high s).2 fun i hi => ?_⟩
    · rw [byte_at s 0 (by omega)]
      intro e
      have e' := (u8_n _ 45 (by decide)).1 e
      rcases h 0 (by omega) with c | c
      · rw [e', l45] at c
        cases c
      · omega
    · rw [byte_at s _ (by omega)]
      intro e
      have e' := (u8_n _ 45 (by decide)).1 e
      rcases h (s.size - 1) (by omega) with c | c
      · rw [e', l45] at c
        cases c
      · omega
    · unfold hsB
      rcases h i hi with c | c
      · rw [c]; rfl
      · simp [c.1]
/-- From its second byte on a phone's are digits. -/
def PhOk (s : ByteArray) (i : Nat) : Prop := ∀ h : i < s.size, 1 ≤ i → digB s[i].toNat = true
theorem phone_iff (s : ByteArray) : phoneB s = true ↔ 9 ≤ s.size ∧ s.size ≤ 16 ∧ (∀ h : 0 < s.size, s[0].toNat = 43) ∧ (∀ h : 1 < s.size, s[1].toNat ≠ 48) ∧ ∀ i, PhOk s i := by
  unfold phoneB
  simp only [Bool.and_eq_true, decide_eq_true_eq]
  have hx : ∀ (h : 1 ≤ s.size), onlyB digB (s.extract 1 s.size) = true ↔ ∀ i, PhOk s i := fun h => by
    rw [only_iff digB_high]
    have hsz : (s.extract 1 s.size).size = s.size - 1 := by rw [ByteArray.size_extract]; omega
    constructor
    · intro hh i hi h1
      have := hh (i - 1) (by omega)
      rw [ByteArray.getElem_extract] at this
      simpa only [show 1 + (i - 1) = i by omega] using this
    · intro hh i hi
      rw [ByteArray.getElem_extract]
      exact hh (1 + i) (by omega) (by omega)
  constructor
  · rintro ⟨⟨⟨⟨h1, h2⟩, h3⟩, h4⟩, h5⟩
    rw [byte_at s 0 (by omega)] at h3
    rw [byte_at s 1 (by omega)] at h4
    exact ⟨h1, h2, fun _ => (u8_n _ 43 (by decide)).1 h3, fun _ e => h4 ((u8_n _ 48 (by decide)).2 e), (hx (by omega)).1 h5⟩
  · rintro ⟨h1, h2, h3, h4, h5⟩
    refine ⟨⟨⟨⟨h1, h2⟩, ?_⟩, ?_⟩, (hx (by omega)).2 h5⟩
    · rw [byte_at s 0 (by omega)]
      exact (u8_n _ 43 (by decide)).2 (h3 (by omega))
    · rw [byte_at s 1 (by omega)]
      exact fun e => h4 (by omega) ((u8_n _ 48 (by decide)).1 e)
theorem occ1 (l : List UInt8) (c : UInt8) (j : Nat) : Lib.occAt l [c] j = true ↔ l[j]? = some c := by
  unfold Lib.occAt
  rw [List.isPrefixOf_iff_prefix]
  constructor
  · rintro ⟨t, ht⟩
    have h0 : (l.drop j)[0]? = some c := by rw [← ht]; rfl
    rw [List.getElem?_drop] at h0
    simpa using h0
  · intro h0
    obtain ⟨hl, e⟩ := List.getElem?_eq_some_iff.1 h0
    exact ⟨l.drop (j + 1), by rw [List.drop_eq_getElem_cons hl, e]; rfl⟩
/-- The first place of a byte. -/
theorem index_at (s : ByteArray) (c : UInt8) (d : Nat) (hd : d < s.size) (h : s[d] = c) (hno : ∀ j (hj : j < s.size), j < d → s[j] ≠ c) : Lib.index s.data.toList [c] = d := by
  have hl : s.data.toList.length = s.size := Array.length_toList
  refine Lib.index_first (by omega) ((occ1 _ _ _).2 (by rw [data_get s d hd, h])) (fun j hj => ?_)
  cases q : Lib.occAt s.data.toList [c] j
  · rfl
  · have := (occ1 _ _ _).1 q
    rw [data_get s j (by omega)] at this
    exact absurd (Option.some.inj this) (hno j (by omega) hj)
theorem index_no (s : ByteArray) (c : UInt8) (hno : ∀ j (hj : j < s.size), s[j] ≠ c) : Lib.index s.data.toList [c] = -1 := by
  refine Lib.index_none (fun j _ => ?_)
  cases q : Lib.occAt s.data.toList [c] j
  · rfl
  · have := (occ1 _ _ _).1 q
    rcases Nat.lt_or_ge j s.size with e | e
    · rw [data_get s j e] at this
      exact absurd (Option.some.inj this) (hno j e)
    · rw [data_none s j e] at this
      cases this
theorem dot_list : (⟨#[46]⟩ : ByteArray).data.toList = [46] := rfl
/-- The labels: up to the first dot, and those behind it. -/
theorem hostL_hit (s : ByteArray) (d : Nat) (hd : d < s.size) (h : s[d].toNat = 46) (hno : ∀ j (hj : j < s.size), j < d → s[j].toNat ≠ 46) : hostL s = s.extract 0 d :: hostL (s.extract (d + 1) s.size) := by
  have hi : Lib.indexB s ⟨#[46]⟩ = d := index_at s 46 d hd ((u8_n _ 46 (by decide)).2 h) (fun j hj hjd e => hno j hj hjd ((u8_n _ 46 (by decide)).1 e))
  have hc := Lib.countB_hit s ⟨#[46]⟩ d (by decide) hi
  unfold hostL
  rw [hc, Nat.add_comm, Lib.splitB_hit _ _ _ _ d hi]
  rfl
theorem hostL_miss (s : ByteArray) (hno : ∀ j (hj : j < s.size), s[j].toNat ≠ 46) : hostL s = [s] := by
  have hi : Lib.indexB s ⟨#[46]⟩ = -1 := index_no s 46 (fun j hj e => hno j hj ((u8_n _ 46 (by decide)).1 e))
  unfold hostL
  rw [Lib.splitB_miss _ _ _ _ hi]
theorem host_len (s : ByteArray) : hostB s = (decide (2 ≤ (hostL s).length) && (hostL s).all labB) := by
  unfold hostB
  rw [hostL_length]
/-- What a walk over a host knows: n labels are behind it, the next one began at f, no dot since, up to i. -/
structure HI (s : ByteArray) (n f i : Nat) : Prop where
  fi : f ≤ i
  isz : i ≤ s.size
  len : (hostL s).length = n + (hostL (s.extract f s.size)).length
  all : (hostL s).all labB = (hostL (s.extract f s.size)).all labB
  no : ∀ j (hj : j < s.size), f ≤ j → j < i → s[j].toNat ≠ 46
theorem ext_all (s : ByteArray) : s.extract 0 s.size = s := by
  apply ByteArray.ext
  rw [ByteArray.data_extract]
  exact Array.extract_size
theorem HI.start (s : ByteArray) : HI s 0 0 0 := ⟨Nat.le_refl _, Nat.zero_le _, by rw [ext_all]; omega, by rw [ext_all], fun j _ _ h => (Nat.not_lt_zero j h).elim⟩
theorem HI.next {s : ByteArray} {n f i : Nat} (h : HI s n f i) (hi : i < s.size) (hc : s[i].toNat ≠ 46) : HI s n f (i + 1) := ⟨by have := h.fi; omega, hi, h.len, h.all, fun j hj h1 h2 => by
  rcases Nat.lt_or_ge j i with q | q
  · exact h.no j hj h1 q
  · obtain rfl : j = i := by omega
    exact hc⟩
theorem ext_ext (s : ByteArray) (a b c d : Nat) : (s.extract a b).extract c d = s.extract (a + c) (min (a + d) b) := by
  apply ByteArray.ext
  simp only [ByteArray.data_extract]
  rw [Array.extract_extract]
theorem HI.rest {s : ByteArray} {n f i : Nat} (h : HI s n f i) (hi : i < s.size) (hc : s[i].toNat = 46) : hostL (s.extract f s.size) = s.extract f i :: hostL (s.extract (i + 1) s.size) := by
  have hf := h.fi
  have hsz : (s.extract f s.size).size = s.size - f := by rw [ByteArray.size_extract]; omega
  have h1 := hostL_hit (s.extract f s.size) (i - f) (by omega) (by rw [ByteArray.getElem_extract]; simpa only [show f + (i - f) = i by omega] using hc) (fun j hj hji => by
    rw [ByteArray.getElem_extract]
    exact h.no (f + j) (by omega) (by omega) (by omega))
  rw [h1, hsz, ext_ext s f s.size 0 (i - f), ext_ext s f s.size (i - f + 1) (s.size - f)]
  rw [show f + 0 = f by omega, show min (f + (i - f)) s.size = i by omega, show f + (i - f + 1) = i + 1 by omega, show min (f + (s.size - f)) s.size = s.size by omega]
theorem HI.last {s : ByteArray} {n f : Nat} (h : HI s n f s.size) : hostL (s.extract f s.size) = [s.extract f s.size] := by
  have hf := h.fi
  refine hostL_miss _ (fun j hj => ?_)
  have hsz : (s.extract f s.size).size = s.size - f := by rw [ByteArray.size_extract]; omega
  rw [ByteArray.getElem_extract]
  exact h.no (f + j) (by omega) (by omega) (by omega)
theorem HI.dot {s : ByteArray} {n f i : Nat} (h : HI s n f i) (hi : i < s.size) (hc : s[i].toNat = 46) (hl : labB (s.extract f i) = true) : HI s (n + 1) (i + 1) (i + 1) := by
  have hr := h.rest hi hc
  refine ⟨Nat.le_refl _, hi, ?_, ?_, fun j _ h1 h2 => by omega⟩
  · rw [h.len, hr, List.length_cons]; omega
  · rw [h.all, hr, List.all_cons, hl, Bool.true_and]
theorem HI.bad {s : ByteArray} {n f i : Nat} (h : HI s n f i) (hi : i < s.size) (hc : s[i].toNat = 46) (hl : labB (s.extract f i) = false) : hostB s = false := by
  rw [host_len, h.all, h.rest hi hc, List.all_cons, hl, Bool.false_and, Bool.and_false]
theorem HI.badEnd {s : ByteArray} {n f : Nat} (h : HI s n f s.size) (hl : labB (s.extract f s.size) = false) : hostB s = false := by
  rw [host_len, h.all, h.last, List.all_cons, hl, Bool.false_and, Bool.and_false]
theorem HI.fin {s : ByteArray} {n f : Nat} (h : HI s n f s.size) (hl : labB (s.extract f s.size) = true) : hostB s = decide (2 ≤ n + 1) := by
  rw [host_len, h.all, h.len, h.last, List.all_cons, hl]
  simp
/-- A mail address has its first '@' at i. -/
theorem mail_at (s : ByteArray) (i : Nat) (hi : i < s.size) (h : s[i].toNat = 64) (hno : ∀ j (hj : j < s.size), j < i → s[j].toNat ≠ 64) :
    mailB s = (nameB (s.extract 0 i) && (hostB (s.extract (i + 1) s.size) && decide (s.size ≤ 40))) := by
  have hx : Lib.index s.data.toList [64] = i := index_at s 64 i hi ((u8_n _ 64 (by decide)).2 h) (fun j hj hjd e => hno j hj hjd ((u8_n _ 64 (by decide)).1 e))
  have hcut : Lib.cut s.data.toList [64] = (s.data.toList.take i, s.data.toList.drop (i + 1), true) := by
    unfold Lib.cut
    rw [hx]
    simp
  have hA : cutA s = s.extract 0 i := by
    unfold cutA
    rw [hcut]
    apply ByteArray.ext
    rw [ByteArray.data_extract]
    apply Array.toList_inj.1
    simp
  have hB : cutB s = s.extract (i + 1) s.size := by
    unfold cutB
    rw [hcut]
    apply ByteArray.ext
    apply Array.toList_inj.1
    rw [Lib.extract_to_end]
  have hI : cutI s = true := by
    unfold cutI
    rw [hcut]
  unfold mailB
  rw [hA, hB, hI, Bool.true_and, Bool.and_assoc, Bool.and_comm (decide (s.size ≤ 40)), Bool.and_assoc]
theorem mail_no (s : ByteArray) (hno : ∀ j (hj : j < s.size), s[j].toNat ≠ 64) : mailB s = false := by
  have hx : Lib.index s.data.toList [64] = -1 := index_no s 64 (fun j hj e => hno j hj ((u8_n _ 64 (by decide)).1 e))
  have hI : cutI s = false := by
    unfold cutI Lib.cut
    rw [hx]
    rfl
  unfold mailB
  rw [hI]
  rfl
end Go.Proofs.YtkihleecjgoipaaGreatDoor.Knd
end
/- The reference's address: label, host, isMail, isPhone, Kind, walked: it is address.Kind. Written by wip/tools/mkrk9b.py. -/
section
namespace Go.Proofs.YtkihleecjgoipaaGreatDoor.Knd
open Go.RowKit Go.Proofs.YtkihleecjgoipaaGreatDoor

set_option maxHeartbeats 4000000 in
set_option maxRecDepth 100000 in
theorem label9_any (s : ByteArray) (hs : s.size ≤ 4000000000) (w : World) : Calls Tryz.prog 90 #[.string s] w fun e w' => e = .returned (.bool (labB s)) ∧ w' = w := by
  have NI := Lib.hid (lab_iff s)
  generalize labB s = r at *
  have LT := Lib.hid (fun c w => letter_any c w)
  go_enter Tryz.func90, Tryz.ntmps90
  go_wp2_with fail
  go_loopw [3] (fun i wr => wr = w ∧ ∃ k : Nat, k ≤ s.size ∧ i = .int .i64 k ∧ ∀ j, j < k → LbOk s j) (fun i _ => s.size - (intOf i).toNat)
  case atStart => exact ⟨rfl, 0, Nat.zero_le _, rfl, fun j hj => (Nat.not_lt_zero j hj).elim⟩
  case round =>
    obtain ⟨hw, k, hk, rfl, hno⟩ := hrel
    subst hw
    have HO := Lib.hid hno
    clear hno
    by_cases hkn : k < s.size
    · have hkn' : (k : Int) < s.size := by omega
      have hk0 : (0 : Int) ≤ k := by omega
      obtain ⟨c, hc⟩ : ∃ c, s[k].toNat = c := ⟨_, rfl⟩
      have HC := Lib.hid hc
      have LT2 := Lib.hid (LT.out s[k].toNat)
      obtain ⟨q, hq⟩ : ∃ q, letB s[k].toNat = q := ⟨_, rfl⟩
      rw [hq] at LT2
      have HQ : Hid (letB s[k].toNat = q) := Lib.hid hq
      clear hq
      have hw1 : IntKind.i64.wrap ((s.size : Int) - 1) = (s.size : Int) - 1 := by rw [IntKind.wrap_i64] <;> omega
      cases q
      · by_cases h45 : c = 45
        · have e45 : ((s[k].toNat : Int) == 45) = true := by simp; omega
          have e45n : ((s[k].toNat : Int) != 45) = false := by simp; omega
          by_cases h0 : k = 0
          · have h0b : ((k : Int) == 0) = true := by simp; omega
            have hre : Hid (r = false) := Lib.hid (false_of NI.out fun h => by
              rcases h.2 k hkn with q | q
              · rw [HQ.out] at q; cases q
              · omega)
            clear h0 HO hc
            go_wp2_with (go_at_call 89; (with_reducible refine (LT2.out _).mono ?_); rintro z w2 ⟨rfl, rfl⟩)
            go_ret
            exact ⟨ret_bool hre.out.symm, rfl⟩
          · have h0b : ((k : Int) == 0) = false := by simp; omega
            have h0i : ¬ (k : Int) = 0 := by omega
            by_cases he : k + 1 = s.size
            · have he0 : ((k : Int) == (s.size : Int) - 1) = true := by simp; omega
              have hre : Hid (r = false) := Lib.hid (false_of NI.out fun h => by
                rcases h.2 k hkn with q | q
                · rw [HQ.out] at q; cases q
                · omega)
              clear h0 HO hc he
              go_wp2_with (go_at_call 89; (with_reducible refine (LT2.out _).mono ?_); rintro z w2 ⟨rfl, rfl⟩)
              go_ret
              exact ⟨ret_bool hre.out.symm, rfl⟩
            · have he0 : ((k : Int) == (s.size : Int) - 1) = false := by simp; omega
              have hok : Hid (LbOk s k) := Lib.hid (fun h => .inr ⟨by omega, by omega, by omega⟩)
              clear he hc
              go_wp2_with (go_at_call 89; (with_reducible refine (LT2.out _).mono ?_); rintro z w2 ⟨rfl, rfl⟩)
              go_roundw
              case rel => exact ⟨by trivial, k + 1, by omega, by go_num, fun j hj => by
                rcases Nat.lt_or_ge j k with q | q
                · exact HO.out j q
                · obtain rfl : j = k := by omega
                  exact hok.out⟩
              case measure => simp [intOf]; omega
        · have e45 : ((s[k].toNat : Int) == 45) = false := by simp; omega
          have e45n : ((s[k].toNat : Int) != 45) = true := by simp; omega
          have hre : Hid (r = false) := Lib.hid (false_of NI.out fun h => by
            rcases h.2 k hkn with q | q
            · rw [HQ.out] at q; cases q
            · omega)
          clear HO hc
          go_wp2_with (go_at_call 89; (with_reducible refine (LT2.out _).mono ?_); rintro z w2 ⟨rfl, rfl⟩)
          go_ret
          exact ⟨ret_bool hre.out.symm, rfl⟩
      · have hok : Hid (LbOk s k) := Lib.hid (fun h => .inl HQ.out)
        clear hc
        go_wp2_with (go_at_call 89; (with_reducible refine (LT2.out _).mono ?_); rintro z w2 ⟨rfl, rfl⟩)
        go_roundw
        case rel => exact ⟨by trivial, k + 1, by omega, by go_num, fun j hj => by
          rcases Nat.lt_or_ge j k with q | q
          · exact HO.out j q
          · obtain rfl : j = k := by omega
            exact hok.out⟩
        case measure => simp [intOf]; omega
    · have hkn' : ¬ (k : Int) < s.size := by omega
      have hre : Hid (r = (decide (1 ≤ s.size) && decide (s.size ≤ 20))) := Lib.hid (by
        rw [Bool.eq_iff_iff, NI.out, Bool.and_eq_true, decide_eq_true_eq, decide_eq_true_eq]
        exact ⟨fun h => h.1, fun h => ⟨h, fun i => by
          rcases Nat.lt_or_ge i k with q | q
          · exact HO.out i q
          · exact fun h => absurd h (by omega)⟩⟩)
      by_cases z1 : 1 ≤ s.size
      · have z1' : (1 : Int) ≤ s.size := by omega
        by_cases z2 : s.size ≤ 20
        · have z2' : (s.size : Int) ≤ 20 := by omega
          go_wp2_with fail
          go_ret
          exact ⟨ret_bool (by rw [hre.out, decide_eq_true z1, decide_eq_true z2]; rfl), rfl⟩
        · have z2' : ¬ (s.size : Int) ≤ 20 := by omega
          go_wp2_with fail
          go_ret
          exact ⟨ret_bool (by rw [hre.out, decide_eq_false z2, Bool.and_false]), rfl⟩
      · have z1' : ¬ (1 : Int) ≤ s.size := by omega
        go_wp2_with fail
        go_ret
        exact ⟨ret_bool (by rw [hre.out, decide_eq_false z1]; rfl), rfl⟩
set_option maxHeartbeats 4000000 in
set_option maxRecDepth 100000 in
theorem phone9_any (s : ByteArray) (hs : s.size ≤ 4000000000) (w : World) : Calls Tryz.prog 71 #[.string s] w fun e w' => e = .returned (.bool (phoneB s)) ∧ w' = w := by
  have NI := Lib.hid (phone_iff s)
  generalize phoneB s = r at *
  by_cases p0 : 9 ≤ s.size
  · have p0' : ¬ (s.size : Int) < 9 := by omega
    have j0 : 0 < s.size := by omega
    have j1 : 1 < s.size := by omega
    have j0' : (0 : Int) < s.size := by omega
    have j1' : (1 : Int) < s.size := by omega
    by_cases p1 : s.size ≤ 16
    · have p1' : ¬ (16 : Int) < s.size := by omega
      by_cases p2 : s[0].toNat = 43
      · have e2 : ((s[0].toNat : Int) == 43) = true := by simp; omega
        have e2' : ((s[0].toNat : Int) != 43) = false := by simp; omega
        by_cases p3 : s[1].toNat = 48
        · have e3 : ((s[1].toNat : Int) == 48) = true := by simp; omega
          have hre : Hid (r = false) := Lib.hid (false_of NI.out fun h => h.2.2.2.1 j1 p3)
          clear p2 p3
          go_enter Tryz.func71, Tryz.ntmps71
          go_wp2_with fail
          go_ret
          exact ⟨ret_bool hre.out.symm, rfl⟩
        · have e3 : ((s[1].toNat : Int) == 48) = false := by simp; omega
          have NJ : Hid (r = true ↔ ∀ i, PhOk s i) := Lib.hid (by
            rw [NI.out]
            exact ⟨fun h => h.2.2.2.2, fun h => ⟨p0, p1, fun _ => p2, fun _ => p3, h⟩⟩)
          clear p2 p3 NI
          go_enter Tryz.func71, Tryz.ntmps71
          go_wp2_with fail
          go_loopw [3] (fun i wr => wr = w ∧ ∃ k : Nat, k ≤ s.size ∧ 1 ≤ k ∧ i = .int .i64 k ∧ ∀ j, j < k → PhOk s j) (fun i _ => s.size - (intOf i).toNat)
          case atStart => exact ⟨rfl, 1, by omega, Nat.le_refl _, rfl, fun j hj _ h1 => by omega⟩
          case round =>
            obtain ⟨hw, k, hk, hk1, rfl, hno⟩ := hrel
            subst hw
            have HO := Lib.hid hno
            clear hno
            by_cases hkn : k < s.size
            · have hkn' : (k : Int) < s.size := by omega
              have hk0 : (0 : Int) ≤ k := by omega
              by_cases d1 : s[k].toNat < 48
              · have d1' : (s[k].toNat : Int) < 48 := by omega
                have hre : Hid (r = false) := Lib.hid (false_of NJ.out fun h => by
                  have := h k hkn hk1
                  unfold digB at this
                  simp at this
                  omega)
                clear d1 HO
                go_wp2_with fail
                go_ret
                exact ⟨ret_bool hre.out.symm, rfl⟩
              · have d1' : ¬ (s[k].toNat : Int) < 48 := by omega
                by_cases d2 : 57 < s[k].toNat
                · have d2' : (57 : Int) < s[k].toNat := by omega
                  have hre : Hid (r = false) := Lib.hid (false_of NJ.out fun h => by
                    have := h k hkn hk1
                    unfold digB at this
                    simp at this
                    omega)
                  clear d1 d2 HO
                  go_wp2_with fail
                  go_ret
                  exact ⟨ret_bool hre.out.symm, rfl⟩
                · have d2' : ¬ (57 : Int) < s[k].toNat := by omega
                  have hok : Hid (PhOk s k) := Lib.hid (fun _ _ => by unfold digB; simp; omega)
                  clear d1 d2
                  go_wp2_with fail
                  go_roundw
                  case rel => exact ⟨by trivial, k + 1, by omega, by omega, by go_num, fun j hj => by
                    rcases Nat.lt_or_ge j k with q | q
                    · exact HO.out j q
                    · obtain rfl : j = k := by omega
                      exact hok.out⟩
                  case measure => simp [intOf]; omega
            · have hkn' : ¬ (k : Int) < s.size := by omega
              have hre : Hid (r = true) := Lib.hid (NJ.out.2 fun i => by
                rcases Nat.lt_or_ge i k with q | q
                · exact HO.out i q
                · exact fun h => absurd h (by omega))
              go_wp2_with fail
              go_ret
              exact ⟨ret_bool hre.out.symm, rfl⟩
      · have e2 : ((s[0].toNat : Int) == 43) = false := by simp; omega
        have e2' : ((s[0].toNat : Int) != 43) = true := by simp; omega
        have hre : Hid (r = false) := Lib.hid (false_of NI.out fun h => p2 (h.2.2.1 j0))
        clear p2
        go_enter Tryz.func71, Tryz.ntmps71
        go_wp2_with fail
        go_ret
        exact ⟨ret_bool hre.out.symm, rfl⟩
    · have p1' : (16 : Int) < s.size := by omega
      have hre : Hid (r = false) := Lib.hid (false_of NI.out fun h => p1 h.2.1)
      go_enter Tryz.func71, Tryz.ntmps71
      go_wp2_with fail
      go_ret
      exact ⟨ret_bool hre.out.symm, rfl⟩
  · have p0' : (s.size : Int) < 9 := by omega
    have hre : Hid (r = false) := Lib.hid (false_of NI.out fun h => p0 h.1)
    go_enter Tryz.func71, Tryz.ntmps71
    go_wp2_with fail
    go_ret
    exact ⟨ret_bool hre.out.symm, rfl⟩
end Go.Proofs.YtkihleecjgoipaaGreatDoor.Knd
end
