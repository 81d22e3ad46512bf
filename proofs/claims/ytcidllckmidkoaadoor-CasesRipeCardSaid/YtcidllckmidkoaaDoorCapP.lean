/- What cases.Apply does, in plain words; rows that may be. -/
import Derived.Test.YtcidllckmidkoaaDoorCvou
import Derived.Test.YtcidllckmidkoaaDoorCdf
namespace Go.Proofs.YtcidllckmidkoaaDoor
open Go.RowKit Go.Maps

structure Evn where
  kind : Int
  acc : Int
  pur : Int
  at_ : Int
  num : Int
  a : ByteArray
  b : ByteArray
  c : ByteArray
def Evn.agg (e : Evn) : Value := .agg #[.int .i64 e.kind, .int .i64 e.acc, .int .i64 e.pur, .int .i64 e.at_, .int .i64 e.num, .string e.a, .string e.b, .string e.c]
def newC (e : Evn) : Cas := ⟨e.acc, e.at_, clk e.at_ 200, e.pur, ⟨#[]⟩, ⟨#[]⟩, ⟨#[]⟩, ⟨#[]⟩, ⟨#[]⟩⟩
def left (L : List Cas) (e : Evn) : List Cas := L.filter (keepO e.at_)
def opnE (L : List Cas) (e : Evn) : Int := if e.acc < 1 ∨ 99 < e.acc ∨ e.pur < 1 ∨ 5 < e.pur then 1 else if hasA (left L e) e.acc then 14 else if 8 ≤ (left L e).length then 15 else 0
def opnR (L : List Cas) (e : Evn) : List Cas := if opnE L e = 0 then (left L e).take (plc (left L e) e.acc) ++ newC e :: (left L e).drop (plc (left L e) e.acc) else L
def known (e : Evn) : Bool := decide (e.kind = 18) || decide (e.kind = 19) || decide (e.kind = 20)
def appE (L : List Cas) (e : Evn) : Int := if e.kind = 17 then opnE L e else if known e = false then 1 else if hasA L e.acc = false then 12 else if e.kind = 18 then vouE (L[plc L e.acc]?.getD noCas) e.a else 0
def appR (L : List Cas) (e : Evn) : List Cas := if e.kind = 17 then opnR L e else if known e = false then L else if hasA L e.acc = false then L else if e.kind = 18 then vouR L (plc L e.acc) e.a else L.take (plc L e.acc) ++ L.drop (plc L e.acc + 1)

/-- What is refused changes nothing. -/
theorem appR_same {L : List Cas} {e : Evn} (h : appE L e ≠ 0) : appR L e = L := by
  unfold appE at h
  unfold appR
  by_cases h1 : e.kind = 17
  · rw [if_pos h1] at h ⊢
    unfold opnR
    rw [if_neg h]
  · rw [if_neg h1] at h ⊢
    by_cases h2 : known e = false
    · rw [if_pos h2]
    · rw [if_neg h2] at h ⊢
      by_cases h3 : hasA L e.acc = false
      · rw [if_pos h3]
      · rw [if_neg h3] at h ⊢
        by_cases h4 : e.kind = 18
        · rw [if_pos h4] at h ⊢
          unfold vouR
          rw [if_neg h]
        · rw [if_neg h4] at h
          exact absurd rfl h

/-- The contacts that vouched are xs, in order. -/
structure Good (c : Cas) (xs : List ByteArray) : Prop where
  vs : c.vs = xs ++ List.replicate (5 - xs.length) ⟨#[]⟩
  le : xs.length ≤ 5
  nd : xs.Nodup
  mail : ∀ x ∈ xs, kindOf x = 1
structure Right (c : Cas) : Prop where
  acc : 1 ≤ c.acc ∧ c.acc ≤ 99
  opened : 0 ≤ c.opened ∧ c.opened ≤ 1099511627776
  ripe : c.ripe = clk c.opened 200
  quorum : 1 ≤ c.quorum ∧ c.quorum ≤ 5
  good : ∃ xs, Good c xs
/-- A row that may be. -/
structure INV (L : List Cas) : Prop where
  rise : Rise L
  right : ∀ c ∈ L, Right c
  few : L.length ≤ 8
theorem INV.nil : INV [] := ⟨List.Pairwise.nil, fun c h => (List.not_mem_nil h).elim, by simp⟩

theorem kind_empty : kindOf ⟨#[]⟩ = 0 := by decide +kernel
theorem nonE_of_kind {x : ByteArray} (h : kindOf x = 1) : nonE x = true := by
  unfold nonE
  cases hq : x.toList.isEmpty
  · rfl
  · exfalso
    have e : x.toList = [] := by simpa using hq
    have : x = ⟨#[]⟩ := by
      have e2 : x.data.toList = [] := by rw [← e]; exact (Lib.toList_data x).symm
      cases x with
      | mk d =>
        have e3 : d = #[] := Array.ext' (by simpa using e2)
        rw [e3]
    rw [this, kind_empty] at h
    cases h
theorem nonE_empty : nonE ⟨#[]⟩ = false := by decide +kernel
theorem Good.cnt {c : Cas} {xs : List ByteArray} (h : Good c xs) : cntB c = xs.length := by
  unfold cntB
  rw [h.vs, List.filter_append, List.filter_eq_self.2 (fun x hx => nonE_of_kind (h.mail x hx)), List.filter_replicate, nonE_empty]
  simp
theorem Good.has {c : Cas} {xs : List ByteArray} (h : Good c xs) (x : ByteArray) : hasB c x = true ↔ x ∈ xs := by
  unfold hasB
  rw [Bool.and_eq_true, Lib.containsS_iff, h.vs, List.mem_append, List.mem_replicate]
  constructor
  · rintro ⟨h1, h2 | h2⟩
    · exact h2
    · rw [h2.2, nonE_empty] at h1
      cases h1
  · exact fun h2 => ⟨nonE_of_kind (h.mail x h2), .inl h2⟩
theorem Good.put {c : Cas} {xs : List ByteArray} (h : Good c xs) {x : ByteArray} (hk : kindOf x = 1) (hn : x ∉ xs) (h5 : xs.length < 5) : Good (c.putV xs.length x) (xs ++ [x]) := by
  refine ⟨?_, by simp; omega, ?_, ?_⟩
  · have hv := h.vs
    obtain ⟨c1, c2, c3, c4, a, b, d, e, f⟩ := c
    have hl : xs.length = 0 ∨ xs.length = 1 ∨ xs.length = 2 ∨ xs.length = 3 ∨ xs.length = 4 := by omega
    simp only [Cas.vs] at hv
    match xs, hl, hv with
    | [], _, hv => simp [List.replicate] at hv; simp [Cas.putV, Cas.vs, List.replicate, hv]
    | [a1], _, hv => simp [List.replicate] at hv; simp [Cas.putV, Cas.vs, List.replicate, hv]
    | [a1, a2], _, hv => simp [List.replicate] at hv; simp [Cas.putV, Cas.vs, List.replicate, hv]
    | [a1, a2, a3], _, hv => simp [List.replicate] at hv; simp [Cas.putV, Cas.vs, hv]
    | [a1, a2, a3, a4], _, hv => simp at hv; simp [Cas.putV, Cas.vs, hv]
    | a1 :: a2 :: a3 :: a4 :: a5 :: r, hl, _ => simp at hl
  · rw [List.nodup_append]
    refine ⟨h.nd, by simp, fun a ha b hb => ?_⟩
    rw [List.mem_singleton] at hb
    subst hb
    exact fun e => hn (e ▸ ha)
  · intro y hy
    rcases List.mem_append.1 hy with h1 | h1
    · exact h.mail y h1
    · rw [List.mem_singleton] at h1
      rw [h1]; exact hk
theorem Good.fresh (e : Evn) : Good (newC e) [] := ⟨rfl, by simp, List.nodup_nil, fun x h => (List.not_mem_nil h).elim⟩
theorem putV_same (c : Cas) (k : Nat) (x : ByteArray) : (c.putV k x).acc = c.acc ∧ (c.putV k x).opened = c.opened ∧ (c.putV k x).ripe = c.ripe ∧ (c.putV k x).quorum = c.quorum := by
  unfold Cas.putV
  repeat' split
  all_goals exact ⟨rfl, rfl, rfl, rfl⟩
theorem left_sub (L : List Cas) (e : Evn) : (left L e).Sublist L := List.filter_sublist
theorem Rise.sub {L M : List Cas} (h : Rise L) (s : M.Sublist L) : Rise M := List.Pairwise.sublist s h

/-- An account's case. -/
def look (L : List Cas) (id : Int) : Option Cas := L.find? (fun c => decide (c.acc = id))
theorem rise_uniq {L : List Cas} (h : Rise L) {a b : Cas} (ha : a ∈ L) (hb : b ∈ L) (e : a.acc = b.acc) : a = b := by
  obtain ⟨i, hi, rfl⟩ := List.mem_iff_getElem.1 ha
  obtain ⟨j, hj, rfl⟩ := List.mem_iff_getElem.1 hb
  have h2 := List.pairwise_iff_getElem.1 h
  rcases Nat.lt_trichotomy i j with q | q | q
  · have := h2 i j hi hj q; omega
  · subst q; rfl
  · have := h2 j i hj hi q; omega
theorem look_iff {L : List Cas} (h : Rise L) {id : Int} {c : Cas} : look L id = some c ↔ c ∈ L ∧ c.acc = id := by
  unfold look
  constructor
  · intro e
    exact ⟨List.mem_of_find?_eq_some e, by simpa using List.find?_some e⟩
  · rintro ⟨h1, h2⟩
    cases hq : L.find? (fun c => decide (c.acc = id)) with
    | none =>
      have := List.find?_eq_none.1 hq c h1
      simp [h2] at this
    | some d =>
      have h3 := List.mem_of_find?_eq_some hq
      have h4 : d.acc = id := by simpa using List.find?_some hq
      rw [rise_uniq h h3 h1 (by rw [h4, h2])]
theorem look_none {L : List Cas} {id : Int} : look L id = none ↔ ∀ c ∈ L, c.acc ≠ id := by
  unfold look
  rw [List.find?_eq_none]
  simp
theorem plc_before {L : List Cas} {id : Int} {j : Nat} (h : j < plc L id) : accAt L j < id := by
  have hl : plc L id ≤ L.length := List.findIdx_le_length
  rw [accAt_lt (by omega)]
  have := List.not_of_lt_findIdx (p := fun c => decide (id ≤ c.acc)) (xs := L) h
  simp at this
  exact this
theorem plc_here {L : List Cas} {id : Int} (h : plc L id < L.length) : id ≤ accAt L (plc L id) := by
  rw [accAt_lt h]
  have := List.findIdx_getElem (p := fun c : Cas => decide (id ≤ c.acc)) (xs := L) (w := h)
  exact of_decide_eq_true this
theorem plc_le (L : List Cas) (id : Int) : plc L id ≤ L.length := List.findIdx_le_length
/-- What has and the place say of the case. -/
theorem look_has {L : List Cas} (h : Rise L) {id : Int} (hh : hasA L id = true) : look L id = some (L[plc L id]?.getD noCas) ∧ plc L id < L.length := by
  obtain ⟨h1, h2⟩ := plc_lt hh
  refine ⟨?_, h1⟩
  rw [look_iff h, List.getElem?_eq_getElem h1, Option.getD_some]
  rw [accAt_lt h1] at h2
  exact ⟨List.getElem_mem h1, h2⟩
theorem look_hasnt {L : List Cas} (h : Rise L) {id : Int} (hh : hasA L id = false) : look L id = none := by
  rw [look_none]
  intro c hc e
  obtain ⟨j, hj, rfl⟩ := List.mem_iff_getElem.1 hc
  have hp : plc L id = j := by
    refine plc_of (by omega) (fun k hk => ?_) (fun k hk1 hk2 => ?_)
    · have := rise_at h hk hj
      rw [accAt_lt hj] at this
      omega
    · rcases Nat.eq_or_lt_of_le hk1 with q | q
      · subst q
        rw [accAt_lt hj]; omega
      · have := rise_at h q hk2
        rw [accAt_lt hj] at this
        omega
  unfold hasA at hh
  rw [hp, accAt_lt hj] at hh
  simp [hj, e] at hh
theorem has_look {L : List Cas} (h : Rise L) (id : Int) : hasA L id = (look L id).isSome := by
  cases hq : hasA L id
  · rw [look_hasnt h hq]; rfl
  · rw [(look_has h hq).1]; rfl
theorem rise_ins {M : List Cas} (h : Rise M) {c : Cas} (hh : hasA M c.acc = false) : Rise (M.take (plc M c.acc) ++ c :: M.drop (plc M c.acc)) := by
  have hb : ∀ b ∈ M.drop (plc M c.acc), c.acc < b.acc := by
    intro b hb
    obtain ⟨k, hk, rfl⟩ := List.mem_iff_getElem.1 hb
    rw [List.length_drop] at hk
    rw [List.getElem_drop]
    have h0 : plc M c.acc < M.length := by omega
    have h1 := plc_here h0
    have h2 : accAt M (plc M c.acc) ≠ c.acc := by
      intro e
      unfold hasA at hh
      simp [h0, e] at hh
    rcases Nat.eq_zero_or_pos k with q | q
    · subst q
      rw [accAt_lt h0] at h1 h2
      simp only [Nat.add_zero]
      omega
    · have := rise_at h (show plc M c.acc < plc M c.acc + k by omega) (by omega)
      rw [accAt_lt (j := plc M c.acc + k) (by omega)] at this
      omega
  have ha : ∀ a ∈ M.take (plc M c.acc), a.acc < c.acc := by
    intro a ha
    obtain ⟨k, hk, rfl⟩ := List.mem_iff_getElem.1 ha
    rw [List.length_take] at hk
    rw [List.getElem_take]
    have := plc_before (L := M) (id := c.acc) (j := k) (by omega)
    rw [accAt_lt (by omega)] at this
    exact this
  refine List.pairwise_append.2 ⟨List.Pairwise.sublist (List.take_sublist _ _) h, List.pairwise_cons.2 ⟨hb, List.Pairwise.sublist (List.drop_sublist _ _) h⟩, fun a h1 b h2 => ?_⟩
  rcases List.mem_cons.1 h2 with q | q
  · rw [q]; exact ha a h1
  · have := ha a h1
    have := hb b q
    omega
theorem mem_ins {M : List Cas} {c x : Cas} {p : Nat} : x ∈ M.take p ++ c :: M.drop p ↔ x = c ∨ x ∈ M := by
  have e : x ∈ M ↔ x ∈ M.take p ∨ x ∈ M.drop p := by rw [← List.mem_append, List.take_append_drop]
  rw [List.mem_append, List.mem_cons, e]
  constructor
  · rintro (h | h | h)
    · exact .inr (.inl h)
    · exact .inl h
    · exact .inr (.inr h)
  · rintro (h | h | h)
    · exact .inr (.inl h)
    · exact .inl h
    · exact .inr (.inr h)
theorem rise_set {L : List Cas} (h : Rise L) {i : Nat} (hi : i < L.length) {c : Cas} (e : c.acc = L[i].acc) : Rise (L.set i c) := by
  have h := List.pairwise_iff_getElem.1 h
  refine List.pairwise_iff_getElem.2 ?_
  intro a b ha hb hab
  rw [List.length_set] at ha hb
  have := h a b ha hb hab
  rw [List.getElem_set, List.getElem_set]
  split <;> split
  · omega
  · rename_i h1 _; subst h1; omega
  · rename_i _ h1; subst h1; omega
  · exact this
theorem mem_set {L : List Cas} (h : Rise L) {i : Nat} (hi : i < L.length) {c x : Cas} (e : c.acc = L[i].acc) : x ∈ L.set i c ↔ x = c ∨ (x ∈ L ∧ x.acc ≠ c.acc) := by
  constructor
  · intro hx
    obtain ⟨j, hj, rfl⟩ := List.mem_iff_getElem.1 hx
    rw [List.length_set] at hj
    rw [List.getElem_set]
    split
    · exact .inl rfl
    · rename_i hne
      refine .inr ⟨List.getElem_mem hj, fun q => hne ?_⟩
      rw [e] at q
      have h2 := List.pairwise_iff_getElem.1 h
      rcases Nat.lt_trichotomy i j with k | k | k
      · have := h2 i j hi hj k; omega
      · exact k
      · have := h2 j i hj hi k; omega
  · rintro (rfl | ⟨h1, h2⟩)
    · exact List.mem_iff_getElem.2 ⟨i, by rw [List.length_set]; exact hi, by simp⟩
    · obtain ⟨j, hj, rfl⟩ := List.mem_iff_getElem.1 h1
      refine List.mem_iff_getElem.2 ⟨j, by rw [List.length_set]; exact hj, ?_⟩
      rw [List.getElem_set_ne]
      intro q
      subst q
      exact h2 e.symm
theorem mem_del {L : List Cas} (h : Rise L) {p : Nat} (hp : p < L.length) {x : Cas} : x ∈ L.take p ++ L.drop (p + 1) ↔ x ∈ L ∧ x.acc ≠ L[p].acc := by
  have hL : L = L.take p ++ L[p] :: L.drop (p + 1) := by rw [← List.drop_eq_getElem_cons hp, List.take_append_drop]
  have hr := h
  unfold Rise at hr
  rw [hL] at hr
  obtain ⟨_, h2, h3⟩ := List.pairwise_append.1 hr
  obtain ⟨h4, _⟩ := List.pairwise_cons.1 h2
  have hm : x ∈ L ↔ x ∈ L.take p ∨ x = L[p] ∨ x ∈ L.drop (p + 1) := by
    conv => lhs; rw [hL]
    rw [List.mem_append, List.mem_cons]
  rw [hm, List.mem_append]
  constructor
  · rintro (q | q)
    · exact ⟨.inl q, by have := h3 x q L[p] (List.mem_cons_self ..); omega⟩
    · exact ⟨.inr (.inr q), by have := h4 x q; omega⟩
  · rintro ⟨q | q | q, hne⟩
    · exact .inl q
    · rw [q] at hne; exact absurd rfl hne
    · exact .inr q

/-- What is put, and taken away, of what may be, may be. -/
theorem INV.sub {L M : List Cas} (h : INV L) (s : M.Sublist L) : INV M := ⟨h.rise.sub s, fun c hc => h.right c (s.subset hc), Nat.le_trans s.length_le h.few⟩
theorem INV.ins {M : List Cas} (h : INV M) {c : Cas} (hc : Right c) (hh : hasA M c.acc = false) (hl : M.length < 8) : INV (M.take (plc M c.acc) ++ c :: M.drop (plc M c.acc)) := by
  refine ⟨rise_ins h.rise hh, fun x hx => ?_, ?_⟩
  · rcases mem_ins.1 hx with rfl | q
    · exact hc
    · exact h.right x q
  · rw [List.length_append, List.length_cons, List.length_take, List.length_drop]
    omega
theorem INV.put {L : List Cas} (h : INV L) {i : Nat} (hi : i < L.length) {c : Cas} (hc : Right c) (e : c.acc = L[i].acc) : INV (L.set i c) := by
  refine ⟨rise_set h.rise hi e, fun x hx => ?_, by rw [List.length_set]; exact h.few⟩
  rcases (mem_set h.rise hi e).1 hx with rfl | q
  · exact hc
  · exact h.right x q.1
theorem del_sub (L : List Cas) (p : Nat) : (L.take p ++ L.drop (p + 1)).Sublist L := by
  have : (L.take p ++ L.drop (p + 1)).Sublist (L.take p ++ L.drop p) := by
    refine List.Sublist.append (List.Sublist.refl _) ?_
    rw [← List.drop_drop]
    exact List.drop_sublist _ _
  rwa [List.take_append_drop] at this
theorem right_new {e : Evn} (h : ¬ (e.acc < 1 ∨ 99 < e.acc ∨ e.pur < 1 ∨ 5 < e.pur)) (h1 : 0 ≤ e.at_ ∧ e.at_ ≤ 1099511627776) : Right (newC e) :=
  ⟨⟨by show 1 ≤ e.acc; omega, by show e.acc ≤ 99; omega⟩, h1, rfl, ⟨by show 1 ≤ e.pur; omega, by show e.pur ≤ 5; omega⟩, ⟨[], Good.fresh e⟩⟩
theorem Right.put {c : Cas} {xs : List ByteArray} (h : Right c) (g : Good c xs) {x : ByteArray} (hk : vouE c x = 0) : Right (c.putV (cntB c) x) ∧ Good (c.putV (cntB c) x) (xs ++ [x]) ∧ kindOf x = 1 ∧ x ∉ xs ∧ xs.length < 5 := by
  unfold vouE at hk
  by_cases h1 : kindOf x ≠ 1
  · rw [if_pos h1] at hk; cases hk
  · rw [if_neg h1] at hk
    by_cases h2 : hasB c x = true
    · rw [if_pos h2] at hk; cases hk
    · rw [if_neg h2] at hk
      by_cases h3 : 5 ≤ cntB c
      · rw [if_pos h3] at hk; cases hk
      · have hk1 : kindOf x = 1 := by omega
        have hn : x ∉ xs := fun q => h2 ((g.has x).2 q)
        rw [g.cnt] at h3 ⊢
        have g2 := g.put hk1 hn (by omega)
        obtain ⟨e1, e2, e3, e4⟩ := putV_same c xs.length x
        exact ⟨⟨by rw [e1]; exact h.acc, by rw [e2]; exact h.opened, by rw [e3, e2]; exact h.ripe, by rw [e4]; exact h.quorum, ⟨_, g2⟩⟩, g2, hk1, hn, by omega⟩
theorem INV.app {L : List Cas} (h : INV L) {e : Evn} (h1 : 0 ≤ e.at_ ∧ e.at_ ≤ 1099511627776) : INV (appR L e) := by
  unfold appR
  split
  · unfold opnR
    split
    · rename_i hq
      unfold opnE at hq
      split at hq
      · cases hq
      · rename_i g1
        split at hq
        · cases hq
        · rename_i g2
          split at hq
          · cases hq
          · exact (h.sub (left_sub L e)).ins (c := newC e) (right_new g1 h1) (show hasA (left L e) e.acc = false by simpa using g2) (by omega)
    · exact h
  · split
    · exact h
    · split
      · exact h
      · rename_i hh
        have hh' : hasA L e.acc = true := by simpa using hh
        obtain ⟨hp, ha⟩ := plc_lt hh'
        split
        · unfold vouR
          split
          · rename_i hv
            rw [List.getElem?_eq_getElem hp, Option.getD_some] at hv ⊢
            obtain ⟨xs, g⟩ := (h.right _ (List.getElem_mem hp)).good
            have r := (h.right _ (List.getElem_mem hp)).put g hv
            exact h.put hp r.1 (putV_same _ _ _).1
          · exact h
        · exact h.sub (del_sub L _)
/-- Each account's case behind an event. -/
theorem look_app {L : List Cas} (h : INV L) {e : Evn} (h1 : 0 ≤ e.at_ ∧ e.at_ ≤ 1099511627776) (h0 : appE L e = 0) (id : Int) :
    look (appR L e) id = if e.kind = 17 then (if id = e.acc then some (newC e) else (look L id).filter (keepO e.at_)) else if id = e.acc then (if e.kind = 18 then (look L id).map (fun c => c.putV (cntB c) e.a) else none) else look L id := by
  have hi := h.app h1
  have key : ∀ o : Option Cas, (∀ c, o = some c ↔ c ∈ appR L e ∧ c.acc = id) → look (appR L e) id = o := fun o ho => by
    cases hq : look (appR L e) id with
    | some c => exact ((ho c).2 ((look_iff hi.rise).1 hq)).symm
    | none =>
      cases o with
      | none => rfl
      | some c =>
        have := (ho c).1 rfl
        exact absurd this.2 (look_none.1 hq c this.1)
  refine key _ fun c => ?_
  unfold appE at h0
  unfold appR
  by_cases k1 : e.kind = 17
  · rw [if_pos k1] at h0 ⊢
    rw [if_pos k1]
    unfold opnR
    rw [if_pos h0]
    unfold opnE at h0
    split at h0
    · cases h0
    · split at h0
      · cases h0
      · rename_i g2
        have g3 : look (left L e) e.acc = none := look_hasnt (h.rise.sub (left_sub L e)) (by simpa using g2)
        rw [mem_ins]
        by_cases hid : id = e.acc
        · rw [if_pos hid]
          subst hid
          constructor
          · intro q
            cases q
            exact ⟨.inl rfl, rfl⟩
          · rintro ⟨q | q, q2⟩
            · rw [q]
            · exact absurd q2 (look_none.1 g3 c q)
        · rw [if_neg hid, Option.filter_eq_some_iff, look_iff h.rise]
          unfold left
          rw [List.mem_filter]
          constructor
          · rintro ⟨⟨q1, q2⟩, q3⟩
            exact ⟨.inr ⟨q1, q3⟩, q2⟩
          · rintro ⟨q | q, q2⟩
            · rw [q] at q2
              exact absurd q2.symm hid
            · exact ⟨⟨q.1, q2⟩, q.2⟩
  · rw [if_neg k1] at h0 ⊢
    rw [if_neg k1]
    split at h0
    · cases h0
    · rename_i kn
      rw [if_neg kn]
      split at h0
      · cases h0
      · rename_i hh
        rw [if_neg hh]
        have hh' : hasA L e.acc = true := by simpa using hh
        obtain ⟨hp, ha⟩ := plc_lt hh'
        obtain ⟨hl, _⟩ := look_has h.rise hh'
        rw [accAt_lt hp] at ha
        rw [List.getElem?_eq_getElem hp, Option.getD_some] at hl h0
        by_cases k2 : e.kind = 18
        · rw [if_pos k2] at h0 ⊢
          rw [if_pos k2]
          unfold vouR
          rw [List.getElem?_eq_getElem hp, Option.getD_some, if_pos h0]
          generalize hx : L[plc L e.acc].putV (cntB L[plc L e.acc]) e.a = x
          have hxa : x.acc = L[plc L e.acc].acc := by rw [← hx]; exact (putV_same _ _ _).1
          rw [mem_set h.rise hp hxa]
          by_cases hid : id = e.acc
          · rw [if_pos hid]
            subst hid
            rw [hl, Option.map_some]
            constructor
            · intro q
              cases q
              exact ⟨.inl hx, by rw [hx, hxa, ha]⟩
            · rintro ⟨q | q, q2⟩
              · rw [q, hx]
              · exact absurd (by rw [q2, hxa, ha]) q.2
          · rw [if_neg hid, look_iff h.rise]
            constructor
            · rintro ⟨q1, q2⟩
              exact ⟨.inr ⟨q1, by rw [q2, hxa, ha]; exact hid⟩, q2⟩
            · rintro ⟨q | q, q2⟩
              · rw [q, hxa, ha] at q2
                exact absurd q2.symm hid
              · exact ⟨q.1, q2⟩
        · rw [if_neg k2, if_neg k2, mem_del h.rise hp, ha]
          by_cases hid : id = e.acc
          · rw [if_pos hid]
            subst hid
            constructor
            · intro q; cases q
            · rintro ⟨q, q2⟩
              exact absurd q2 q.2
          · rw [if_neg hid, look_iff h.rise]
            constructor
            · rintro ⟨q1, q2⟩
              exact ⟨⟨q1, by rw [q2]; exact hid⟩, q2⟩
            · rintro ⟨q, q2⟩
              exact ⟨q.1, q2⟩
end Go.Proofs.YtcidllckmidkoaaDoor
