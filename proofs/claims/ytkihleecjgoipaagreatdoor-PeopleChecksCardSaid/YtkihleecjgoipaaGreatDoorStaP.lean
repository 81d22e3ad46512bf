/- Whether people may be (people.Check), in plain words; people behind events may. -/
import Derived.Test.YtkihleecjgoipaaGreatDoorMg10
namespace Go.Proofs.YtkihleecjgoipaaGreatDoor
open Go.RowKit Go.Maps Go.Proofs.YtkihleecjgoipaaGreatDoor.Rw

def cgo : List ByteArray → Bool → List ByteArray → Bool
  | [], _, _ => true
  | c :: l, e, s => if c = ⟨#[]⟩ then cgo l true (c :: s) else if (e || inB c s || !onesB c) = true then false else cgo l e (c :: s)
def contB (x : Per.R) : Bool := cgo x.cs false [x.mail]
def perB (x : Per.R) : Bool := decide (1 ≤ x.id) && decide (x.id ≤ 99) && onesB x.mail && keyB x.salt x.chk && decide (1 ≤ x.vers) && decide (x.vers ≤ 1099511627776) && decide (0 ≤ x.miss) && decide (x.miss ≤ 4) && decide (0 ≤ x.lock) && decide (x.lock ≤ 1099511627776) && contB x
def pgo : List Per.R → Int → List ByteArray → Bool
  | [], _, _ => true
  | x :: l, last, s => perB x && !decide (x.id ≤ last) && !inB x.mail s && pgo l x.id (x.mail :: s)
def sesB (p : Ppl) (t : Ses.R) : Bool := p.ps.any (fun x => decide (x.id = t.acc)) && decide (t.dig.size = 32) && decide (1 ≤ t.acc) && decide (t.acc ≤ 99) && decide (0 ≤ t.exp) && decide (t.exp ≤ 1099511627776)
def sgo (p : Ppl) : List Ses.R → List ByteArray → Bool
  | [], _ => true
  | t :: l, s => sesB p t && !inB t.dig s && sgo p l (t.dig :: s)
def chkB (p : Ppl) : Bool := pgo p.ps 0 [] && sgo p p.ss [] && decide (p.ps.length ≤ 12) && decide (p.ss.length ≤ 16)

theorem cgo_true : ∀ (l : List ByteArray) (s : List ByteArray), cgo l true s = true ↔ ∀ c ∈ l, c = ⟨#[]⟩
  | [], s => by simp [cgo]
  | c :: l, s => by
    unfold cgo
    by_cases h : c = ⟨#[]⟩
    · rw [if_pos h, cgo_true l]
      simp [h]
    · rw [if_neg h]
      simp [h]
theorem cgo_iff : ∀ (l : List ByteArray) (s : List ByteArray), cgo l false s = true ↔ ∃ u n, l = u ++ List.replicate n ⟨#[]⟩ ∧ (∀ c ∈ u, c ≠ ⟨#[]⟩ ∧ onesB c = true ∧ c ∉ s) ∧ u.Pairwise (· ≠ ·)
  | [], s => by
    unfold cgo
    exact ⟨fun _ => ⟨[], 0, rfl, by simp, List.Pairwise.nil⟩, fun _ => rfl⟩
  | c :: l, s => by
    unfold cgo
    by_cases h : c = ⟨#[]⟩
    · rw [if_pos h, cgo_true l]
      constructor
      · intro ha
        refine ⟨[], l.length + 1, ?_, by simp, List.Pairwise.nil⟩
        rw [List.nil_append, List.replicate_succ, h]
        congr 1
        exact List.eq_replicate_iff.2 ⟨rfl, ha⟩
      · rintro ⟨u, n, hl, hu, _⟩ d hd
        cases u with
        | nil =>
          rw [List.nil_append] at hl
          have := List.mem_cons_of_mem c hd
          rw [hl] at this
          exact (List.mem_replicate.1 this).2
        | cons a u =>
          injection hl with h1 _
          exact absurd (h1.symm.trans h) (hu a (List.mem_cons_self ..)).1
    · rw [if_neg h]
      by_cases hb : (false || inB c s || !onesB c) = true
      · rw [if_pos hb]
        refine ⟨fun q => (by cases q), ?_⟩
        rintro ⟨u, n, hl, hu, _⟩
        cases u with
        | nil =>
          cases n with
          | zero => cases hl
          | succ n =>
            rw [List.nil_append, List.replicate_succ] at hl
            injection hl with h1 _
            exact absurd h1 h
        | cons a u =>
          injection hl with h1 _
          subst h1
          obtain ⟨_, h2, h3⟩ := hu c (List.mem_cons_self ..)
          simp [h2, inB_not h3] at hb
      · rw [if_neg hb, cgo_iff l]
        simp only [Bool.false_or, Bool.or_eq_true, inB_iff, Bool.not_eq_true', not_or, Bool.not_eq_false] at hb
        constructor
        · rintro ⟨u, n, rfl, hu, hp⟩
          refine ⟨c :: u, n, rfl, fun d hd => ?_, List.pairwise_cons.2 ⟨fun d hd q => (hu d hd).2.2 (q ▸ List.mem_cons_self ..), hp⟩⟩
          rcases List.mem_cons.1 hd with rfl | hd
          · exact ⟨h, hb.2, hb.1⟩
          · exact ⟨(hu d hd).1, (hu d hd).2.1, fun q => (hu d hd).2.2 (List.mem_cons_of_mem _ q)⟩
        · rintro ⟨u, n, hl, hu, hp⟩
          cases u with
          | nil =>
            cases n with
            | zero => cases hl
            | succ n =>
              rw [List.nil_append, List.replicate_succ] at hl
              injection hl with h1 _
              exact absurd h1 h
          | cons a u =>
            injection hl with h1 h2
            subst h1
            obtain ⟨p1, p2⟩ := List.pairwise_cons.1 hp
            refine ⟨u, n, h2, fun d hd => ⟨(hu d (List.mem_cons_of_mem _ hd)).1, (hu d (List.mem_cons_of_mem _ hd)).2.1, fun q => ?_⟩, p2⟩
            rcases List.mem_cons.1 q with rfl | q
            · exact p1 d hd rfl
            · exact (hu d (List.mem_cons_of_mem _ hd)).2.2 q
theorem contB_iff (x : Per.R) : contB x = true ↔ ∃ u n, x.cs = u ++ List.replicate n ⟨#[]⟩ ∧ (∀ c ∈ u, c ≠ ⟨#[]⟩ ∧ onesB c = true ∧ c ≠ x.mail) ∧ u.Pairwise (· ≠ ·) := by
  unfold contB
  rw [cgo_iff]
  simp only [List.mem_singleton, ne_eq]
theorem contB_none {x : Per.R} (h : x.cs = List.replicate 5 ⟨#[]⟩) : contB x = true := (contB_iff x).2 ⟨[], 5, h, by simp, List.Pairwise.nil⟩
theorem ones_ne {c : ByteArray} (h : onesB c = true) : c ≠ ⟨#[]⟩ := by
  rintro rfl
  revert h
  decide +kernel
theorem hasB_false {x : Per.R} {m : ByteArray} (h : hasB x m = false) (hm : m ≠ ⟨#[]⟩) : ∀ c ∈ x.cs, c ≠ m := by
  unfold hasB at h
  rw [decide_eq_false hm] at h
  simp only [Bool.not_false, Bool.true_and, List.any_eq_false, decide_eq_true_eq] at h
  exact h
theorem contB_moved {x : Per.R} {m : ByteArray} (h : contB x = true) (hm : onesB m = true) (hh : hasB x m = false) (v : Bool) : contB { x with mail := m, ver := v } = true := by
  obtain ⟨u, n, h1, h2, h3⟩ := (contB_iff x).1 h
  refine (contB_iff _).2 ⟨u, n, h1, fun c hc => ⟨(h2 c hc).1, (h2 c hc).2.1, ?_⟩, h3⟩
  exact hasB_false hh (ones_ne hm) c (by rw [h1]; exact List.mem_append_left _ hc)
theorem putC_cs (x : Per.R) {k : Nat} (hk : k < 5) (m : ByteArray) : (putC x k m).cs = x.cs.set k m := by
  unfold putC Per.R.cs
  match k, hk with
  | 0, _ => rfl
  | 1, _ => rfl
  | 2, _ => rfl
  | 3, _ => rfl
  | 4, _ => rfl
theorem contB_put {x : Per.R} {m : ByteArray} (h : contB x = true) (hm : onesB m = true) (hh : hasB x m = false) (hx : x.mail ≠ m) (hg : gap x < 5) : contB (putC x (gap x) m) = true := by
  obtain ⟨u, n, h1, h2, h3⟩ := (contB_iff x).1 h
  have hlen : x.cs.length = 5 := rfl
  have hgu : gap x = u.length ∧ ∃ n', n = n' + 1 := by
    unfold gap at hg ⊢
    rw [h1] at hg ⊢
    rw [List.findIdx_append] at hg ⊢
    have hnone : u.findIdx (fun c => decide (c = ⟨#[]⟩)) = u.length := List.findIdx_eq_length.2 (fun c hc => by simpa using (h2 c hc).1)
    rw [hnone] at hg ⊢
    rw [if_neg (Nat.lt_irrefl _)] at hg ⊢
    cases n with
    | zero =>
      rw [h1] at hlen
      simp at hlen hg
      omega
    | succ n =>
      refine ⟨?_, n, rfl⟩
      rw [List.replicate_succ, List.findIdx_cons]
      simp
  obtain ⟨hgl, n, rfl⟩ := hgu
  obtain ⟨_, r1, _⟩ := putC_rest x (gap x) m
  refine (contB_iff _).2 ⟨u ++ [m], n, ?_, ?_, ?_⟩
  · rw [putC_cs x hg, h1, hgl, List.set_append_right _ _ (Nat.le_refl _), Nat.sub_self, List.replicate_succ, List.set_cons_zero, List.append_assoc]
    rfl
  · intro c hc
    rw [r1]
    rcases List.mem_append.1 hc with hc | hc
    · exact h2 c hc
    · rw [List.mem_singleton.1 hc]
      exact ⟨ones_ne hm, hm, fun q => hx q.symm⟩
  · rw [List.pairwise_append]
    refine ⟨h3, List.pairwise_singleton _ _, fun a ha b hb => ?_⟩
    rw [List.mem_singleton.1 hb]
    exact hasB_false hh (ones_ne hm) a (by rw [h1]; exact List.mem_append_left _ ha)
structure PC (p : Ppl) : Prop where
  mail : ∀ i j (hi : i < p.ps.length) (hj : j < p.ps.length), i ≠ j → p.ps[i].mail ≠ p.ps[j].mail
  cont : ∀ x ∈ p.ps, contB x = true
  sz : ∀ x ∈ p.ps, x.mail.size ≤ 100 ∧ ∀ c ∈ x.cs, c.size ≤ 100
  dig : SI p
  ses : ∀ s ∈ p.ss, s.dig.size = 32 ∧ 1 ≤ s.acc ∧ s.acc ≤ p.ps.length ∧ 0 ≤ s.exp ∧ s.exp ≤ 1023
theorem PC.nil : PC ⟨[], []⟩ := ⟨fun i j hi => (Nat.not_lt_zero _ hi).elim, by simp, by simp, SI.nil, by simp⟩
section
variable {N : Nat} {p : Ppl} {e : Evn}
/-- What an event does to a person's mail and contacts. -/
theorem doesF_mail (p : Ppl) (x : Per.R) (e : Evn) : ((doesF p x e).mail = x.mail ∧ (contB x = true → contB (doesF p x e) = true) ∧ (e.a.size ≤ 100 → (∀ c ∈ x.cs, c.size ≤ 100) → ∀ c ∈ (doesF p x e).cs, c.size ≤ 100)) ∨
    ((doesF p x e).mail = e.a ∧ byB p e.a = false ∧ (contB x = true → contB (doesF p x e) = true) ∧ (doesF p x e).cs = x.cs) := by
  unfold doesF
  split
  · exact .inl ⟨rfl, fun h => h, fun _ h => h⟩
  · split
    · left
      unfold pasF
      split <;> exact ⟨rfl, fun h => h, fun _ h => h⟩
    · split
      · left
        unfold missF
        split <;> exact ⟨rfl, fun h => h, fun _ h => h⟩
      · split
        · exact .inl ⟨rfl, fun h => h, fun _ h => h⟩
        · split
          · unfold movF
            split
            · rename_i h0
              right
              unfold movE freeE at h0
              split at h0
              · cases h0
              · rename_i h1
                split at h0
                · cases h0
                · rename_i h2
                  simp only [Bool.or_eq_true, not_or, Bool.not_eq_true] at h2
                  refine ⟨rfl, h2.1, fun h => contB_moved h (by simpa using h1) h2.2 true, rfl⟩
            · exact .inl ⟨rfl, fun h => h, fun _ h => h⟩
          · split
            · left
              unfold contF
              split
              · rename_i h0
                unfold contE at h0
                split at h0
                · rename_i hc
                  exact absurd h0 hc
                · rename_i hf
                  split at h0
                  · cases h0
                  · rename_i hg
                    have hf' : freeE x e.a (decide (x.mail = e.a)) = 0 := Classical.byContradiction hf
                    unfold freeE at hf'
                    split at hf'
                    · cases hf'
                    · rename_i h1
                      split at hf'
                      · cases hf'
                      · rename_i h2
                        simp only [Bool.or_eq_true, not_or, Bool.not_eq_true, decide_eq_true_eq] at h2
                        refine ⟨(putC_rest x (gap x) e.a).2.1, fun h => contB_put h (by simpa using h1) h2.2 h2.1 (by omega), fun hs hc c hm => ?_⟩
                        rw [putC_cs x (by omega)] at hm
                        rcases List.mem_or_eq_of_mem_set hm with hm | rfl
                        · exact hc c hm
                        · exact hs
              · exact ⟨rfl, fun h => h, fun _ h => h⟩
            · exact .inl ⟨rfl, fun h => h, fun _ h => h⟩
theorem byB_false {m : ByteArray} (h : byB p m = false) {k : Nat} (hk : k < p.ps.length) : p.ps[k].mail ≠ m := by
  unfold byB at h
  have := List.any_eq_false.1 h _ (List.getElem_mem hk)
  simpa using this
theorem app_ses (h : PI N p) : ∀ s ∈ (appR p e).ss, s ∈ p.ss ∨ (s = ⟨e.c, e.acc, e.num⟩ ∧ e.c.size = 32 ∧ 1 ≤ e.acc ∧ e.acc ≤ p.ps.length) := by
  intro s
  unfold appR
  split
  · unfold sgnR
    split <;> exact fun h => .inl h
  · split
    · exact fun h => .inl h
    · split
      · exact fun h => .inl h
      · rename_i hat
        have hacc := h.at_lt (id := e.acc) (by omega)
        split
        · unfold sesR
          split
          · rename_i h0
            unfold sesE at h0
            split at h0
            · cases h0
            · rename_i h32
              intro hs
              rcases List.mem_append.1 hs with hs | hs
              · exact .inl (List.mem_filter.1 hs).1
              · refine .inr ⟨List.mem_singleton.1 hs, Classical.byContradiction h32, by omega, by omega⟩
          · exact fun h => .inl h
        · split
          · exact fun h => .inl (List.mem_filter.1 h).1
          · split <;> exact fun h => .inl h
theorem PC.app (h : PI N p) (c : PC p) (he : EvOk e) : PC (appR p e) := by
  have hgrow := h.grows (e := e)
  have hses : ∀ s ∈ (appR p e).ss, s.dig.size = 32 ∧ 1 ≤ s.acc ∧ s.acc ≤ (appR p e).ps.length ∧ 0 ≤ s.exp ∧ s.exp ≤ 1023 := fun s hs => by
    rcases app_ses h s hs with hm | ⟨rfl, h1, h2, h3⟩
    · obtain ⟨a1, a2, a3, a4, a5⟩ := c.ses s hm
      exact ⟨a1, a2, by omega, a4, a5⟩
    · exact ⟨h1, h2, by show e.acc ≤ _; omega, he.num.1, he.num.2⟩
  rcases h.persons (e := e) with ⟨y, h1, h0, rfl, ha, ho, hk, hb, h12, hr⟩ | ⟨hlen, hat⟩
  · refine ⟨fun i j hi hj hij => ?_, fun x hx => ?_, fun x hx => ?_, c.dig.app, hses⟩
    · simp only [hr] at hi hj ⊢
      rw [List.length_append] at hi hj
      simp at hi hj
      by_cases hi' : i < p.ps.length
      · rw [List.getElem_append_left hi']
        by_cases hj' : j < p.ps.length
        · rw [List.getElem_append_left hj']
          exact c.mail i j hi' hj' hij
        · obtain rfl : j = p.ps.length := by omega
          rw [List.getElem_append_right (Nat.le_refl _)]
          simp only [Nat.sub_self, List.getElem_cons_zero]
          exact byB_false hb hi'
      · obtain rfl : i = p.ps.length := by omega
        have hj' : j < p.ps.length := by omega
        rw [List.getElem_append_left hj', List.getElem_append_right (Nat.le_refl _)]
        simp only [Nat.sub_self, List.getElem_cons_zero]
        exact fun q => byB_false hb hj' q.symm
    · rw [hr] at hx
      rcases List.mem_append.1 hx with hx | hx
      · exact c.cont x hx
      · rw [List.mem_singleton.1 hx]
        exact contB_none rfl
    · rw [hr] at hx
      rcases List.mem_append.1 hx with hx | hx
      · exact c.sz x hx
      · rw [List.mem_singleton.1 hx]
        refine ⟨he.sz, fun d hd => ?_⟩
        have : (newP e).cs = List.replicate 5 ⟨#[]⟩ := rfl
        rw [this] at hd
        rw [(List.mem_replicate.1 hd).2]
        decide
  · have hg : ∀ k (hk : k < (appR p e).ps.length), (appR p e).ps[k] = if hits p e k = true then doesF p (p.ps[k]'(by omega)) e else p.ps[k]'(by omega) := fun k hk => by
      have := hat k (by omega)
      rw [List.getElem?_eq_getElem hk] at this
      exact Option.some.inj this
    have hone : ∀ i j, hits p e i = true → hits p e j = true → i = j := fun i j hi hj => by
      unfold hits at hi hj
      simp only [Bool.and_eq_true, decide_eq_true_eq] at hi hj
      omega
    refine ⟨fun i j hi hj hij => ?_, fun x hx => ?_, fun x hx => ?_, c.dig.app, hses⟩
    · rw [hg i hi, hg j hj]
      have hi' : i < p.ps.length := by omega
      have hj' : j < p.ps.length := by omega
      by_cases hhi : hits p e i = true
      · have hhj : ¬ hits p e j = true := fun q => hij (hone i j hhi q)
        rw [if_pos hhi, if_neg hhj]
        rcases doesF_mail p p.ps[i] e with ⟨q, _⟩ | ⟨q, hb, _⟩
        · rw [q]
          exact c.mail i j hi' hj' hij
        · rw [q]
          exact fun q => byB_false hb hj' q.symm
      · rw [if_neg hhi]
        by_cases hhj : hits p e j = true
        · rw [if_pos hhj]
          rcases doesF_mail p p.ps[j] e with ⟨q, _⟩ | ⟨q, hb, _⟩
          · rw [q]
            exact c.mail i j hi' hj' hij
          · rw [q]
            exact byB_false hb hi'
        · rw [if_neg hhj]
          exact c.mail i j hi' hj' hij
    · obtain ⟨k, hk, rfl⟩ := List.mem_iff_getElem.1 hx
      rw [hg k hk]
      have hm := c.cont _ (List.getElem_mem (show k < p.ps.length by omega))
      split
      · rcases doesF_mail p (p.ps[k]'(by omega)) e with ⟨_, q, _⟩ | ⟨_, _, q, _⟩ <;> exact q hm
      · exact hm
    · obtain ⟨k, hk, rfl⟩ := List.mem_iff_getElem.1 hx
      rw [hg k hk]
      have hm := c.sz _ (List.getElem_mem (show k < p.ps.length by omega))
      split
      · rcases doesF_mail p (p.ps[k]'(by omega)) e with ⟨q1, _, q2⟩ | ⟨q1, _, _, q2⟩
        · exact ⟨by rw [q1]; exact hm.1, q2 he.sz hm.2⟩
        · exact ⟨by rw [q1]; exact he.sz, by rw [q2]; exact hm.2⟩
      · exact hm
theorem pgo_all : ∀ (l : List Per.R) (last : Int) (s : List ByteArray), (∀ k (hk : k < l.length), perB l[k] = true ∧ l[k].id = last + k + 1 ∧ l[k].mail ∉ s) → l.Pairwise (fun a b => a.mail ≠ b.mail) → pgo l last s = true
  | [], _, _, _, _ => rfl
  | x :: l, last, s, h, hp => by
    unfold pgo
    obtain ⟨h1, h2, h3⟩ := h 0 (by simp)
    simp only [List.getElem_cons_zero] at h1 h2 h3
    obtain ⟨p1, p2⟩ := List.pairwise_cons.1 hp
    rw [h1, decide_eq_false (by omega), inB_not h3]
    simp only [Bool.not_false, Bool.and_true, Bool.true_and]
    refine pgo_all l x.id (x.mail :: s) (fun k hk => ?_) p2
    obtain ⟨a1, a2, a3⟩ := h (k + 1) (by simp; omega)
    simp only [List.getElem_cons_succ] at a1 a2 a3
    refine ⟨a1, by omega, fun q => ?_⟩
    rcases List.mem_cons.1 q with q | q
    · exact p1 _ (List.getElem_mem hk) q.symm
    · exact a3 q
theorem sgo_all (p : Ppl) : ∀ (l : List Ses.R) (s : List ByteArray), (∀ t ∈ l, sesB p t = true ∧ t.dig ∉ s) → l.Pairwise (fun a b => a.dig ≠ b.dig) → sgo p l s = true
  | [], _, _, _ => rfl
  | x :: l, s, h, hp => by
    unfold sgo
    obtain ⟨h1, h2⟩ := h x (List.mem_cons_self ..)
    obtain ⟨p1, p2⟩ := List.pairwise_cons.1 hp
    rw [h1, inB_not h2]
    simp only [Bool.not_false, Bool.and_true, Bool.true_and]
    refine sgo_all p l (x.dig :: s) (fun t ht => ⟨(h t (List.mem_cons_of_mem _ ht)).1, fun q => ?_⟩) p2
    rcases List.mem_cons.1 q with q | q
    · exact p1 t ht q.symm
    · exact (h t (List.mem_cons_of_mem _ ht)).2 q
theorem PC.chk (h : PI N p) (c : PC p) (hN : N ≤ 100000) : chkB p = true := by
  have hl := h.len
  have h1 : pgo p.ps 0 [] = true := by
    refine pgo_all _ _ _ (fun k hk => ⟨?_, by rw [h.id k hk]; omega, by simp⟩) ?_
    · have hp := h.pp k hk
      have hv := hp.vers
      have hm := hp.miss
      have hlk := hp.lock
      unfold perB
      rw [c.cont _ (List.getElem_mem hk), hp.mail, hp.key, h.id k hk]
      simp only [Bool.and_true, Bool.and_eq_true, decide_eq_true_eq]
      omega
    · exact List.pairwise_iff_getElem.2 (fun i j hi hj hij => c.mail i j hi hj (by omega))
  have h2 : sgo p p.ss [] = true := by
    refine sgo_all p _ _ (fun t ht => ⟨?_, by simp⟩) c.dig
    obtain ⟨a1, a2, a3, a4, a5⟩ := c.ses t ht
    have hk : t.acc.toNat - 1 < p.ps.length := by omega
    have hf := (h.find hk).2
    have he : (((t.acc.toNat - 1 : Nat) : Int) + 1) = t.acc := by omega
    rw [he] at hf
    unfold sesB
    rw [hf]
    simp only [Bool.true_and, Bool.and_eq_true, decide_eq_true_eq]
    omega
  unfold chkB
  rw [h1, h2, decide_eq_true hl, decide_eq_true h.slen]
  rfl
/-- Who is found by the mail of a person that stands. -/
theorem PC.by (c : PC p) {k : Nat} (hk : k < p.ps.length) : p.ps.any (fun x => decide (x.mail = p.ps[k].mail)) = true ∧ p.ps[p.ps.findIdx (fun x => decide (x.mail = p.ps[k].mail))]?.getD Per.zero = p.ps[k] := by
  have hpos : p.ps.findIdx (fun x => decide (x.mail = p.ps[k].mail)) = k := by
    rw [List.findIdx_eq hk]
    exact ⟨by simp, fun j hj => by simpa using c.mail j k (by omega) hk (by omega)⟩
  refine ⟨?_, by rw [hpos, List.getElem?_eq_getElem hk]; rfl⟩
  rw [List.any_eq_true]
  exact ⟨_, List.getElem_mem hk, by simp⟩
/-- What stays of a person. -/
theorem stay_facts (h : PI N p) (hN : N ≤ 100000) {k : Nat} (hk : k < p.ps.length) (b : Per.R) (hb : b = if hits p e k = true then doesF p p.ps[k] e else p.ps[k]) :
    b.id = p.ps[k].id ∧ p.ps[k].vers ≤ b.vers ∧ b.vers ≤ p.ps[k].vers + 1 ∧ (p.ps[k].ver = true → b.ver = true) := by
  have hv := (h.pp k hk).vers
  rw [hb]
  split
  · generalize p.ps[k] = x at *
    refine ⟨doesF_keep p x e, ?_⟩
    unfold doesF
    split
    · exact ⟨Int.le_refl _, by show x.vers ≤ _; omega, fun _ => rfl⟩
    · split
      · unfold pasF
        split
        · refine ⟨?_, ?_, fun q => q⟩
          · show x.vers ≤ min (x.vers + 1) _
            rw [Int.min_eq_left (by omega)]
            omega
          · show min (x.vers + 1) _ ≤ _
            rw [Int.min_eq_left (by omega)]
            exact Int.le_refl _
        · exact ⟨Int.le_refl _, by omega, fun q => q⟩
      · split
        · unfold missF
          split <;> exact ⟨Int.le_refl _, by show x.vers ≤ _; omega, fun q => q⟩
        · split
          · exact ⟨Int.le_refl _, by show x.vers ≤ _; omega, fun q => q⟩
          · split
            · unfold movF
              split
              · exact ⟨Int.le_refl _, by show x.vers ≤ _; omega, fun _ => rfl⟩
              · exact ⟨Int.le_refl _, by omega, fun q => q⟩
            · split
              · unfold contF
                split
                · obtain ⟨_, _, r2, _, _, r5, _, _⟩ := putC_rest x (gap x) e.a
                  rw [r2, r5]
                  exact ⟨Int.le_refl _, by omega, fun q => q⟩
                · exact ⟨Int.le_refl _, by omega, fun q => q⟩
              · exact ⟨Int.le_refl _, by omega, fun q => q⟩
  · exact ⟨rfl, Int.le_refl _, by omega, fun q => q⟩
end
end Go.Proofs.YtkihleecjgoipaaGreatDoor
