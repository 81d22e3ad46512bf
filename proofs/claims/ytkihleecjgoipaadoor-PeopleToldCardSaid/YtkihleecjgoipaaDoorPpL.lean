/- People behind events: what holds of them, in plain words. -/
import Derived.Test.YtkihleecjgoipaaDoorPpP
namespace Go.Proofs.YtkihleecjgoipaaDoor
open Go.RowKit Go.Maps Go.Proofs.YtkihleecjgoipaaDoor.Rw

/-- A person that may be, behind N events. -/
structure PP (N : Nat) (x : Per.R) : Prop where
  vers : 1 ≤ x.vers ∧ x.vers ≤ 1 + (N : Int)
  miss : 0 ≤ x.miss ∧ x.miss ≤ 4
  lock : 0 ≤ x.lock ∧ x.lock ≤ 3000
  mail : onesB x.mail = true
  key : keyB x.salt x.chk = true
structure PI (N : Nat) (p : Ppl) : Prop where
  len : p.ps.length ≤ 12
  slen : p.ss.length ≤ 16
  id : ∀ k (h : k < p.ps.length), p.ps[k].id = (k : Int) + 1
  pp : ∀ k (h : k < p.ps.length), PP N p.ps[k]
theorem PI.nil : PI 0 ⟨[], []⟩ := ⟨by simp, by simp, fun k h => (Nat.not_lt_zero k h).elim, fun k h => (Nat.not_lt_zero k h).elim⟩
theorem PP.later {N : Nat} {x : Per.R} (h : PP N x) : PP (N + 1) x := ⟨⟨h.vers.1, by have := h.vers.2; omega⟩, h.miss, h.lock, h.mail, h.key⟩
section
variable {N : Nat} {p : Ppl} {e : Evn}
theorem PI.at_hit (h : PI N p) {k : Nat} (hk : k < p.ps.length) : at_ p ((k : Int) + 1) = k := by
  unfold at_
  refine pos_hit (d := Per.zero) hk (fun j hj => ?_) ?_
  · rw [List.getElem?_eq_getElem (by omega)]
    have := h.id j (by omega)
    simp
    omega
  · rw [List.getElem?_eq_getElem hk]
    simp [h.id k hk]
theorem PI.at_lt (h : PI N p) {id : Int} (hl : at_ p id < p.ps.length) : id = (at_ p id : Int) + 1 := by
  have := (pos_lt (L := p.ps) (P := fun x => decide (x.id = id)) hl).1
  rw [← h.id _ hl]
  exact (of_decide_eq_true this).symm
/-- Who is found by a number. -/
theorem PI.find (h : PI N p) {k : Nat} (hk : k < p.ps.length) : p.ps[p.ps.findIdx (fun x => decide (x.id = (k : Int) + 1))]?.getD Per.zero = p.ps[k] ∧ p.ps.any (fun x => decide (x.id = (k : Int) + 1)) = true := by
  have e : p.ps.findIdx (fun x => decide (x.id = (k : Int) + 1)) = k := h.at_hit hk
  refine ⟨by rw [e, List.getElem?_eq_getElem hk]; rfl, ?_⟩
  rw [List.any_eq_true]
  exact ⟨_, List.getElem_mem hk, by simp [h.id k hk]⟩
theorem PI.next (h : PI N p) : nextN p = (p.ps.length : Int) + 1 := by
  unfold nextN
  split
  · omega
  · rw [List.getElem?_eq_getElem (by omega), Option.getD_some, h.id _ (by omega)]
    omega
theorem PI.few (h : PI N p) : few p := ⟨by have := h.len; omega, by have := h.slen; omega⟩
/-- Does the event change the person in its place? -/
def hits (p : Ppl) (e : Evn) (k : Nat) : Bool := decide (2 ≤ e.kind) && decide (e.kind ≤ 7) && decide (appE p e = 0) && decide (e.acc = (k : Int) + 1)
theorem app_same (h : appE p e ≠ 0) : appR p e = p := by
  unfold appE at h
  unfold appR
  by_cases h1 : e.kind = 1
  · rw [if_pos h1] at h ⊢
    unfold sgnR
    rw [if_neg h]
  · rw [if_neg h1] at h ⊢
    by_cases h2 : e.kind < 1 ∨ 9 < e.kind
    · rw [if_pos h2]
    · rw [if_neg h2] at h ⊢
      by_cases h3 : p.ps.length ≤ at_ p e.acc
      · rw [if_pos h3]
      · rw [if_neg h3] at h ⊢
        by_cases h8 : e.kind = 8
        · rw [if_pos h8] at h ⊢
          unfold sesR
          rw [if_neg h]
        · rw [if_neg h8] at h ⊢
          by_cases h9 : e.kind = 9
          · rw [if_pos h9] at h
            exact absurd rfl h
          · rw [if_neg h9] at h ⊢
            rw [if_neg h]
theorem lasts_le (p : Ppl) (t : Int) : (lasts p t).length ≤ p.ss.length := List.length_filter_le _ _
/-- What the persons are behind an event. -/
theorem PI.persons (h : PI N p) : (∃ y, e.kind = 1 ∧ appE p e = 0 ∧ y = newP e ∧ e.acc = (p.ps.length : Int) + 1 ∧ onesB e.a = true ∧ keyB e.b e.c = true ∧ byB p e.a = false ∧ p.ps.length < 12 ∧ (appR p e).ps = p.ps ++ [y]) ∨
    ((appR p e).ps.length = p.ps.length ∧ ∀ k (hk : k < p.ps.length), (appR p e).ps[k]? = some (if hits p e k = true then doesF p p.ps[k] e else p.ps[k])) := by
  by_cases h0 : appE p e = 0
  · by_cases h1 : e.kind = 1
    · left
      have h0' : sgnE p e = 0 := by unfold appE at h0; rwa [if_pos h1] at h0
      refine ⟨newP e, h1, h0, rfl, ?_⟩
      have hq := h0'
      unfold sgnE at hq
      split at hq
      · cases hq
      · rename_i hn
        split at hq
        · cases hq
        · rename_i hb
          split at hq
          · cases hq
          · rename_i hl
            have hn1 : ¬ onesB e.a = false := fun c => hn (.inl c)
            have hn2 : ¬ keyB e.b e.c = false := fun c => hn (.inr (.inl c))
            have hn3 : e.acc = nextN p := Classical.byContradiction fun c => hn (.inr (.inr (.inl c)))
            refine ⟨by rw [hn3, h.next], by simpa using hn1, by simpa using hn2, by simpa using hb, by omega, ?_⟩
            unfold appR sgnR
            rw [if_pos h1, if_pos h0']
    · right
      unfold appE at h0
      rw [if_neg h1] at h0
      by_cases h2 : e.kind < 1 ∨ 9 < e.kind
      · rw [if_pos h2] at h0
        cases h0
      · rw [if_neg h2] at h0
        by_cases h3 : p.ps.length ≤ at_ p e.acc
        · rw [if_pos h3] at h0
          cases h0
        · rw [if_neg h3] at h0
          have hacc := h.at_lt (id := e.acc) (by omega)
          have same : ∀ k (hk : k < p.ps.length), ¬ (2 ≤ e.kind ∧ e.kind ≤ 7) → hits p e k = false := fun k hk hn => by
            unfold hits
            simp
            intro a b
            exact absurd ⟨a, b⟩ hn
          by_cases h8 : e.kind = 8
          · have hr : (appR p e).ps = p.ps := by
              unfold appR
              rw [if_neg h1, if_neg h2, if_neg h3, if_pos h8]
              unfold sesR
              split <;> rfl
            rw [hr]
            exact ⟨rfl, fun k hk => by rw [same k hk (by omega), List.getElem?_eq_getElem hk]; rfl⟩
          · rw [if_neg h8] at h0
            by_cases h9 : e.kind = 9
            · have hr : (appR p e).ps = p.ps := by
                unfold appR
                rw [if_neg h1, if_neg h2, if_neg h3, if_neg h8, if_pos h9]
                rfl
              rw [hr]
              exact ⟨rfl, fun k hk => by rw [same k hk (by omega), List.getElem?_eq_getElem hk]; rfl⟩
            · rw [if_neg h9] at h0
              have hlt : at_ p e.acc < p.ps.length := by omega
              have hap : appE p e = 0 := by
                unfold appE
                rw [if_neg h1, if_neg h2, if_neg h3, if_neg h8, if_neg h9]
                exact h0
              have hr : (appR p e).ps = p.ps.set (at_ p e.acc) (doesF p (p.ps[at_ p e.acc]?.getD Per.zero) e) := by
                unfold appR
                rw [if_neg h1, if_neg h2, if_neg h3, if_neg h8, if_neg h9, if_pos h0]
              rw [hr]
              refine ⟨List.length_set .., fun k hk => ?_⟩
              by_cases hkk : at_ p e.acc = k
              · subst hkk
                have hh : hits p e (at_ p e.acc) = true := by
                  unfold hits
                  rw [hap, ← hacc]
                  simp
                  omega
                rw [hh, if_pos rfl, List.getElem?_set_self hlt, List.getElem?_eq_getElem hlt, Option.getD_some]
              · have hh : hits p e k = false := by
                  unfold hits
                  simp
                  intro _ _ _
                  omega
                rw [hh, List.getElem?_set_ne hkk, List.getElem?_eq_getElem hk]
                rfl
  · right
    rw [app_same h0]
    refine ⟨rfl, fun k hk => ?_⟩
    have hh : hits p e k = false := by
      unfold hits
      simp [h0]
    rw [hh, List.getElem?_eq_getElem hk]
    rfl
end
end Go.Proofs.YtkihleecjgoipaaDoor
