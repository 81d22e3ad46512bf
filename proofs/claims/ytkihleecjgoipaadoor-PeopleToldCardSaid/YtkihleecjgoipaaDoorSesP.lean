/- PeopleSessions: the plain law. -/
import Derived.Test.YtkihleecjgoipaaDoorPpS
import Derived.Test.YtkihleecjgoipaaDoorPpV
namespace Go.Proofs.YtkihleecjgoipaaDoor
open Go.RowKit Go.Maps Go.Proofs.YtkihleecjgoipaaDoor.Rw

/-- No digest stands twice. -/
def SI (p : Ppl) : Prop := p.ss.Pairwise (fun a b => a.dig ≠ b.dig)
theorem SI.nil : SI ⟨[], []⟩ := List.Pairwise.nil
section
variable {p : Ppl} {e : Evn}
theorem SI.app (h : SI p) : SI (appR p e) := by
  unfold appR
  split
  · unfold sgnR
    split <;> exact h
  · split
    · exact h
    · split
      · exact h
      · split
        · unfold sesR
          split
          · rename_i h0
            unfold sesE at h0
            split at h0
            · cases h0
            · split at h0
              · cases h0
              · rename_i hth
                show (lasts p e.at_ ++ [_]).Pairwise _
                rw [List.pairwise_append]
                refine ⟨h.filter _, List.pairwise_singleton _ _, fun a ha b hb => ?_⟩
                simp only [List.mem_singleton] at hb
                subst hb
                intro c
                refine hth ?_
                rw [List.any_eq_true]
                exact ⟨a, (List.mem_filter.1 ha).1, decide_eq_true c⟩
          · exact h
        · split
          · exact List.Pairwise.filter _ h
          · split <;> exact h
theorem SI.ne (h : SI p) {i j : Nat} (hi : i < p.ss.length) (hj : j < p.ss.length) (hij : i ≠ j) : p.ss[i].dig ≠ p.ss[j].dig := by
  have hp := List.pairwise_iff_getElem.1 h
  rcases Nat.lt_or_gt_of_ne hij with c | c
  · exact hp i j hi hj c
  · exact fun q => hp j i hj hi c q.symm
/-- What is found by the digest of a session that stands. -/
theorem SI.find (h : SI p) {k : Nat} (hk : k < p.ss.length) (t : Int) :
    (p.ss.any (lives p.ss[k].dig t) = decide (t < p.ss[k].exp)) ∧ (t < p.ss[k].exp → spick p.ss (lives p.ss[k].dig t) = p.ss[k]) := by
  have hother : ∀ j (hj : j < p.ss.length), j ≠ k → lives p.ss[k].dig t p.ss[j] = false := fun j hj hjk => by
    unfold lives
    rw [decide_eq_false (h.ne hj hk hjk)]
    rfl
  by_cases hx : t < p.ss[k].exp
  · have hself : lives p.ss[k].dig t p.ss[k] = true := by
      unfold lives
      simp [hx]
    have hpos : p.ss.findIdx (lives p.ss[k].dig t) = k := by
      rw [List.findIdx_eq hk]
      exact ⟨hself, fun j hj => hother j (by omega) (by omega)⟩
    refine ⟨?_, fun _ => ?_⟩
    · rw [decide_eq_true hx, List.any_eq_true]
      exact ⟨_, List.getElem_mem hk, hself⟩
    · unfold spick
      rw [hpos, List.getElem?_eq_getElem hk]
      rfl
  · refine ⟨?_, fun c => absurd c hx⟩
    rw [decide_eq_false hx, List.any_eq_false]
    intro s hs
    obtain ⟨j, hj, rfl⟩ := List.mem_iff_getElem.1 hs
    by_cases hjk : j = k
    · subst hjk
      unfold lives
      simp [hx]
    · rw [hother j hj hjk]
      decide
/-- A session that was just opened is found till its end. -/
theorem ses_new (hk : e.kind = 8) (h0 : appE p e = 0) (t : Int) (ht : t < e.num) : (appR p e).ss.any (lives e.c t) = true ∧ spick (appR p e).ss (lives e.c t) = ⟨e.c, e.acc, e.num⟩ := by
  have hr : (appR p e).ss = lasts p e.at_ ++ [⟨e.c, e.acc, e.num⟩] ∧ p.ss.any (fun s => decide (s.dig = e.c)) = false := by
    unfold appE at h0
    unfold appR
    rw [if_neg (by omega), if_neg (by omega)] at h0 ⊢
    split at h0
    · cases h0
    · rename_i hl
      (try rw [if_pos hk] at h0)
      rw [if_neg hl, if_pos hk]
      unfold sesR
      rw [if_pos h0]
      refine ⟨rfl, ?_⟩
      unfold sesE at h0
      split at h0
      · cases h0
      · split at h0
        · cases h0
        · rename_i hth
          simpa using hth
  rw [hr.1]
  have hno : ∀ s ∈ lasts p e.at_, lives e.c t s = false := fun s hs => by
    have hany := List.any_eq_false.1 hr.2 s (List.mem_filter.1 hs).1
    unfold lives
    have : decide (s.dig = e.c) = false := by simpa using hany
    rw [this]
    rfl
  have hyes : lives e.c t ⟨e.c, e.acc, e.num⟩ = true := by
    unfold lives
    simp [ht]
  have hpos : (lasts p e.at_ ++ [(⟨e.c, e.acc, e.num⟩ : Ses.R)]).findIdx (lives e.c t) = (lasts p e.at_).length := by
    rw [List.findIdx_eq (by rw [List.length_append]; simp)]
    refine ⟨?_, fun j hj => ?_⟩
    · rw [List.getElem_append_right (Nat.le_refl _)]
      simpa using hyes
    · rw [List.getElem_append_left hj]
      exact hno _ (List.getElem_mem hj)
  refine ⟨?_, ?_⟩
  · rw [List.any_eq_true]
    exact ⟨_, List.mem_append_right _ (List.mem_singleton.2 rfl), hyes⟩
  · unfold spick
    rw [hpos, List.getElem?_append_right (Nat.le_refl _), Nat.sub_self]
    rfl
/-- Of an account whose sessions were revoked none is left. -/
theorem ses_gone (hk : e.kind = 9) (h0 : appE p e = 0) {k : Nat} (hl : k < (appR p e).ss.length) : (appR p e).ss[k].acc ≠ e.acc := by
  have hr : (appR p e).ss = p.ss.filter (fun s => !decide (s.acc = e.acc)) := by
    unfold appE at h0
    unfold appR
    rw [if_neg (by omega), if_neg (by omega)] at h0 ⊢
    split at h0
    · cases h0
    · rename_i hl
      rw [if_neg hl, if_neg (by omega), if_pos hk]
      rfl
  have hm := List.getElem_mem hl
  simp only [hr] at hm
  have := (List.mem_filter.1 hm).2
  simpa [hr] using this
theorem ses_same (h8 : e.kind ≠ 8) (h9 : e.kind ≠ 9) : (appR p e).ss = p.ss := by
  unfold appR
  split
  · unfold sgnR
    split <;> rfl
  · split
    · rfl
    · split
      · rfl
      · (try rw [if_neg h8, if_neg h9])
        split <;> rfl
end
end Go.Proofs.YtkihleecjgoipaaDoor
