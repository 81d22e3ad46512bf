/- CasesLater: what holds of each case behind an event more, in plain words. -/
import Derived.Test.YtcidllckmidkoaaDoorCstP
namespace Go.Proofs.YtcidllckmidkoaaDoor
open Go.RowKit Go.Maps

theorem over_later {c : Cas} {a b : Int} (h : a ≤ b) (ho : overB c a = true) : overB c b = true := by
  unfold overB at *
  simp at *
  omega
theorem ripe_split (L : List Cas) (id t : Int) : ripeB L id t = (hasA L id && !overB (findC L id) t && decide ((findC L id).quorum ≤ (cntB (findC L id) : Int)) && decide ((findC L id).ripe ≤ t)) := rfl
/-- Till it is over it stays ripe. -/
theorem ripe_later {L : List Cas} {id : Int} {c : Cas} (hf : findC L id = c) {a b : Int} (h : a ≤ b) (hr : ripeB L id a = true) (ho : overB c b = false) : ripeB L id b = true := by
  rw [ripe_split, hf] at *
  simp at hr
  simp [hr, ho]
  omega
theorem find_at {L : List Cas} (h : Rise L) {c : Cas} (hc : c ∈ L) : look L c.acc = some c := (look_iff h).2 ⟨hc, rfl⟩
/-- Another account's events change nothing of a case that is not over. -/
theorem later_other {L : List Cas} (h : LV L) {e : Evn} (h1 : 0 ≤ e.at_ ∧ e.at_ ≤ 1099511627776) {c : Cas} (hc : c ∈ L) (hne : c.acc ≠ e.acc) (ho : overB c e.at_ = false) : hasA (appR L e) c.acc = true ∧ findC (appR L e) c.acc = c := by
  have hl := find_at h.inv.rise hc
  by_cases h0 : appE L e = 0
  · refine findC_of (h.inv.app h1).rise ?_
    rw [look_app h.inv h1 h0]
    split
    · rw [hl]
      simp [keepO, ho]
    · exact hl
  · rw [appR_same h0]
    exact findC_of h.inv.rise hl
end Go.Proofs.YtcidllckmidkoaaDoor
