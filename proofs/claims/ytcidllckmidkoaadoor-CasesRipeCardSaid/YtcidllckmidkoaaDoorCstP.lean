/- CasesStay, CasesLater: what an event of law17 does, in plain words. -/
import Derived.Test.YtcidllckmidkoaaDoorCnum
import Derived.Test.YtcidllckmidkoaaDoorCck
import Derived.Test.YtcidllckmidkoaaDoorCeq
import Derived.Test.YtcidllckmidkoaaDoorCapW
import Derived.Test.YtcidllckmidkoaaDoorCripe
namespace Go.Proofs.YtcidllckmidkoaaDoor
open Go.RowKit Go.Maps

/-- Rows of law17: such as may be, with small contacts. -/
structure LV (L : List Cas) : Prop where
  inv : INV L
  sm : ∀ c ∈ L, smallC c
theorem LV.nil : LV [] := ⟨INV.nil, fun _ h => (List.not_mem_nil h).elim⟩
theorem putV_small {c : Cas} (h : smallC c) (k : Nat) (hk : k < 5) {x : ByteArray} (hx : x.size ≤ 4000000000) : smallC (c.putV k x) := by
  obtain ⟨c1, c2, c3, c4, a, b, d, e, f⟩ := c
  have hc : k = 0 ∨ k = 1 ∨ k = 2 ∨ k = 3 ∨ k = 4 := by omega
  intro v hv
  unfold smallC at h
  simp only [Cas.vs, List.mem_cons, List.not_mem_nil, or_false] at h
  rcases hc with rfl | rfl | rfl | rfl | rfl <;> simp [Cas.putV, Cas.vs] at hv <;> rcases hv with rfl | rfl | rfl | rfl | rfl <;> first | exact hx | exact h _ (by simp)
theorem new_small (e : Evn) : smallC (newC e) := by
  intro v hv
  simp [newC, Cas.vs] at hv
  rw [hv]
  decide
theorem LV.app {L : List Cas} (h : LV L) {e : Evn} (h1 : 0 ≤ e.at_ ∧ e.at_ ≤ 1099511627776) (hs : e.a.size ≤ 4000000000) : LV (appR L e) := by
  refine ⟨h.inv.app h1, fun c hc => ?_⟩
  have hl := (look_iff (h.inv.app h1).rise (id := c.acc)).2 ⟨hc, rfl⟩
  by_cases h0 : appE L e = 0
  · rw [look_app h.inv h1 h0] at hl
    have old : ∀ d, look L c.acc = some d → smallC d := fun d hd => h.sm d ((look_iff h.inv.rise).1 hd).1
    split at hl
    · split at hl
      · cases hl; exact new_small e
      · exact old c (Option.filter_eq_some_iff.1 hl).1
    · split at hl
      · split at hl
        · obtain ⟨d, hd, rfl⟩ := Option.map_eq_some_iff.1 hl
          have hdm := (look_iff h.inv.rise).1 hd
          have hk : cntB d < 5 := by
            obtain ⟨xs, g⟩ := (h.inv.right d hdm.1).good
            rename_i k1 _ hid
            unfold appE at h0
            rw [if_neg k1] at h0
            split at h0
            · cases h0
            · split at h0
              · cases h0
              · rename_i hh
                have hl2 := (look_has h.inv.rise (id := e.acc) (by simpa using hh)).1
                rw [hid] at hd
                rw [hl2] at hd
                have e1 := Option.some.inj hd
                rw [e1] at h0
                have := ((h.inv.right d hdm.1).put g h0).2.2.2.2
                rw [g.cnt]; exact this
          exact putV_small (old d hd) _ hk hs
        · cases hl
      · exact old c hl
  · rw [appR_same h0] at hc
    exact h.sm c hc
theorem findC_of {L : List Cas} (h : Rise L) {id : Int} {c : Cas} (hl : look L id = some c) : hasA L id = true ∧ findC L id = c := by
  have hh : hasA L id = true := by rw [has_look h, hl]; rfl
  have h2 := (look_has h hh).1
  rw [hl] at h2
  refine ⟨hh, ?_⟩
  unfold findC
  rw [if_pos hh]
  exact (Option.some.inj h2).symm
theorem hasA_none {L : List Cas} (h : Rise L) {id : Int} (hl : look L id = none) : hasA L id = false := by rw [has_look h, hl]; rfl
theorem cnt_new (e : Evn) : cntB (newC e) = 0 := (Good.fresh e).cnt
theorem over_new {e : Evn} (h : 0 ≤ e.at_ ∧ e.at_ ≤ 1000000000) : overB (newC e) e.at_ = false := by
  unfold overB newC clk
  simp only
  rw [if_neg (by omega), Int.min_eq_left (by omega), Int.min_eq_left (by omega), Int.min_eq_left (by omega)]
  simp
  omega
/-- What the law asks behind an event that was done. -/
theorem stay_facts {L : List Cas} (h : LV L) {e : Evn} (h1 : 0 ≤ e.at_ ∧ e.at_ ≤ 1000000000) (h0 : appE L e = 0) :
    (e.kind = 17 → hasA (appR L e) e.acc = true ∧ findC (appR L e) e.acc = newC e) ∧
    (e.kind = 18 → hasA (appR L e) e.acc = true ∧ hasB (findC (appR L e) e.acc) e.a = true) ∧
    (e.kind = 19 ∨ e.kind = 20 → hasA (appR L e) e.acc = false) := by
  have h1' : 0 ≤ e.at_ ∧ e.at_ ≤ 1099511627776 := by omega
  have hr := (h.inv.app h1').rise
  have hl := look_app h.inv h1' h0 e.acc
  refine ⟨fun k => ?_, fun k => ?_, fun k => ?_⟩
  · rw [if_pos k, if_pos rfl] at hl
    exact findC_of hr hl
  · rw [if_neg (by omega), if_pos rfl, if_pos k] at hl
    have h0' := h0
    unfold appE at h0'
    rw [if_neg (by omega)] at h0'
    split at h0'
    · cases h0'
    · split at h0'
      · cases h0'
      · rename_i hh
        obtain ⟨hl2, hp⟩ := look_has h.inv.rise (id := e.acc) (by simpa using hh)
        rw [hl2, Option.map_some] at hl
        obtain ⟨g1, g2⟩ := findC_of hr hl
        refine ⟨g1, ?_⟩
        rw [g2]
        have hm := (look_iff h.inv.rise).1 hl2
        obtain ⟨xs, g⟩ := (h.inv.right _ hm.1).good
        have r := (h.inv.right _ hm.1).put g h0'
        rw [r.2.1.has]
        simp
  · rw [if_neg (by omega), if_pos rfl, if_neg (by omega)] at hl
    exact hasA_none hr hl
theorem evN_facts (n : NumV) (now : Int) : ((evN n now).kind = 17 ∨ (evN n now).kind = 18 ∨ (evN n now).kind = 19 ∨ (evN n now).kind = 20) ∧ 1 ≤ (evN n now).acc ∧ (evN n now).acc ≤ 12 ∧ (evN n now).at_ = now ∧ (evN n now).a.size ≤ 4000000000 := by
  have h := whoN_le n.who
  refine ⟨?_, by show 1 ≤ 1 + whoN n.who; omega, by show 1 + whoN n.who ≤ 12; omega, rfl, ?_⟩
  · show kindN _ = 17 ∨ kindN _ = 18 ∨ kindN _ = 19 ∨ kindN _ = 20
    unfold kindN
    split
    · exact .inl rfl
    · split
      · exact .inr (.inl rfl)
      · split
        · exact .inr (.inr (.inl rfl))
        · exact .inr (.inr (.inr rfl))
  · show (nameN n.ct).size ≤ _
    unfold nameN
    split
    · have : (nm (n.ct % 8).toNat).size = 6 := rfl
      omega
    · decide
end Go.Proofs.YtcidllckmidkoaaDoor
