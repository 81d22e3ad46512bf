/- CasesRipe: what the arrays beside a row of cases hold, in plain words. -/
import Derived.Test.YtcidllckmidkoaaDoorCstP
namespace Go.Proofs.YtcidllckmidkoaaDoor
open Go.RowKit Go.Maps

def upd {α : Type} (F : Nat → α) (k : Nat) (v : α) : Nat → α := fun j => if j = k then v else F j
theorem upd_same {α : Type} (F : Nat → α) (k : Nat) (v : α) : upd F k v k = v := by unfold upd; rw [if_pos rfl]
theorem upd_other {α : Type} (F : Nat → α) {k j : Nat} (v : α) (h : j ≠ k) : upd F k v j = F j := by unfold upd; rw [if_neg h]
def RK (o : Option Cas) (now : Int) (b : Bool) (t n : Int) (y : Nat → Bool) : Prop :=
  match o with
  | none => b = false ∨ t + 2000 ≤ now
  | some c => b = true ∧ t = c.opened ∧ n = c.quorum ∧ ∃ js : List Nat, Good c (js.map nm) ∧ (∀ j ∈ js, j < 8) ∧ js.Nodup ∧ ∀ j, j < 8 → (y j = true ↔ j ∈ js)
/-- The arrays say of each account what its case says. -/
structure RR (L : List Cas) (now : Int) (O : Nat → Bool) (T N : Nat → Int) (Y : Nat → Nat → Bool) : Prop where
  rng : ∀ k, 0 ≤ T k ∧ T k ≤ now
  all : ∀ k : Nat, 1 ≤ k → k ≤ 12 → RK (look L k) now (O k) (T k) (N k) (Y k)
theorem RR.nil : RR [] 0 (fun _ => false) (fun _ => 0) (fun _ => 0) (fun _ _ => false) := ⟨fun _ => ⟨by omega, by omega⟩, fun _ _ _ => .inl rfl⟩
theorem RK.later {o : Option Cas} {now now2 : Int} {b : Bool} {t n : Int} {y : Nat → Bool} (h : RK o now b t n y) (h2 : now ≤ now2) : RK o now2 b t n y := by
  cases o with
  | none =>
    rcases h with h | h
    · exact .inl h
    · exact .inr (by omega)
  | some c => exact h
theorem RR.later {L : List Cas} {now now2 : Int} {O : Nat → Bool} {T N : Nat → Int} {Y : Nat → Nat → Bool} (h : RR L now O T N Y) (h2 : now ≤ now2) : RR L now2 O T N Y :=
  ⟨fun k => ⟨(h.rng k).1, by have := (h.rng k).2; omega⟩, fun k h3 h4 => (h.all k h3 h4).later h2⟩
theorem nm_inj {i j : Nat} (hi : i < 8) (hj : j < 8) (h : nm i = nm j) : i = j := by
  have hc : ∀ k : Nat, k < 8 → k = 0 ∨ k = 1 ∨ k = 2 ∨ k = 3 ∨ k = 4 ∨ k = 5 ∨ k = 6 ∨ k = 7 := fun k hk => by omega
  have h2 : (nm i).data = (nm j).data := by rw [h]
  revert h2
  clear h
  rcases hc i hi with rfl | rfl | rfl | rfl | rfl | rfl | rfl | rfl <;> rcases hc j hj with rfl | rfl | rfl | rfl | rfl | rfl | rfl | rfl <;> first | (intro _; rfl) | (intro h; exact absurd h (by decide))
theorem over_small {c : Cas} {t : Int} (h : 0 ≤ c.opened ∧ c.opened ≤ 1000000) : overB c t = decide (c.opened + 2000 ≤ t) := by
  unfold overB clk
  rw [if_neg (by omega), Int.min_eq_left (by omega), Int.min_eq_left (by omega), Int.min_eq_left (by omega)]
theorem ripe_small {c : Cas} (h : 0 ≤ c.opened ∧ c.opened ≤ 1000000) : clk c.opened 200 = c.opened + 200 := by
  unfold clk
  rw [if_neg (by omega), Int.min_eq_left (by omega), Int.min_eq_left (by omega), Int.min_eq_left (by omega)]
section
variable {L : List Cas} {now : Int} {O : Nat → Bool} {T N : Nat → Int} {Y : Nat → Nat → Bool} {e : Evn}
theorem RR.case (h : RR L now O T N Y) (hL : LV L) (h1 : 0 ≤ e.at_ ∧ e.at_ ≤ 1000000) (h2 : now ≤ e.at_) (k0 : Nat) (hk0 : e.acc = k0) (h0 : appE L e = 0) (hk : e.kind = 17) :
    RR (appR L e) e.at_ (upd O k0 true) (upd T k0 e.at_) (upd N k0 e.pur) (upd Y k0 (fun _ => false)) := by
  have h1' : 0 ≤ e.at_ ∧ e.at_ ≤ 1099511627776 := by omega
  refine ⟨fun k => ?_, fun k g1 g2 => ?_⟩
  · unfold upd
    split
    · omega
    · have := h.rng k; omega
  · rw [look_app hL.inv h1' h0, if_pos hk]
    by_cases hkk : k = k0
    · subst hkk
      rw [if_pos hk0.symm, upd_same, upd_same, upd_same, upd_same]
      exact ⟨rfl, rfl, rfl, [], Good.fresh e, fun j hj => (List.not_mem_nil hj).elim, List.nodup_nil, fun j _ => by simp⟩
    · rw [if_neg (by omega), upd_other _ _ hkk, upd_other _ _ hkk, upd_other _ _ hkk, upd_other _ _ hkk]
      have hr := (h.all k g1 g2).later h2
      cases hq : look L k with
      | none => rw [hq] at hr; exact hr
      | some c =>
        rw [hq] at hr
        obtain ⟨r1, r2, r3, r4⟩ := hr
        have hrg := h.rng k
        have ho := over_small (c := c) (t := e.at_) (by rw [← r2]; omega)
        by_cases hov : overB c e.at_ = true
        · rw [Option.filter_some, if_neg (by unfold keepO; rw [hov]; decide)]
          rw [hov] at ho
          have := of_decide_eq_true ho.symm
          exact .inr (by omega)
        · rw [Option.filter_some, if_pos (by unfold keepO; simpa using hov)]
          exact ⟨r1, r2, r3, r4⟩
theorem RR.gone (h : RR L now O T N Y) (hL : LV L) (h1 : 0 ≤ e.at_ ∧ e.at_ ≤ 1000000) (h2 : now ≤ e.at_) (k0 : Nat) (hk0 : e.acc = k0) (h0 : appE L e = 0) (hk : e.kind = 19 ∨ e.kind = 20) :
    RR (appR L e) e.at_ (upd O k0 false) T N Y := by
  have h1' : 0 ≤ e.at_ ∧ e.at_ ≤ 1099511627776 := by omega
  refine ⟨fun k => by have := h.rng k; omega, fun k g1 g2 => ?_⟩
  rw [look_app hL.inv h1' h0, if_neg (by omega)]
  by_cases hkk : k = k0
  · subst hkk
    rw [if_pos hk0.symm, if_neg (by omega), upd_same]
    exact .inl rfl
  · rw [if_neg (by omega), upd_other _ _ hkk]
    exact (h.all k g1 g2).later h2
theorem RR.vouch (h : RR L now O T N Y) (hL : LV L) (h1 : 0 ≤ e.at_ ∧ e.at_ ≤ 1000000) (h2 : now ≤ e.at_) (k0 : Nat) (hk0 : e.acc = k0) (hk1 : 1 ≤ k0) (hk2 : k0 ≤ 12) (h0 : appE L e = 0) (hk : e.kind = 18) (ha : kindOf e.a = 1 → ∃ j, j < 8 ∧ e.a = nm j) :
    ∃ j, j < 8 ∧ e.a = nm j ∧ RR (appR L e) e.at_ O T N (upd Y k0 (upd (Y k0) j true)) := by
  have h1' : 0 ≤ e.at_ ∧ e.at_ ≤ 1099511627776 := by omega
  have hla := fun k => look_app hL.inv h1' h0 k
  have h0' := h0
  unfold appE at h0'
  rw [if_neg (by omega)] at h0'
  split at h0'
  · cases h0'
  · split at h0'
    · cases h0'
    · rename_i hh
      obtain ⟨hl2, hp⟩ := look_has hL.inv.rise (id := e.acc) (by simpa using hh)
      generalize L[plc L e.acc]?.getD noCas = c at h0' hl2
      have hc := (look_iff hL.inv.rise).1 hl2
      have hr := h.all k0 hk1 hk2
      rw [← hk0, hl2] at hr
      obtain ⟨r1, r2, r3, js, g, gj, gn, gy⟩ := hr
      have P := (hL.inv.right c hc.1).put g h0'
      obtain ⟨j, hj, hja⟩ := ha P.2.2.1
      refine ⟨j, hj, hja, fun k => by have := h.rng k; omega, fun k g1 g2 => ?_⟩
      rw [hla k, if_neg (by omega)]
      by_cases hkk : k = k0
      · subst hkk
        rw [if_pos hk0.symm, if_pos hk, ← hk0, hl2, upd_same]
        obtain ⟨s1, s2, s3, s4⟩ := putV_same c (cntB c) e.a
        refine ⟨r1, by rw [s2]; exact r2, by rw [s4]; exact r3, js ++ [j], ?_, ?_, ?_, ?_⟩
        · rw [List.map_append, List.map_cons, List.map_nil, ← hja]; exact P.2.1
        · intro x hx
          rcases List.mem_append.1 hx with q | q
          · exact gj x q
          · rw [List.mem_singleton] at q; omega
        · rw [List.nodup_append]
          refine ⟨gn, by simp, fun x hx y hy => ?_⟩
          rw [List.mem_singleton] at hy
          subst hy
          intro q
          subst q
          exact P.2.2.2.1 (List.mem_map.2 ⟨x, hx, hja.symm⟩)
        · intro x hx
          rw [List.mem_append, List.mem_singleton]
          by_cases hxj : x = j
          · subst hxj; rw [upd_same]; simp
          · rw [upd_other _ _ hxj, gy x hx]; simp [hxj]
      · rw [if_neg (by omega), upd_other _ _ hkk]
        exact (h.all k g1 g2).later h2
end
def cntY (y : Nat → Bool) : Nat → Nat
  | 0 => 0
  | n + 1 => cntY y n + (if y n then 1 else 0)
theorem cntY_le (y : Nat → Bool) : ∀ n, cntY y n ≤ n
  | 0 => Nat.le_refl _
  | n + 1 => by
    have := cntY_le y n
    unfold cntY
    split <;> omega
theorem cntY_mem (js : List Nat) (hn : js.Nodup) : ∀ (n : Nat) (y : Nat → Bool), (∀ j, j < n → (y j = true ↔ j ∈ js)) → cntY y n = (js.filter (fun j => decide (j < n))).length
  | 0, y, _ => by
    unfold cntY
    rw [List.filter_eq_nil_iff.2 (by intro a _; simp)]
    rfl
  | n + 1, y, h => by
    have ih := cntY_mem js hn n y (fun j hj => h j (by omega))
    unfold cntY
    rw [ih]
    clear ih
    have hy := h n (by omega)
    clear h
    induction js with
    | nil => simp at hy; simp [hy]
    | cons a r ihr =>
      obtain ⟨ha, hr⟩ := List.nodup_cons.1 hn
      have hs : ∀ m : Nat, (List.filter (fun j => decide (j < m)) (a :: r)).length = (if a < m then 1 else 0) + (List.filter (fun j => decide (j < m)) r).length := fun m => by
        rw [List.filter_cons]
        by_cases q : a < m
        · simp [q]; omega
        · simp [q]
      rw [hs n, hs (n + 1)]
      by_cases hna : n = a
      · subst hna
        have hyt : y n = true := hy.2 (List.mem_cons_self ..)
        have e : List.filter (fun j => decide (j < n + 1)) r = List.filter (fun j => decide (j < n)) r := by
          apply List.filter_congr
          intro x hx
          have : x ≠ n := fun q => ha (q ▸ hx)
          simp; omega
        rw [e, hyt]
        simp
        omega
      · have hy2 : (y n = true ↔ n ∈ r) := by
          rw [hy, List.mem_cons]
          constructor
          · rintro (q | q)
            · exact absurd q hna
            · exact q
          · exact .inr
        have := ihr hr hy2
        by_cases q : a < n
        · have h1 : (if a < n then 1 else 0) = 1 := if_pos q
          have h2 : (if a < n + 1 then 1 else 0) = 1 := if_pos (by omega)
          rw [h1, h2]; omega
        · have h1 : (if a < n then 1 else 0) = 0 := if_neg q
          have h2 : (if a < n + 1 then 1 else 0) = 0 := if_neg (by omega)
          rw [h1, h2]; omega
theorem RR.ripe {L : List Cas} {now : Int} {O : Nat → Bool} {T N : Nat → Int} {Y : Nat → Nat → Bool} (h : RR L now O T N Y) (hL : LV L) (hn : now ≤ 1000000) {t : Int} (ht : now ≤ t) (k : Nat) (g1 : 1 ≤ k) (g2 : k ≤ 12) :
    ripeB L k t = (O k && decide (T k + 200 ≤ t) && decide (t < T k + 2000) && decide (N k ≤ (cntY (Y k) 8 : Nat))) := by
  have hr := h.all k g1 g2
  have hg := h.rng k
  unfold ripeB
  cases hq : look L k with
  | none =>
    rw [hq] at hr
    rw [hasA_none hL.inv.rise hq]
    rcases hr with q | q
    · rw [q]; simp
    · have : ¬ t < T k + 2000 := by omega
      simp [this]
  | some c =>
    rw [hq] at hr
    obtain ⟨r1, r2, r3, js, g, gj, gn, gy⟩ := hr
    obtain ⟨e1, e2⟩ := findC_of hL.inv.rise hq
    have hc := (look_iff hL.inv.rise).1 hq
    have hcnt : cntY (Y k) 8 = js.length := by
      rw [cntY_mem js gn 8 (Y k) gy, List.filter_eq_self.2 (fun j hj => by simpa using gj j hj)]
    have hcb : cntB c = js.length := by rw [g.cnt, List.length_map]
    have hrp := (hL.inv.right c hc.1).ripe
    rw [e1, e2, hcnt, hcb, r1, over_small (by rw [← r2]; omega), hrp, ripe_small (by rw [← r2]; omega), r2, r3, Bool.eq_iff_iff]
    simp
    omega
end Go.Proofs.YtcidllckmidkoaaDoor
