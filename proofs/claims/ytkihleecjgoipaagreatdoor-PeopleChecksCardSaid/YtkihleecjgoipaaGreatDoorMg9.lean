/- The reference's address: host, isMail, Kind, walked: its Kind is address.Kind. -/
import Derived.Test.YtkihleecjgoipaaGreatDoorMg8
import Derived.Test.YtkihleecjgoipaaGreatDoorMg2
section
namespace Go.Proofs.YtkihleecjgoipaaGreatDoor.Knd
open Go.RowKit Go.Proofs.YtkihleecjgoipaaGreatDoor

theorem ext_size (s : ByteArray) (a b : Nat) : (s.extract a b).size ≤ s.size := by rw [ByteArray.size_extract]; omega
set_option maxHeartbeats 4000000 in
set_option maxRecDepth 100000 in
theorem host9_any (s : ByteArray) (hs : s.size ≤ 4000000000) (w : World) : Calls Tryz.prog 79 #[.string s] w fun e w' => e = .returned (.bool (hostB s)) ∧ w' = w := by
  have HB := Lib.hid (fun n f i h h1 h2 h3 => HI.bad (s := s) (n := n) (f := f) (i := i) h h1 h2 h3)
  have HE := Lib.hid (fun n f h h1 => HI.badEnd (s := s) (n := n) (f := f) h h1)
  have HF := Lib.hid (fun n f h h1 => HI.fin (s := s) (n := n) (f := f) h h1)
  generalize hostB s = r at *
  have LB : Hid (∀ f i w, Calls Tryz.prog 90 #[.string (s.extract f i)] w fun e w' => e = .returned (.bool (labB (s.extract f i))) ∧ w' = w) := Lib.hid (fun f i w => label9_any _ (by have := ext_size s f i; omega) w)
  go_enter Tryz.func79, Tryz.ntmps79
  go_wp2_with fail
  go_loopw [3, 4, 5] (fun n f i wr => wr = w ∧ ∃ nn ff ii : Nat, n = .int .i64 nn ∧ f = .int .i64 ff ∧ i = .int .i64 ii ∧ nn ≤ ii ∧ ff ≤ ii ∧ ii ≤ s.size + 1 ∧ ((ii ≤ s.size ∧ HI s nn ff ii) ∨ (ii = s.size + 1 ∧ r = decide (2 ≤ nn)))) (fun _ _ i _ => s.size + 1 - (intOf i).toNat)
  case atStart => exact ⟨rfl, 0, 0, 0, rfl, rfl, rfl, Nat.le_refl _, Nat.le_refl _, Nat.zero_le _, .inl ⟨Nat.zero_le _, HI.start s⟩⟩
  case round =>
    obtain ⟨hw, nn, ff, ii, rfl, rfl, rfl, hni, hfi, hii, hst⟩ := hrel
    subst hw
    have hn0 : (0 : Int) ≤ nn := by omega
    have hf0 : (0 : Int) ≤ ff := by omega
    have hi0 : (0 : Int) ≤ ii := by omega
    have hfi' : (ff : Int) ≤ ii := by omega
    rcases hst with ⟨his, hI⟩ | ⟨his, hr⟩
    · have hlen : (ii : Int) ≤ s.size := by omega
      have HH := Lib.hid hI
      clear hI
      by_cases hi : ii < s.size
      · have hi' : (ii : Int) < s.size := by omega
        by_cases hc : s[ii].toNat = 46
        · have hc' : ((s[ii].toNat : Int) == 46) = true := by simp; omega
          have hc2 : ((s[ii].toNat : Int) != 46) = false := by simp; omega
          have HC := Lib.hid hc
          have LB2 := Lib.hid (LB.out ff ii)
          obtain ⟨q, hq⟩ : ∃ q, labB (s.extract ff ii) = q := ⟨_, rfl⟩
          rw [hq] at LB2
          have HQ : Hid (labB (s.extract ff ii) = q) := Lib.hid hq
          clear hq hc
          cases q
          · have hre : Hid (r = false) := Lib.hid (HB.out _ _ _ HH.out hi HC.out HQ.out)
            go_wp2_with (go_at_call 90; (with_reducible refine (LB2.out _).mono ?_); rintro z w2 ⟨rfl, rfl⟩)
            go_ret
            exact ⟨ret_bool hre.out.symm, rfl⟩
          · go_wp2_with (go_at_call 90; (with_reducible refine (LB2.out _).mono ?_); rintro z w2 ⟨rfl, rfl⟩)
            go_roundw
            case rel => exact ⟨by trivial, nn + 1, ii + 1, ii + 1, by go_num, by go_num, by go_num, by omega, by omega, by omega, .inl ⟨by omega, HH.out.dot hi HC.out HQ.out⟩⟩
            case measure => simp [intOf]; omega
        · have hc' : ((s[ii].toNat : Int) == 46) = false := by simp; omega
          have hc2 : ((s[ii].toNat : Int) != 46) = true := by simp; omega
          have HC := Lib.hid hc
          clear hc
          go_wp2_with fail
          go_roundw
          case rel => exact ⟨by trivial, nn, ff, ii + 1, rfl, rfl, by go_num, by omega, by omega, by omega, .inl ⟨by omega, HH.out.next hi HC.out⟩⟩
          case measure => simp [intOf]; omega
      · have hi' : ¬ (ii : Int) < s.size := by omega
        obtain rfl : ii = s.size := by omega
        have LB2 := Lib.hid (LB.out ff s.size)
        obtain ⟨q, hq⟩ : ∃ q, labB (s.extract ff s.size) = q := ⟨_, rfl⟩
        rw [hq] at LB2
        have HQ : Hid (labB (s.extract ff s.size) = q) := Lib.hid hq
        clear hq
        cases q
        · have hre : Hid (r = false) := Lib.hid (HE.out _ _ HH.out HQ.out)
          go_wp2_with (go_at_call 90; (with_reducible refine (LB2.out _).mono ?_); rintro z w2 ⟨rfl, rfl⟩)
          go_ret
          exact ⟨ret_bool hre.out.symm, rfl⟩
        · have hre : Hid (r = decide (2 ≤ nn + 1)) := Lib.hid (HF.out _ _ HH.out HQ.out)
          go_wp2_with (go_at_call 90; (with_reducible refine (LB2.out _).mono ?_); rintro z w2 ⟨rfl, rfl⟩)
          go_roundw
          case rel => exact ⟨by trivial, nn + 1, s.size + 1, s.size + 1, by go_num, by go_num, by go_num, by omega, by omega, by omega, .inr ⟨rfl, hre.out⟩⟩
          case measure => simp [intOf]
    · have hlen : ¬ (ii : Int) ≤ s.size := by omega
      have HR := Lib.hid hr
      clear hr his
      go_wp2_with fail
      go_ret
      exact ⟨ret_bool (by rw [HR.out, decide_eq_decide]; omega), rfl⟩
set_option maxHeartbeats 4000000 in
set_option maxRecDepth 100000 in
theorem mail9_any (s : ByteArray) (hs : s.size ≤ 4000000000) (w : World) : Calls Tryz.prog 70 #[.string s] w fun e w' => e = .returned (.bool (mailB s)) ∧ w' = w := by
  have MA := Lib.hid (fun i h1 h2 h3 => mail_at s i h1 h2 h3)
  have MN := Lib.hid (mail_no s)
  generalize mailB s = r at *
  have NM : Hid (∀ i w, Calls Tryz.prog 78 #[.string (s.extract 0 i)] w fun e w' => e = .returned (.bool (nameB (s.extract 0 i))) ∧ w' = w) := Lib.hid (fun i w => name9_any _ (by have := ext_size s 0 i; omega) w)
  have HO : Hid (∀ i w, Calls Tryz.prog 79 #[.string (s.extract (i + 1) s.size)] w fun e w' => e = .returned (.bool (hostB (s.extract (i + 1) s.size))) ∧ w' = w) := Lib.hid (fun i w => host9_any _ (by have := ext_size s (i + 1) s.size; omega) w)
  go_enter Tryz.func70, Tryz.ntmps70
  go_wp2_with fail
  go_loopw [3] (fun i wr => wr = w ∧ ∃ k : Nat, k ≤ s.size ∧ i = .int .i64 k ∧ ∀ j (hj : j < s.size), j < k → s[j].toNat ≠ 64) (fun i _ => s.size - (intOf i).toNat)
  case atStart => exact ⟨rfl, 0, Nat.zero_le _, rfl, fun j _ hj => (Nat.not_lt_zero j hj).elim⟩
  case round =>
    obtain ⟨hw, k, hk, rfl, hno⟩ := hrel
    subst hw
    have HN := Lib.hid hno
    clear hno
    by_cases hkn : k < s.size
    · have hkn' : (k : Int) < s.size := by omega
      have hkl : (k : Int) ≤ s.size := by omega
      have hk1 : (k : Int) + 1 ≤ s.size := by omega
      have hk0 : (0 : Int) ≤ k := by omega
      have hk01 : (0 : Int) ≤ (k : Int) + 1 := by omega
      by_cases hc : s[k].toNat = 64
      · have hc' : ((s[k].toNat : Int) == 64) = true := by simp; omega
        have HR := Lib.hid (MA.out k hkn hc HN.out)
        have NM2 := Lib.hid (NM.out k)
        have HO2 := Lib.hid (HO.out k)
        clear hc
        generalize nameB (s.extract 0 k) = q1 at *
        generalize hostB (s.extract (k + 1) s.size) = q2 at *
        by_cases h40 : s.size ≤ 40
        · have h40' : (s.size : Int) ≤ 40 := by omega
          rw [decide_eq_true h40] at HR
          cases q1 <;> cases q2
          all_goals
            go_wp2_with (first
              | (go_at_call 78; (with_reducible refine (NM2.out _).mono ?_); rintro z w2 ⟨rfl, rfl⟩)
              | (go_at_call 79; (with_reducible refine (HO2.out _).mono ?_); rintro z w2 ⟨rfl, rfl⟩))
            go_ret
            first
              | exact ⟨ret_bool HR.out.symm, rfl⟩
              | exact ⟨ret_bool (by rw [HR.out]; simp; omega), rfl⟩
        · have h40' : ¬ (s.size : Int) ≤ 40 := by omega
          rw [decide_eq_false h40] at HR
          cases q1 <;> cases q2
          all_goals
            go_wp2_with (first
              | (go_at_call 78; (with_reducible refine (NM2.out _).mono ?_); rintro z w2 ⟨rfl, rfl⟩)
              | (go_at_call 79; (with_reducible refine (HO2.out _).mono ?_); rintro z w2 ⟨rfl, rfl⟩))
            go_ret
            first
              | exact ⟨ret_bool HR.out.symm, rfl⟩
              | exact ⟨ret_bool (by rw [HR.out]; simp; omega), rfl⟩
      · have hc' : ((s[k].toNat : Int) == 64) = false := by simp; omega
        have HC := Lib.hid hc
        clear hc
        go_wp2_with fail
        go_roundw
        case rel => exact ⟨by trivial, k + 1, by omega, by go_num, fun j hj hjk => by
          rcases Nat.lt_or_ge j k with q | q
          · exact HN.out j hj q
          · obtain rfl : j = k := by omega
            exact HC.out⟩
        case measure => simp [intOf]; omega
    · have hkn' : ¬ (k : Int) < s.size := by omega
      have hre : Hid (r = false) := Lib.hid (MN.out fun j hj => HN.out j hj (by omega))
      go_wp2_with fail
      go_ret
      exact ⟨ret_bool hre.out.symm, rfl⟩
set_option maxRecDepth 100000 in
/-- The reference's Kind is address.Kind. -/
theorem kind9_any (s : ByteArray) (hs : s.size ≤ 4000000000) (w : World) : Calls Tryz.prog 62 #[.string s] w fun e w' => e = .returned (.int .i64 (kindOf s)) ∧ w' = w := by
  have KO : Hid (kindOf s = if mailB s then 1 else if phoneB s then 2 else 0) := Lib.hid rfl
  have MA := Lib.hid (fun w => mail9_any s hs w)
  have PH := Lib.hid (fun w => phone9_any s hs w)
  generalize kindOf s = r at *
  generalize mailB s = q1 at *
  generalize phoneB s = q2 at *
  cases q1 <;> cases q2
  all_goals
    go_enter Tryz.func62, Tryz.ntmps62
    go_wp2_with (first
      | (go_at_call 70; (with_reducible refine (MA.out _).mono ?_); rintro z w2 ⟨rfl, rfl⟩)
      | (go_at_call 71; (with_reducible refine (PH.out _).mono ?_); rintro z w2 ⟨rfl, rfl⟩))
    go_ret
    exact ⟨ret_int (by rw [KO.out]; rfl), rfl⟩
end Go.Proofs.YtkihleecjgoipaaGreatDoor.Knd
end
/- People behind events: what holds of them, in plain words. -/
section
namespace Go.Proofs.YtkihleecjgoipaaGreatDoor
open Go.RowKit Go.Maps Go.Proofs.YtkihleecjgoipaaGreatDoor.Rw

/-- A person that may be, behind N events. -/
structure PP (N : Nat) (x : Per.R) : Prop where
  vers : 1 ≤ x.vers ∧ x.vers ≤ 1 + (N : Int)
  miss : 0 ≤ x.miss ∧ x.miss ≤ 4
  lock : 0 ≤ x.lock ∧ x.lock ≤ 3000
  mail : onesB x.mail = true
  key : keyB x.salt x.chk = true
structure PI (N : Nat) (p : Ppl) : Prop where
  len : p.ps.length ≤ 12
  slen : p.ss.length ≤ 16
  id : ∀ k (h : k < p.ps.length), p.ps[k].id = (k : Int) + 1
  pp : ∀ k (h : k < p.ps.length), PP N p.ps[k]
theorem PI.nil : PI 0 ⟨[], []⟩ := ⟨by simp, by simp, fun k h => (Nat.not_lt_zero k h).elim, fun k h => (Nat.not_lt_zero k h).elim⟩
theorem PP.later {N : Nat} {x : Per.R} (h : PP N x) : PP (N + 1) x := ⟨⟨h.vers.1, by have := h.vers.2; omega⟩, h.miss, h.lock, h.mail, h.key⟩
section
variable {N : Nat} {p : Ppl} {e : Evn}
theorem PI.at_hit (h : PI N p) {k : Nat} (hk : k < p.ps.length) : at_ p ((k : Int) + 1) = k := by
  unfold at_
  refine pos_hit (d := Per.zero) hk (fun j hj => ?_) ?_
  · rw [List.getElem?_eq_getElem (by omega)]
    have := h.id j (by omega)
    simp
    omega
  · rw [List.getElem?_eq_getElem hk]
    simp [h.id k hk]
theorem PI.at_lt (h : PI N p) {id : Int} (hl : at_ p id < p.ps.length) : id = (at_ p id : Int) + 1 := by
  have := (pos_lt (L := p.ps) (P := fun x => decide (x.id = id)) hl).1
  rw [← h.id _ hl]
  exact (of_decide_eq_true this).symm
/-- Who is found by a number. -/
theorem PI.find (h : PI N p) {k : Nat} (hk : k < p.ps.length) : p.ps[p.ps.findIdx (fun x => decide (x.id = (k : Int) + 1))]?.getD Per.zero = p.ps[k] ∧ p.ps.any (fun x => decide (x.id = (k : Int) + 1)) = true := by
  have e : p.ps.findIdx (fun x => decide (x.id = (k : Int) + 1)) = k := h.at_hit hk
  refine ⟨by rw [e, List.getElem?_eq_getElem hk]; rfl, ?_⟩
  rw [List.any_eq_true]
  exact ⟨_, List.getElem_mem hk, by simp [h.id k hk]⟩
theorem PI.next (h : PI N p) : nextN p = (p.ps.length : Int) + 1 := by
  unfold nextN
  split
  · omega
  · rw [List.getElem?_eq_getElem (by omega), Option.getD_some, h.id _ (by omega)]
    omega
theorem PI.few (h : PI N p) : few p := ⟨by have := h.len; omega, by have := h.slen; omega⟩
/-- Does the event change the person in its place? -/
def hits (p : Ppl) (e : Evn) (k : Nat) : Bool := decide (2 ≤ e.kind) && decide (e.kind ≤ 7) && decide (appE p e = 0) && decide (e.acc = (k : Int) + 1)
theorem app_same (h : appE p e ≠ 0) : appR p e = p := by
  unfold appE at h
  unfold appR
  by_cases h1 : e.kind = 1
  · rw [if_pos h1] at h ⊢
    unfold sgnR
    rw [if_neg h]
  · rw [if_neg h1] at h ⊢
    by_cases h2 : e.kind < 1 ∨ 9 < e.kind
    · rw [if_pos h2]
    · rw [if_neg h2] at h ⊢
      by_cases h3 : p.ps.length ≤ at_ p e.acc
      · rw [if_pos h3]
      · rw [if_neg h3] at h ⊢
        by_cases h8 : e.kind = 8
        · rw [if_pos h8] at h ⊢
          unfold sesR
          rw [if_neg h]
        · rw [if_neg h8] at h ⊢
          by_cases h9 : e.kind = 9
          · rw [if_pos h9] at h
            exact absurd rfl h
          · rw [if_neg h9] at h ⊢
            rw [if_neg h]
theorem lasts_le (p : Ppl) (t : Int) : (lasts p t).length ≤ p.ss.length := List.length_filter_le _ _
/-- What the persons are behind an event. -/
theorem PI.persons (h : PI N p) : (∃ y, e.kind = 1 ∧ appE p e = 0 ∧ y = newP e ∧ e.acc = (p.ps.length : Int) + 1 ∧ onesB e.a = true ∧ keyB e.b e.c = true ∧ byB p e.a = false ∧ p.ps.length < 12 ∧ (appR p e).ps = p.ps ++ [y]) ∨
    ((appR p e).ps.length = p.ps.length ∧ ∀ k (hk : k < p.ps.length), (appR p e).ps[k]? = some (if hits p e k = true then doesF p p.ps[k] e else p.ps[k])) := by
  by_cases h0 : appE p e = 0
  · by_cases h1 : e.kind = 1
    · left
      have h0' : sgnE p e = 0 := by unfold appE at h0; rwa [if_pos h1] at h0
      refine ⟨newP e, h1, h0, rfl, ?_⟩
      have hq := h0'
      unfold sgnE at hq
      split at hq
      · cases hq
      · rename_i hn
        split at hq
        · cases hq
        · rename_i hb
          split at hq
          · cases hq
          · rename_i hl
            have hn1 : ¬ onesB e.a = false := fun c => hn (.inl c)
            have hn2 : ¬ keyB e.b e.c = false := fun c => hn (.inr (.inl c))
            have hn3 : e.acc = nextN p := Classical.byContradiction fun c => hn (.inr (.inr (.inl c)))
            refine ⟨by rw [hn3, h.next], by simpa using hn1, by simpa using hn2, by simpa using hb, by omega, ?_⟩
            unfold appR sgnR
            rw [if_pos h1, if_pos h0']
    · right
      unfold appE at h0
      rw [if_neg h1] at h0
      by_cases h2 : e.kind < 1 ∨ 9 < e.kind
      · rw [if_pos h2] at h0
        cases h0
      · rw [if_neg h2] at h0
        by_cases h3 : p.ps.length ≤ at_ p e.acc
        · rw [if_pos h3] at h0
          cases h0
        · rw [if_neg h3] at h0
          have hacc := h.at_lt (id := e.acc) (by omega)
          have same : ∀ k (hk : k < p.ps.length), ¬ (2 ≤ e.kind ∧ e.kind ≤ 7) → hits p e k = false := fun k hk hn => by
            unfold hits
            simp
            intro a b
            exact absurd ⟨a, b⟩ hn
          by_cases h8 : e.kind = 8
          · have hr : (appR p e).ps = p.ps := by
              unfold appR
              rw [if_neg h1, if_neg h2, if_neg h3, if_pos h8]
              unfold sesR
              split <;> rfl
            rw [hr]
            exact ⟨rfl, fun k hk => by rw [same k hk (by omega), List.getElem?_eq_getElem hk]; rfl⟩
          · rw [if_neg h8] at h0
            by_cases h9 : e.kind = 9
            · have hr : (appR p e).ps = p.ps := by
                unfold appR
                rw [if_neg h1, if_neg h2, if_neg h3, if_neg h8, if_pos h9]
                rfl
              rw [hr]
              exact ⟨rfl, fun k hk => by rw [same k hk (by omega), List.getElem?_eq_getElem hk]; rfl⟩
            · rw [if_neg h9] at h0
              have hlt : at_ p e.acc < p.ps.length := by omega
              have hap : appE p e = 0 := by
                unfold appE
                rw [if_neg h1, if_neg h2, if_neg h3, if_neg h8, if_neg h9]
                exact h0
              have hr : (appR p e).ps = p.ps.set (at_ p e.acc) (doesF p (p.ps[at_ p e.acc]?.getD Per.zero) e) := by
                unfold appR
                rw [if_neg h1, if_neg h2, if_neg h3, if_neg h8, if_neg h9, if_pos h0]
              rw [hr]
              refine ⟨List.length_set .., fun k hk => ?_⟩
              by_cases hkk : at_ p e.acc = k
              · subst hkk
                have hh : hits p e (at_ p e.acc) = true := by
                  unfold hits
                  rw [hap, ← hacc]
                  simp
                  omega
                rw [hh, if_pos rfl, List.getElem?_set_self hlt, List.getElem?_eq_getElem hlt, Option.getD_some]
              · have hh : hits p e k = false := by
                  unfold hits
                  simp
                  intro _ _ _
                  omega
                rw [hh, List.getElem?_set_ne hkk, List.getElem?_eq_getElem hk]
                rfl
  · right
    rw [app_same h0]
    refine ⟨rfl, fun k hk => ?_⟩
    have hh : hits p e k = false := by
      unfold hits
      simp [h0]
    rw [hh, List.getElem?_eq_getElem hk]
    rfl
end
end Go.Proofs.YtkihleecjgoipaaGreatDoor
end
