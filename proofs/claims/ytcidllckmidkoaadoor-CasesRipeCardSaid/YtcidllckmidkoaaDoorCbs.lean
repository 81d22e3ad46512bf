/- cases.at: slices.BinarySearchFunc over a row of rising accounts. -/
import Derived.Test.YtcidllckmidkoaaDoorCov
import Derived.Deep.DeepCutAuto
import Derived.Deep.CutBlock
namespace Go.Proofs.YtcidllckmidkoaaDoor
open Go.RowKit Go.Maps

def accAt (L : List Cas) (j : Nat) : Int := (L[j]?.getD noCas).acc
/-- Where an account's case stands, or would. -/
def plc (L : List Cas) (id : Int) : Nat := L.findIdx (fun c => decide (id ≤ c.acc))
def hasA (L : List Cas) (id : Int) : Bool := decide (plc L id < L.length) && decide (accAt L (plc L id) = id)
def Rise (L : List Cas) : Prop := L.Pairwise (fun a b => a.acc < b.acc)
theorem accAt_lt {L : List Cas} {j : Nat} (h : j < L.length) : accAt L j = L[j].acc := by
  unfold accAt
  rw [List.getElem?_eq_getElem h]
  rfl
theorem rise_at {L : List Cas} (h : Rise L) {i j : Nat} (hij : i < j) (hj : j < L.length) : accAt L i < accAt L j := by
  rw [accAt_lt hj, accAt_lt (by omega)]
  exact List.pairwise_iff_getElem.1 h i j (by omega) hj hij
theorem plc_of {L : List Cas} {id : Int} {i : Nat} (hi : i ≤ L.length) (h1 : ∀ k, k < i → accAt L k < id) (h2 : ∀ k, i ≤ k → k < L.length → id ≤ accAt L k) : plc L id = i := by
  unfold plc
  by_cases e : i < L.length
  · rw [List.findIdx_eq e]
    refine ⟨?_, fun j hj => ?_⟩
    · have := h2 i (Nat.le_refl _) e
      rw [accAt_lt e] at this
      simpa using this
    · have := h1 j hj
      rw [accAt_lt (by omega)] at this
      simpa using this
  · have : i = L.length := by omega
    subst this
    rw [List.findIdx_eq_length]
    intro x hx
    obtain ⟨j, hj, rfl⟩ := List.mem_iff_getElem.1 hx
    have := h1 j hj
    rw [accAt_lt hj] at this
    simpa using this

set_option maxHeartbeats 4000000 in
set_option maxRecDepth 100000 in
theorem bs_any {Bs c : Nat} {a : Option Addr} {L : List Cas} {w : World} (hown : mowns w Bs (.slice a L.length c) L) (lim : L.length ≤ 1000000) (hr : Rise L) (id : Int) :
    Calls Tryd.prog 38 #[.slice a L.length c, .int .i64 id, .func (.func 39) #[] #[]] w fun e w' => e = .returned (.tuple #[.int .i64 (plc L id : Nat), .bool (hasA L id)]) ∧ Below w.heap.size w w' := by
  obtain ⟨n, hn⟩ : ∃ n, L.length = n := ⟨_, rfl⟩
  have OW := Lib.hid hown
  have HN := Lib.hid hn
  have RS := Lib.hid hr
  rw [hn]
  rw [hn] at lim
  clear hown hn hr
  go_enter Tryd.func38, Tryd.ntmps38
  go_wp2_with fail
  go_loopw [9, 10] (fun x y wr => ∃ i j : Nat, i ≤ j ∧ j ≤ n ∧ x = .int .i64 i ∧ y = .int .i64 j ∧ (∀ k, k < i → accAt L k < id) ∧ (∀ k, j ≤ k → k < n → id ≤ accAt L k) ∧ Below w.heap.size w wr) (fun x y _ => (intOf y).toNat - (intOf x).toNat)
  case atStart => exact ⟨0, n, Nat.zero_le _, Nat.le_refl _, rfl, rfl, by simp, fun k h1 h2 => by omega, Below.refl _ _⟩
  case round =>
    obtain ⟨i, j, hij, hjn, rfl, rfl, h1, h2, hb⟩ := hrel
    have H1 := Lib.hid h1
    have H2 := Lib.hid h2
    have WB := Lib.hid hb
    clear h1 h2
    by_cases hlt : i < j
    · have hlt' : (i : Int) < j := by omega
      obtain ⟨h, hh⟩ : ∃ h, (i + j) / 2 = h := ⟨_, rfl⟩
      have hm : ((i : Int) + j) / 2 = h := by omega
      have hih : i ≤ h := by omega
      have hhj : h < j := by omega
      have hhn : (h : Int) < n := by omega
      have hh0 : (0 : Int) ≤ h := by omega
      obtain ⟨g, rfl, _, _, m0, m1, m2, m3, m4, m5, m6, m7, m8⟩ := (OW.out.below hb).nine h (by rw [HN.out]; omega)
      have HA : Hid (accAt L h = (L[h]?.getD noCas).acc) := Lib.hid rfl
      generalize L[h]?.getD noCas = x at m0 m1 m2 m3 m4 m5 m6 m7 m8 HA
      have AC := Lib.hid (atc_any x id wr)
      unfold Cas.agg at AC
      have hwa : IntKind.i64.wrap ((i : Int) + j) = (i : Int) + j := by rw [IntKind.wrap_i64] <;> omega
      have hwb : IntKind.u64.wrap ((i : Int) + j) = (i : Int) + j := by rw [IntKind.wrap_u64]; omega
      have hwc : IntKind.i64.wrap (h : Int) = h := by rw [IntKind.wrap_i64] <;> omega
      have hwd : IntKind.i64.wrap ((h : Int) + 1) = (h : Int) + 1 := by rw [IntKind.wrap_i64] <;> omega
      clear hh hb
      by_cases hc : x.acc < id
      · have hcm : cmpI x.acc id = -1 := by unfold cmpI; rw [if_pos hc]
        rw [hcm] at AC
        have HC := Lib.hid hc
        clear hcm hc
        go_wp2_with (go_at_call 39; (with_reducible refine (AC.out).mono ?_); rintro e w2 ⟨rfl, b2⟩; have B2 := Lib.hid (WB.out.trans (b2.mono WB.out.size)); clear b2)
        go_roundw
        case rel => exact ⟨h + 1, j, by omega, by omega, by go_num, rfl, fun k hk => by
          rcases Nat.lt_or_ge k h with e | e
          · have := rise_at RS.out e (by rw [HN.out]; omega)
            have := HA.out
            have := HC.out
            omega
          · obtain rfl : k = h := by omega
            rw [HA.out]
            exact HC.out, H2.out, B2.out⟩
        case measure => simp [intOf]; omega
      · have hcm : 0 ≤ cmpI x.acc id := by unfold cmpI; rw [if_neg hc]; split <;> omega
        have hcm' : ¬ cmpI x.acc id < 0 := by omega
        generalize cmpI x.acc id = z at AC hcm hcm'
        have HC := Lib.hid hc
        clear hc
        go_wp2_with (go_at_call 39; (with_reducible refine (AC.out).mono ?_); rintro e w2 ⟨rfl, b2⟩; have B2 := Lib.hid (WB.out.trans (b2.mono WB.out.size)); clear b2)
        go_roundw
        case rel => exact ⟨i, h, by omega, by omega, rfl, by go_num, H1.out, fun k hk hkn => by
          have h3 := HA.out
          have h4 := HC.out
          rcases Nat.lt_or_ge h k with e | e
          · have := rise_at RS.out e (by rw [HN.out]; omega)
            omega
          · obtain rfl : k = h := by omega
            omega, B2.out⟩
        case measure => simp [intOf]; omega
    · have hlt' : ¬ (i : Int) < j := by omega
      obtain rfl : i = j := by omega
      have hp : plc L id = i := plc_of (by rw [HN.out]; omega) H1.out (fun k h1 h2 => H2.out k h1 (by rw [← HN.out]; exact h2))
      have HA : Hid (hasA L id = (decide (i < n) && decide (accAt L i = id))) := Lib.hid (by unfold hasA; rw [hp, HN.out])
      have HP := Lib.hid hp
      clear hp
      by_cases hin : i < n
      · have hin' : (i : Int) < n := by omega
        obtain ⟨g, rfl, _, _, m0, m1, m2, m3, m4, m5, m6, m7, m8⟩ := (OW.out.below hb).nine i (by rw [HN.out]; omega)
        have HX : Hid (accAt L i = (L[i]?.getD noCas).acc) := Lib.hid rfl
        generalize L[i]?.getD noCas = x at m0 m1 m2 m3 m4 m5 m6 m7 m8 HX
        have AC := Lib.hid (atc_any x id wr)
        unfold Cas.agg at AC
        obtain ⟨bq, hbq⟩ : ∃ bq, decide (x.acc = id) = bq := ⟨_, rfl⟩
        have hz : (cmpI x.acc id == 0) = bq := by
          rw [← hbq]
          unfold cmpI
          by_cases e1 : x.acc < id
          · rw [if_pos e1]; simp; omega
          · by_cases e2 : id < x.acc
            · rw [if_neg e1, if_pos e2]; simp; omega
            · rw [if_neg e1, if_neg e2]; simp; omega
        have HR : Hid (hasA L id = bq) := Lib.hid (by rw [HA.out, HX.out, hbq]; simp [hin])
        generalize cmpI x.acc id = z at AC hz
        clear hbq hb
        go_wp2_with (go_at_call 39; (with_reducible refine (AC.out).mono ?_); rintro e w2 ⟨rfl, b2⟩; have B2 := Lib.hid (WB.out.trans (b2.mono WB.out.size)); clear b2)
        go_ret2
        exact ⟨by rw [HP.out, HR.out, ← hz]; rfl, B2.out⟩
      · have hin' : ¬ (i : Int) < n := by omega
        have HR : Hid (hasA L id = false) := Lib.hid (by rw [HA.out]; simp [hin])
        clear hb
        go_wp2_with fail
        go_ret2
        exact ⟨by rw [HP.out, HR.out]; rfl, WB.out⟩
end Go.Proofs.YtcidllckmidkoaaDoor
