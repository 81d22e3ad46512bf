/- cases.vouch, at a place of a row. -/
import Derived.Test.YtcidllckmidkoaaDoorCset
namespace Go.Proofs.YtcidllckmidkoaaDoor
open Go.RowKit Go.Maps

def vouE (c : Cas) (x : ByteArray) : Int := if kindOf x ≠ 1 then 1 else if hasB c x then 14 else if 5 ≤ cntB c then 15 else 0
def vouR (L : List Cas) (i : Nat) (x : ByteArray) : List Cas := if vouE (L[i]?.getD noCas) x = 0 then L.set i ((L[i]?.getD noCas).putV (cntB (L[i]?.getD noCas)) x) else L
theorem five_of {w : World} {g i ct : Nat} {a b c d e : ByteArray} (h : ct < 5) (k4 : w.cell? ⟨g, i * 9 + 4, none⟩ = some (.string a)) (k5 : w.cell? ⟨g, i * 9 + 5, none⟩ = some (.string b)) (k6 : w.cell? ⟨g, i * 9 + 6, none⟩ = some (.string c)) (k7 : w.cell? ⟨g, i * 9 + 7, none⟩ = some (.string d)) (k8 : w.cell? ⟨g, i * 9 + 8, none⟩ = some (.string e)) :
    ∃ y, w.cell? ⟨g, i * 9 + 4 + ct, none⟩ = some (.string y) := by
  have hc : ct = 0 ∨ ct = 1 ∨ ct = 2 ∨ ct = 3 ∨ ct = 4 := by omega
  rcases hc with rfl | rfl | rfl | rfl | rfl
  · exact ⟨_, k4⟩
  · exact ⟨_, k5⟩
  · exact ⟨_, k6⟩
  · exact ⟨_, k7⟩
  · exact ⟨_, k8⟩
set_option maxHeartbeats 4000000 in
set_option maxRecDepth 100000 in
theorem vouch_any {Bs c : Nat} {a : Option Addr} {L : List Cas} {w : World} (hown : mowns w Bs (.slice a L.length c) L) (lim : L.length ≤ 1000000) (hBs : Bs ≤ w.heap.size) (i : Nat) (hi : i < L.length) (x : ByteArray) (hs : x.size ≤ 4000000000) (hm : ML w) :
    Calls Tryd.prog 32 #[.slice a L.length c, .int .i64 i, .string x] w fun e w' => ∃ a' c', e = .returned (.tuple #[.slice a' L.length c', .int .i64 (vouE (L[i]?.getD noCas) x)]) ∧ mowns w' Bs (.slice a' L.length c') (vouR L i x) ∧ Below w.heap.size w w' := by
  have hii : (i : Int) < L.length := by omega
  have KD := Lib.hid (fun w2 (b : Below w.heap.size w w2) => kind_any x hs w2 (hm.below b))
  have CL := Lib.hid (fun w2 (b : Below w.heap.size w w2) => mclone_any (hown.below b) lim)
  have NN := Lib.hid (fun w2 (b : Below w.heap.size w w2) => (hown.below b).nine i hi)
  have OW := Lib.hid hown
  have VR : Hid (vouR L i x = if vouE (L[i]?.getD noCas) x = 0 then L.set i ((L[i]?.getD noCas).putV (cntB (L[i]?.getD noCas)) x) else L) := Lib.hid rfl
  obtain ⟨m0, hm0⟩ : ∃ m0, L[i]?.getD noCas = m0 := ⟨_, rfl⟩
  have HM0 := Lib.hid hm0
  rw [hm0] at NN VR ⊢
  have VE : Hid (vouE m0 x = if kindOf x ≠ 1 then 1 else if hasB m0 x then 14 else if 5 ≤ cntB m0 then 15 else 0) := Lib.hid rfl
  have CT := Lib.hid (fun w => count_any m0 w)
  have HS := Lib.hid (fun w => has_any m0 x w)
  generalize vouE m0 x = ve at *
  generalize cntB m0 = ct at *
  generalize hasB m0 x = hb at *
  generalize kindOf x = kx at *
  unfold Cas.agg at CT HS
  obtain ⟨g, rfl, _, _, m0', m1, m2, m3, m4, m5, m6, m7, m8⟩ := NN.out w (Below.refl _ _)
  clear hown hm hm0
  by_cases h1 : kx = 1
  · subst h1
    cases hb
    · by_cases h5 : 5 ≤ ct
      · have h5' : (5 : Int) ≤ ct := by omega
        have hve : ve = 15 := by rw [VE.out]; simp [h5]
        subst hve
        have VR' : Hid (vouR L i x = L) := Lib.hid (by rw [VR.out, if_neg (by decide)])
        go_enter Tryd.func32, Tryd.ntmps32
        go_wp2_with (first
          | (go_at_call 10; (with_reducible refine (CT.out _).mono ?_); rintro e w2 ⟨rfl, b2⟩; have B2 := Lib.hid b2; clear b2)
          | (go_at_call 44; (with_reducible refine (KD.out _ B2.out).mono ?_); rintro e w3 ⟨rfl, b3⟩; have B3 := Lib.hid (B2.out.trans (b3.mono B2.out.size)); clear b3; obtain ⟨g', hg', _, _, n0, n1, n2, n3, n4, n5, n6, n7, n8⟩ := NN.out _ B3.out; cases hg')
          | (go_at_call 12; (with_reducible refine (HS.out _).mono ?_); rintro e w4 ⟨rfl, b4⟩; have B4 := Lib.hid (B3.out.trans (b4.mono B3.out.size)); clear b4))
        go_ret2
        exact ⟨_, c, rfl, by rw [VR'.out]; exact OW.out.below B4.out, B4.out⟩
      · have h5' : ¬ (5 : Int) ≤ ct := by omega
        have hve : ve = 0 := by rw [VE.out]; simp [h5]
        subst hve
        have VR' : Hid (vouR L i x = L.set i (m0.putV ct x)) := Lib.hid (by rw [VR.out, if_pos rfl])
        have hct : (ct : Int) < 5 := by omega
        have hct0 : (0 : Int) ≤ ct := by omega
        have hct1 : ct < 5 := by omega
        go_enter Tryd.func32, Tryd.ntmps32
        go_wp2_with (first
          | (go_at_call 10; (with_reducible refine (CT.out _).mono ?_); rintro e w2 ⟨rfl, b2⟩; have B2 := Lib.hid b2; clear b2)
          | (go_at_call 44; (with_reducible refine (KD.out _ B2.out).mono ?_); rintro e w3 ⟨rfl, b3⟩; have B3 := Lib.hid (B2.out.trans (b3.mono B2.out.size)); clear b3; obtain ⟨g', hg', _, _, n0, n1, n2, n3, n4, n5, n6, n7, n8⟩ := NN.out _ B3.out; cases hg')
          | (go_at_call 12; (with_reducible refine (HS.out _).mono ?_); rintro e w4 ⟨rfl, b4⟩; have B4 := Lib.hid (B3.out.trans (b4.mono B3.out.size)); clear b4)
          | (go_at_call 34; (with_reducible refine (CL.out _ B4.out).mono ?_); rintro e w5 ⟨a5, c5, rfl, o5, b5⟩; have B5 := Lib.hid (B4.out.trans (b5.mono B4.out.size)); have O5 := Lib.hid o5; clear b5; obtain ⟨g5, rfl, hg5, _, k0, k1, k2, k3, k4, k5, k6, k7, k8⟩ := o5.nine i hi; have kf := o5.free; have KC : ∃ y, w5.cell? ⟨g5, i * 9 + 4 + ct, none⟩ = some (.string y) := five_of hct1 k4 k5 k6 k7 k8; obtain ⟨y, kc⟩ := KC; clear o5))
        go_ret2
        have hg6 : w.heap.size ≤ g5 := Nat.le_trans B4.out.size hg5
        exact ⟨some ⟨g5, 0, none⟩, c5, rfl, by rw [VR'.out, ← HM0.out]; exact (O5.out.putV rfl i ct hi hct1 x).mono (Nat.le_trans hBs B4.out.size), B5.out.setCell hg6 _⟩
    · have hve : ve = 14 := by rw [VE.out]; simp
      subst hve
      have VR' : Hid (vouR L i x = L) := Lib.hid (by rw [VR.out, if_neg (by decide)])
      go_enter Tryd.func32, Tryd.ntmps32
      go_wp2_with (first
        | (go_at_call 10; (with_reducible refine (CT.out _).mono ?_); rintro e w2 ⟨rfl, b2⟩; have B2 := Lib.hid b2; clear b2)
        | (go_at_call 44; (with_reducible refine (KD.out _ B2.out).mono ?_); rintro e w3 ⟨rfl, b3⟩; have B3 := Lib.hid (B2.out.trans (b3.mono B2.out.size)); clear b3; obtain ⟨g', hg', _, _, n0, n1, n2, n3, n4, n5, n6, n7, n8⟩ := NN.out _ B3.out; cases hg')
        | (go_at_call 12; (with_reducible refine (HS.out _).mono ?_); rintro e w4 ⟨rfl, b4⟩; have B4 := Lib.hid (B3.out.trans (b4.mono B3.out.size)); clear b4))
      go_ret2
      exact ⟨_, c, rfl, by rw [VR'.out]; exact OW.out.below B4.out, B4.out⟩
  · have h1' : ¬ ((kx : Nat) : Int) = 1 := by omega
    have hve : ve = 1 := by rw [VE.out, if_pos h1]
    subst hve
    have VR' : Hid (vouR L i x = L) := Lib.hid (by rw [VR.out, if_neg (by decide)])
    go_enter Tryd.func32, Tryd.ntmps32
    go_wp2_with (first
      | (go_at_call 10; (with_reducible refine (CT.out _).mono ?_); rintro e w2 ⟨rfl, b2⟩; have B2 := Lib.hid b2; clear b2)
      | (go_at_call 44; (with_reducible refine (KD.out _ B2.out).mono ?_); rintro e w3 ⟨rfl, b3⟩; have B3 := Lib.hid (B2.out.trans (b3.mono B2.out.size)); clear b3))
    go_ret2
    exact ⟨_, c, rfl, by rw [VR'.out]; exact OW.out.below B3.out, B3.out⟩
end Go.Proofs.YtcidllckmidkoaaDoor
