/- address.Kind, for any text of at most 4,000,000,000 bytes. -/
import Derived.Test.YtkihleecjgoipaaGreatDoorAddr2
namespace Go.Proofs.YtkihleecjgoipaaGreatDoor
open Go.RowKit Go.Shelf

def cutA (s : ByteArray) : ByteArray := ⟨(Lib.cut s.data.toList [64]).1.toArray⟩
def cutB (s : ByteArray) : ByteArray := ⟨(Lib.cut s.data.toList [64]).2.1.toArray⟩
def cutI (s : ByteArray) : Bool := (Lib.cut s.data.toList [64]).2.2
theorem cutA_size (s : ByteArray) : (cutA s).size ≤ s.size := by
  unfold cutA Lib.cut
  split
  · show (List.take _ _).toArray.size ≤ s.data.size
    simp
    omega
  · exact Nat.le_of_eq rfl
theorem cutB_size (s : ByteArray) : (cutB s).size ≤ s.size := by
  unfold cutB Lib.cut
  split
  · show (List.drop _ _).toArray.size ≤ s.data.size
    simp
  · exact Nat.zero_le _
def mailB (s : ByteArray) : Bool := cutI s && decide (s.size ≤ 40) && nameB (cutA s) && hostB (cutB s)
def phoneB (s : ByteArray) : Bool := decide (9 ≤ s.size) && decide (s.size ≤ 16) && decide (s.data.toList[0]?.getD 0 = 43) && decide (s.data.toList[1]?.getD 0 ≠ 48) && onlyB digB (s.extract 1 s.size)
def kindOf (s : ByteArray) : Nat := if mailB s then 1 else if phoneB s then 2 else 0

set_option maxRecDepth 100000 in
set_option maxHeartbeats 8000000 in
theorem kind_any (s : ByteArray) (hs : s.size ≤ 4000000000) (w : World) (hm : ML w) : Calls Tryz.prog 63 #[.string s] w fun e w' => e = .returned (.int .i64 (kindOf s)) ∧ Below w.heap.size w w' := by
  have CU : Calls Tryz.prog 72 #[.string s, .string ⟨#[64]⟩] w fun e w' => e = .returned (.tuple #[.string (cutA s), .string (cutB s), .bool (cutI s)]) ∧ ∃ n, w' = w.drewN n := by
    obtain ⟨m, hm⟩ := hm
    exact Tryz.strings_Cut s ⟨#[64]⟩ m w (by omega) hm
  have NM := fun n : Nat => name_any (cutA s) (Nat.le_trans (cutA_size s) hs) (w.drewN n) (hm.below (below_drewN (Below.refl _ w) n))
  have HO := fun (w2 : World) (hb : Below w.heap.size w w2) => host_any (cutB s) (Nat.le_trans (cutB_size s) hs) w2 (hm.below hb)
  have KO : Hid (kindOf s = if mailB s then 1 else if phoneB s then 2 else 0) := Lib.hid rfl
  obtain ⟨b0, h0⟩ : ∃ b, cutI s = b := ⟨_, rfl⟩
  obtain ⟨b2, h2⟩ : ∃ b, nameB (cutA s) = b := ⟨_, rfl⟩
  obtain ⟨b3, h3⟩ : ∃ b, hostB (cutB s) = b := ⟨_, rfl⟩
  rw [h0] at CU
  simp only [h2] at NM
  simp only [h3] at HO
  have H0 := Lib.hid h0
  have H2 := Lib.hid h2
  have H3 := Lib.hid h3
  have CU := Lib.hid CU
  have NM := Lib.hid NM
  have HO := Lib.hid HO
  clear h0 h2 h3 hm
  cases b0
  · have MO : Hid (mailB s = false) := Lib.hid (by unfold mailB; rw [H0.out]; simp)
    by_cases p0 : 9 ≤ s.size
    · have p0' : (9 : Int) ≤ s.size := by omega
      have j0 : 0 < s.size := by omega
      have j1 : 1 < s.size := by omega
      have j1' : (1 : Int) < s.size := by omega
      by_cases p1 : s.size ≤ 16
      · have p1' : (s.size : Int) ≤ 16 := by omega
        by_cases p2 : s[0] = 43
        · have e2 : (s[0].toNat : Int) = 43 := by rw [p2]; rfl
          have e2' : ((s[0].toNat : Int) == 43) = true := by rw [e2]; rfl
          by_cases p3 : s[1] = 48
          · have e3 : (s[1].toNat : Int) = 48 := by rw [p3]; rfl
            have e3' : ((s[1].toNat : Int) != 48) = false := by rw [e3]; rfl
            have PO : Hid (phoneB s = false) := Lib.hid (by unfold phoneB; rw [byte_at s 1 j1]; simp [p3])
            clear p2 p3
            go_enter Tryz.func63, Tryz.ntmps63
            go_wp2_with (first
              | (go_at_call 72; (with_reducible refine (CU.out).mono ?_); rintro e w1 ⟨rfl, n1, rfl⟩)
              | (go_at_call 73; (with_reducible refine (NM.out n1).mono ?_); rintro e w2 ⟨rfl, hb2⟩; have HS := Lib.hid (HO.out w2 (below_then (below_drewN (Below.refl _ w) n1) (Nat.le_refl _) hb2)); have B2 := Lib.hid (below_then (below_drewN (Below.refl _ w) n1) (Nat.le_refl _) hb2); clear hb2)
              | (go_at_call 74; (with_reducible refine (HS.out).mono ?_); rintro e w3 ⟨rfl, hb3⟩; have B3 := Lib.hid (below_then B2.out B2.out.size hb3); clear hb3)
              | fail)
            go_ret
            exact ⟨ret_int (by rw [KO.out, MO.out, PO.out]; rfl), (below_drewN (Below.refl w.heap.size w) n1)⟩
          · have e3 : ¬ (s[1].toNat : Int) = 48 := fun e => p3 ((u8_eq s[1] 48 (by decide)).2 (by omega))
            have e3' : ((s[1].toNat : Int) != 48) = true := by simpa using e3
            obtain ⟨on, hon⟩ : ∃ b, onlyB digB (s.extract 1 s.size) = b := ⟨_, rfl⟩
            have PO : Hid (phoneB s = on) := Lib.hid (by unfold phoneB; rw [byte_at s 1 j1, byte_at s 0 j0, hon]; simp [p0, p1, p2, p3])
            clear p2 p3
            have OD := fun w => only_dig (s.extract 1 s.size) w
            rw [hon] at OD
            have OD := Lib.hid OD
            clear hon
            cases on
            · go_enter Tryz.func63, Tryz.ntmps63
              go_wp2_with (first
                | (go_at_call 72; (with_reducible refine (CU.out).mono ?_); rintro e w1 ⟨rfl, n1, rfl⟩)
                | (go_at_call 73; (with_reducible refine (NM.out n1).mono ?_); rintro e w2 ⟨rfl, hb2⟩; have HS := Lib.hid (HO.out w2 (below_then (below_drewN (Below.refl _ w) n1) (Nat.le_refl _) hb2)); have B2 := Lib.hid (below_then (below_drewN (Below.refl _ w) n1) (Nat.le_refl _) hb2); clear hb2)
                | (go_at_call 74; (with_reducible refine (HS.out).mono ?_); rintro e w3 ⟨rfl, hb3⟩; have B3 := Lib.hid (below_then B2.out B2.out.size hb3); clear hb3)
                | (go_at_call 75; (with_reducible refine (OD.out _).mono ?_); rintro e w4 ⟨rfl, hb4⟩))
              go_ret
              exact ⟨ret_int (by rw [KO.out, MO.out, PO.out]; rfl), (below_then (below_drewN (Below.refl w.heap.size w) n1) ((below_drewN (Below.refl w.heap.size w) n1)).size hb4)⟩
            · go_enter Tryz.func63, Tryz.ntmps63
              go_wp2_with (first
                | (go_at_call 72; (with_reducible refine (CU.out).mono ?_); rintro e w1 ⟨rfl, n1, rfl⟩)
                | (go_at_call 73; (with_reducible refine (NM.out n1).mono ?_); rintro e w2 ⟨rfl, hb2⟩; have HS := Lib.hid (HO.out w2 (below_then (below_drewN (Below.refl _ w) n1) (Nat.le_refl _) hb2)); have B2 := Lib.hid (below_then (below_drewN (Below.refl _ w) n1) (Nat.le_refl _) hb2); clear hb2)
                | (go_at_call 74; (with_reducible refine (HS.out).mono ?_); rintro e w3 ⟨rfl, hb3⟩; have B3 := Lib.hid (below_then B2.out B2.out.size hb3); clear hb3)
                | (go_at_call 75; (with_reducible refine (OD.out _).mono ?_); rintro e w4 ⟨rfl, hb4⟩))
              go_ret
              exact ⟨ret_int (by rw [KO.out, MO.out, PO.out]; rfl), (below_then (below_drewN (Below.refl w.heap.size w) n1) ((below_drewN (Below.refl w.heap.size w) n1)).size hb4)⟩
        · have e2 : ¬ (s[0].toNat : Int) = 43 := fun e => p2 ((u8_eq s[0] 43 (by decide)).2 (by omega))
          have e2' : ((s[0].toNat : Int) == 43) = false := by simpa using e2
          have PO : Hid (phoneB s = false) := Lib.hid (by unfold phoneB; rw [byte_at s 0 j0]; simp [p2])
          clear p2
          go_enter Tryz.func63, Tryz.ntmps63
          go_wp2_with (first
            | (go_at_call 72; (with_reducible refine (CU.out).mono ?_); rintro e w1 ⟨rfl, n1, rfl⟩)
            | (go_at_call 73; (with_reducible refine (NM.out n1).mono ?_); rintro e w2 ⟨rfl, hb2⟩; have HS := Lib.hid (HO.out w2 (below_then (below_drewN (Below.refl _ w) n1) (Nat.le_refl _) hb2)); have B2 := Lib.hid (below_then (below_drewN (Below.refl _ w) n1) (Nat.le_refl _) hb2); clear hb2)
            | (go_at_call 74; (with_reducible refine (HS.out).mono ?_); rintro e w3 ⟨rfl, hb3⟩; have B3 := Lib.hid (below_then B2.out B2.out.size hb3); clear hb3)
            | fail)
          go_ret
          exact ⟨ret_int (by rw [KO.out, MO.out, PO.out]; rfl), (below_drewN (Below.refl w.heap.size w) n1)⟩
      · have p1' : ¬ ((s.size : Int) ≤ 16) := by omega
        have PO : Hid (phoneB s = false) := Lib.hid (by unfold phoneB; simp [p1])
        go_enter Tryz.func63, Tryz.ntmps63
        go_wp2_with (first
          | (go_at_call 72; (with_reducible refine (CU.out).mono ?_); rintro e w1 ⟨rfl, n1, rfl⟩)
          | (go_at_call 73; (with_reducible refine (NM.out n1).mono ?_); rintro e w2 ⟨rfl, hb2⟩; have HS := Lib.hid (HO.out w2 (below_then (below_drewN (Below.refl _ w) n1) (Nat.le_refl _) hb2)); have B2 := Lib.hid (below_then (below_drewN (Below.refl _ w) n1) (Nat.le_refl _) hb2); clear hb2)
          | (go_at_call 74; (with_reducible refine (HS.out).mono ?_); rintro e w3 ⟨rfl, hb3⟩; have B3 := Lib.hid (below_then B2.out B2.out.size hb3); clear hb3)
          | fail)
        go_ret
        exact ⟨ret_int (by rw [KO.out, MO.out, PO.out]; rfl), (below_drewN (Below.refl w.heap.size w) n1)⟩
    · have p0' : ¬ ((9 : Int) ≤ s.size) := by omega
      have PO : Hid (phoneB s = false) := Lib.hid (by unfold phoneB; simp [p0])
      go_enter Tryz.func63, Tryz.ntmps63
      go_wp2_with (first
        | (go_at_call 72; (with_reducible refine (CU.out).mono ?_); rintro e w1 ⟨rfl, n1, rfl⟩)
        | (go_at_call 73; (with_reducible refine (NM.out n1).mono ?_); rintro e w2 ⟨rfl, hb2⟩; have HS := Lib.hid (HO.out w2 (below_then (below_drewN (Below.refl _ w) n1) (Nat.le_refl _) hb2)); have B2 := Lib.hid (below_then (below_drewN (Below.refl _ w) n1) (Nat.le_refl _) hb2); clear hb2)
        | (go_at_call 74; (with_reducible refine (HS.out).mono ?_); rintro e w3 ⟨rfl, hb3⟩; have B3 := Lib.hid (below_then B2.out B2.out.size hb3); clear hb3)
        | fail)
      go_ret
      exact ⟨ret_int (by rw [KO.out, MO.out, PO.out]; rfl), (below_drewN (Below.refl w.heap.size w) n1)⟩
  · by_cases q1 : s.size ≤ 40
    · have q1' : (s.size : Int) ≤ 40 := by omega
      cases b2
      · have MO : Hid (mailB s = false) := Lib.hid (by unfold mailB; rw [H2.out]; simp)
        by_cases p0 : 9 ≤ s.size
        · have p0' : (9 : Int) ≤ s.size := by omega
          have j0 : 0 < s.size := by omega
          have j1 : 1 < s.size := by omega
          have j1' : (1 : Int) < s.size := by omega
          by_cases p1 : s.size ≤ 16
          · have p1' : (s.size : Int) ≤ 16 := by omega
            by_cases p2 : s[0] = 43
            · have e2 : (s[0].toNat : Int) = 43 := by rw [p2]; rfl
              have e2' : ((s[0].toNat : Int) == 43) = true := by rw [e2]; rfl
              by_cases p3 : s[1] = 48
              · have e3 : (s[1].toNat : Int) = 48 := by rw [p3]; rfl
                have e3' : ((s[1].toNat : Int) != 48) = false := by rw [e3]; rfl
                have PO : Hid (phoneB s = false) := Lib.hid (by unfold phoneB; rw [byte_at s 1 j1]; simp [p3])
                clear p2 p3
                go_enter Tryz.func63, Tryz.ntmps63
                go_wp2_with (first
                  | (go_at_call 72; (with_reducible refine (CU.out).mono ?_); rintro e w1 ⟨rfl, n1, rfl⟩)
                  | (go_at_call 73; (with_reducible refine (NM.out n1).mono ?_); rintro e w2 ⟨rfl, hb2⟩; have HS := Lib.hid (HO.out w2 (below_then (below_drewN (Below.refl _ w) n1) (Nat.le_refl _) hb2)); have B2 := Lib.hid (below_then (below_drewN (Below.refl _ w) n1) (Nat.le_refl _) hb2); clear hb2)
                  | (go_at_call 74; (with_reducible refine (HS.out).mono ?_); rintro e w3 ⟨rfl, hb3⟩; have B3 := Lib.hid (below_then B2.out B2.out.size hb3); clear hb3)
                  | fail)
                go_ret
                exact ⟨ret_int (by rw [KO.out, MO.out, PO.out]; rfl), B2.out⟩
              · have e3 : ¬ (s[1].toNat : Int) = 48 := fun e => p3 ((u8_eq s[1] 48 (by decide)).2 (by omega))
                have e3' : ((s[1].toNat : Int) != 48) = true := by simpa using e3
                obtain ⟨on, hon⟩ : ∃ b, onlyB digB (s.extract 1 s.size) = b := ⟨_, rfl⟩
                have PO : Hid (phoneB s = on) := Lib.hid (by unfold phoneB; rw [byte_at s 1 j1, byte_at s 0 j0, hon]; simp [p0, p1, p2, p3])
                clear p2 p3
                have OD := fun w => only_dig (s.extract 1 s.size) w
                rw [hon] at OD
                have OD := Lib.hid OD
                clear hon
                cases on
                · go_enter Tryz.func63, Tryz.ntmps63
                  go_wp2_with (first
                    | (go_at_call 72; (with_reducible refine (CU.out).mono ?_); rintro e w1 ⟨rfl, n1, rfl⟩)
                    | (go_at_call 73; (with_reducible refine (NM.out n1).mono ?_); rintro e w2 ⟨rfl, hb2⟩; have HS := Lib.hid (HO.out w2 (below_then (below_drewN (Below.refl _ w) n1) (Nat.le_refl _) hb2)); have B2 := Lib.hid (below_then (below_drewN (Below.refl _ w) n1) (Nat.le_refl _) hb2); clear hb2)
                    | (go_at_call 74; (with_reducible refine (HS.out).mono ?_); rintro e w3 ⟨rfl, hb3⟩; have B3 := Lib.hid (below_then B2.out B2.out.size hb3); clear hb3)
                    | (go_at_call 75; (with_reducible refine (OD.out _).mono ?_); rintro e w4 ⟨rfl, hb4⟩))
                  go_ret
                  exact ⟨ret_int (by rw [KO.out, MO.out, PO.out]; rfl), (below_then B2.out (B2.out).size hb4)⟩
                · go_enter Tryz.func63, Tryz.ntmps63
                  go_wp2_with (first
                    | (go_at_call 72; (with_reducible refine (CU.out).mono ?_); rintro e w1 ⟨rfl, n1, rfl⟩)
                    | (go_at_call 73; (with_reducible refine (NM.out n1).mono ?_); rintro e w2 ⟨rfl, hb2⟩; have HS := Lib.hid (HO.out w2 (below_then (below_drewN (Below.refl _ w) n1) (Nat.le_refl _) hb2)); have B2 := Lib.hid (below_then (below_drewN (Below.refl _ w) n1) (Nat.le_refl _) hb2); clear hb2)
                    | (go_at_call 74; (with_reducible refine (HS.out).mono ?_); rintro e w3 ⟨rfl, hb3⟩; have B3 := Lib.hid (below_then B2.out B2.out.size hb3); clear hb3)
                    | (go_at_call 75; (with_reducible refine (OD.out _).mono ?_); rintro e w4 ⟨rfl, hb4⟩))
                  go_ret
                  exact ⟨ret_int (by rw [KO.out, MO.out, PO.out]; rfl), (below_then B2.out (B2.out).size hb4)⟩
            · have e2 : ¬ (s[0].toNat : Int) = 43 := fun e => p2 ((u8_eq s[0] 43 (by decide)).2 (by omega))
              have e2' : ((s[0].toNat : Int) == 43) = false := by simpa using e2
              have PO : Hid (phoneB s = false) := Lib.hid (by unfold phoneB; rw [byte_at s 0 j0]; simp [p2])
              clear p2
              go_enter Tryz.func63, Tryz.ntmps63
              go_wp2_with (first
                | (go_at_call 72; (with_reducible refine (CU.out).mono ?_); rintro e w1 ⟨rfl, n1, rfl⟩)
                | (go_at_call 73; (with_reducible refine (NM.out n1).mono ?_); rintro e w2 ⟨rfl, hb2⟩; have HS := Lib.hid (HO.out w2 (below_then (below_drewN (Below.refl _ w) n1) (Nat.le_refl _) hb2)); have B2 := Lib.hid (below_then (below_drewN (Below.refl _ w) n1) (Nat.le_refl _) hb2); clear hb2)
                | (go_at_call 74; (with_reducible refine (HS.out).mono ?_); rintro e w3 ⟨rfl, hb3⟩; have B3 := Lib.hid (below_then B2.out B2.out.size hb3); clear hb3)
                | fail)
              go_ret
              exact ⟨ret_int (by rw [KO.out, MO.out, PO.out]; rfl), B2.out⟩
          · have p1' : ¬ ((s.size : Int) ≤ 16) := by omega
            have PO : Hid (phoneB s = false) := Lib.hid (by unfold phoneB; simp [p1])
            go_enter Tryz.func63, Tryz.ntmps63
            go_wp2_with (first
              | (go_at_call 72; (with_reducible refine (CU.out).mono ?_); rintro e w1 ⟨rfl, n1, rfl⟩)
              | (go_at_call 73; (with_reducible refine (NM.out n1).mono ?_); rintro e w2 ⟨rfl, hb2⟩; have HS := Lib.hid (HO.out w2 (below_then (below_drewN (Below.refl _ w) n1) (Nat.le_refl _) hb2)); have B2 := Lib.hid (below_then (below_drewN (Below.refl _ w) n1) (Nat.le_refl _) hb2); clear hb2)
              | (go_at_call 74; (with_reducible refine (HS.out).mono ?_); rintro e w3 ⟨rfl, hb3⟩; have B3 := Lib.hid (below_then B2.out B2.out.size hb3); clear hb3)
              | fail)
            go_ret
            exact ⟨ret_int (by rw [KO.out, MO.out, PO.out]; rfl), B2.out⟩
        · have p0' : ¬ ((9 : Int) ≤ s.size) := by omega
          have PO : Hid (phoneB s = false) := Lib.hid (by unfold phoneB; simp [p0])
          go_enter Tryz.func63, Tryz.ntmps63
          go_wp2_with (first
            | (go_at_call 72; (with_reducible refine (CU.out).mono ?_); rintro e w1 ⟨rfl, n1, rfl⟩)
            | (go_at_call 73; (with_reducible refine (NM.out n1).mono ?_); rintro e w2 ⟨rfl, hb2⟩; have HS := Lib.hid (HO.out w2 (below_then (below_drewN (Below.refl _ w) n1) (Nat.le_refl _) hb2)); have B2 := Lib.hid (below_then (below_drewN (Below.refl _ w) n1) (Nat.le_refl _) hb2); clear hb2)
            | (go_at_call 74; (with_reducible refine (HS.out).mono ?_); rintro e w3 ⟨rfl, hb3⟩; have B3 := Lib.hid (below_then B2.out B2.out.size hb3); clear hb3)
            | fail)
          go_ret
          exact ⟨ret_int (by rw [KO.out, MO.out, PO.out]; rfl), B2.out⟩
      · cases b3
        · have MO : Hid (mailB s = false) := Lib.hid (by unfold mailB; rw [H3.out]; simp)
          by_cases p0 : 9 ≤ s.size
          · have p0' : (9 : Int) ≤ s.size := by omega
            have j0 : 0 < s.size := by omega
            have j1 : 1 < s.size := by omega
            have j1' : (1 : Int) < s.size := by omega
            by_cases p1 : s.size ≤ 16
            · have p1' : (s.size : Int) ≤ 16 := by omega
              by_cases p2 : s[0] = 43
              · have e2 : (s[0].toNat : Int) = 43 := by rw [p2]; rfl
                have e2' : ((s[0].toNat : Int) == 43) = true := by rw [e2]; rfl
                by_cases p3 : s[1] = 48
                · have e3 : (s[1].toNat : Int) = 48 := by rw [p3]; rfl
                  have e3' : ((s[1].toNat : Int) != 48) = false := by rw [e3]; rfl
                  have PO : Hid (phoneB s = false) := Lib.hid (by unfold phoneB; rw [byte_at s 1 j1]; simp [p3])
                  clear p2 p3
                  go_enter Tryz.func63, Tryz.ntmps63
                  go_wp2_with (first
                    | (go_at_call 72; (with_reducible refine (CU.out).mono ?_); rintro e w1 ⟨rfl, n1, rfl⟩)
                    | (go_at_call 73; (with_reducible refine (NM.out n1).mono ?_); rintro e w2 ⟨rfl, hb2⟩; have HS := Lib.hid (HO.out w2 (below_then (below_drewN (Below.refl _ w) n1) (Nat.le_refl _) hb2)); have B2 := Lib.hid (below_then (below_drewN (Below.refl _ w) n1) (Nat.le_refl _) hb2); clear hb2)
                    | (go_at_call 74; (with_reducible refine (HS.out).mono ?_); rintro e w3 ⟨rfl, hb3⟩; have B3 := Lib.hid (below_then B2.out B2.out.size hb3); clear hb3)
                    | fail)
                  go_ret
                  exact ⟨ret_int (by rw [KO.out, MO.out, PO.out]; rfl), B3.out⟩
                · have e3 : ¬ (s[1].toNat : Int) = 48 := fun e => p3 ((u8_eq s[1] 48 (by decide)).2 (by omega))
                  have e3' : ((s[1].toNat : Int) != 48) = true := by simpa using e3
                  obtain ⟨on, hon⟩ : ∃ b, onlyB digB (s.extract 1 s.size) = b := ⟨_, rfl⟩
                  have PO : Hid (phoneB s = on) := Lib.hid (by unfold phoneB; rw [byte_at s 1 j1, byte_at s 0 j0, hon]; simp [p0, p1, p2, p3])
                  clear p2 p3
                  have OD := fun w => only_dig (s.extract 1 s.size) w
                  rw [hon] at OD
                  have OD := Lib.hid OD
                  clear hon
                  cases on
                  · go_enter Tryz.func63, Tryz.ntmps63
                    go_wp2_with (first
                      | (go_at_call 72; (with_reducible refine (CU.out).mono ?_); rintro e w1 ⟨rfl, n1, rfl⟩)
                      | (go_at_call 73; (with_reducible refine (NM.out n1).mono ?_); rintro e w2 ⟨rfl, hb2⟩; have HS := Lib.hid (HO.out w2 (below_then (below_drewN (Below.refl _ w) n1) (Nat.le_refl _) hb2)); have B2 := Lib.hid (below_then (below_drewN (Below.refl _ w) n1) (Nat.le_refl _) hb2); clear hb2)
                      | (go_at_call 74; (with_reducible refine (HS.out).mono ?_); rintro e w3 ⟨rfl, hb3⟩; have B3 := Lib.hid (below_then B2.out B2.out.size hb3); clear hb3)
                      | (go_at_call 75; (with_reducible refine (OD.out _).mono ?_); rintro e w4 ⟨rfl, hb4⟩))
                    go_ret
                    exact ⟨ret_int (by rw [KO.out, MO.out, PO.out]; rfl), (below_then B3.out (B3.out).size hb4)⟩
                  · go_enter Tryz.func63, Tryz.ntmps63
                    go_wp2_with (first
                      | (go_at_call 72; (with_reducible refine (CU.out).mono ?_); rintro e w1 ⟨rfl, n1, rfl⟩)
                      | (go_at_call 73; (with_reducible refine (NM.out n1).mono ?_); rintro e w2 ⟨rfl, hb2⟩; have HS := Lib.hid (HO.out w2 (below_then (below_drewN (Below.refl _ w) n1) (Nat.le_refl _) hb2)); have B2 := Lib.hid (below_then (below_drewN (Below.refl _ w) n1) (Nat.le_refl _) hb2); clear hb2)
                      | (go_at_call 74; (with_reducible refine (HS.out).mono ?_); rintro e w3 ⟨rfl, hb3⟩; have B3 := Lib.hid (below_then B2.out B2.out.size hb3); clear hb3)
                      | (go_at_call 75; (with_reducible refine (OD.out _).mono ?_); rintro e w4 ⟨rfl, hb4⟩))
                    go_ret
                    exact ⟨ret_int (by rw [KO.out, MO.out, PO.out]; rfl), (below_then B3.out (B3.out).size hb4)⟩
              · have e2 : ¬ (s[0].toNat : Int) = 43 := fun e => p2 ((u8_eq s[0] 43 (by decide)).2 (by omega))
                have e2' : ((s[0].toNat : Int) == 43) = false := by simpa using e2
                have PO : Hid (phoneB s = false) := Lib.hid (by unfold phoneB; rw [byte_at s 0 j0]; simp [p2])
                clear p2
                go_enter Tryz.func63, Tryz.ntmps63
                go_wp2_with (first
                  | (go_at_call 72; (with_reducible refine (CU.out).mono ?_); rintro e w1 ⟨rfl, n1, rfl⟩)
                  | (go_at_call 73; (with_reducible refine (NM.out n1).mono ?_); rintro e w2 ⟨rfl, hb2⟩; have HS := Lib.hid (HO.out w2 (below_then (below_drewN (Below.refl _ w) n1) (Nat.le_refl _) hb2)); have B2 := Lib.hid (below_then (below_drewN (Below.refl _ w) n1) (Nat.le_refl _) hb2); clear hb2)
                  | (go_at_call 74; (with_reducible refine (HS.out).mono ?_); rintro e w3 ⟨rfl, hb3⟩; have B3 := Lib.hid (below_then B2.out B2.out.size hb3); clear hb3)
                  | fail)
                go_ret
                exact ⟨ret_int (by rw [KO.out, MO.out, PO.out]; rfl), B3.out⟩
            · have p1' : ¬ ((s.size : Int) ≤ 16) := by omega
              have PO : Hid (phoneB s = false) := Lib.hid (by unfold phoneB; simp [p1])
              go_enter Tryz.func63, Tryz.ntmps63
              go_wp2_with (first
                | (go_at_call 72; (with_reducible refine (CU.out).mono ?_); rintro e w1 ⟨rfl, n1, rfl⟩)
                | (go_at_call 73; (with_reducible refine (NM.out n1).mono ?_); rintro e w2 ⟨rfl, hb2⟩; have HS := Lib.hid (HO.out w2 (below_then (below_drewN (Below.refl _ w) n1) (Nat.le_refl _) hb2)); have B2 := Lib.hid (below_then (below_drewN (Below.refl _ w) n1) (Nat.le_refl _) hb2); clear hb2)
                | (go_at_call 74; (with_reducible refine (HS.out).mono ?_); rintro e w3 ⟨rfl, hb3⟩; have B3 := Lib.hid (below_then B2.out B2.out.size hb3); clear hb3)
                | fail)
              go_ret
              exact ⟨ret_int (by rw [KO.out, MO.out, PO.out]; rfl), B3.out⟩
          · have p0' : ¬ ((9 : Int) ≤ s.size) := by omega
            have PO : Hid (phoneB s = false) := Lib.hid (by unfold phoneB; simp [p0])
            go_enter Tryz.func63, Tryz.ntmps63
            go_wp2_with (first
              | (go_at_call 72; (with_reducible refine (CU.out).mono ?_); rintro e w1 ⟨rfl, n1, rfl⟩)
              | (go_at_call 73; (with_reducible refine (NM.out n1).mono ?_); rintro e w2 ⟨rfl, hb2⟩; have HS := Lib.hid (HO.out w2 (below_then (below_drewN (Below.refl _ w) n1) (Nat.le_refl _) hb2)); have B2 := Lib.hid (below_then (below_drewN (Below.refl _ w) n1) (Nat.le_refl _) hb2); clear hb2)
              | (go_at_call 74; (with_reducible refine (HS.out).mono ?_); rintro e w3 ⟨rfl, hb3⟩; have B3 := Lib.hid (below_then B2.out B2.out.size hb3); clear hb3)
              | fail)
            go_ret
            exact ⟨ret_int (by rw [KO.out, MO.out, PO.out]; rfl), B3.out⟩
        · have MO : Hid (mailB s = true) := Lib.hid (by unfold mailB; rw [H0.out, H2.out, H3.out]; simp [q1])
          go_enter Tryz.func63, Tryz.ntmps63
          go_wp2_with (first
            | (go_at_call 72; (with_reducible refine (CU.out).mono ?_); rintro e w1 ⟨rfl, n1, rfl⟩)
            | (go_at_call 73; (with_reducible refine (NM.out n1).mono ?_); rintro e w2 ⟨rfl, hb2⟩; have HS := Lib.hid (HO.out w2 (below_then (below_drewN (Below.refl _ w) n1) (Nat.le_refl _) hb2)); have B2 := Lib.hid (below_then (below_drewN (Below.refl _ w) n1) (Nat.le_refl _) hb2); clear hb2)
            | (go_at_call 74; (with_reducible refine (HS.out).mono ?_); rintro e w3 ⟨rfl, hb3⟩; have B3 := Lib.hid (below_then B2.out B2.out.size hb3); clear hb3)
            | fail)
          go_ret
          exact ⟨ret_int (by rw [KO.out, MO.out]; rfl), B3.out⟩
    · have q1' : ¬ ((s.size : Int) ≤ 40) := by omega
      have MO : Hid (mailB s = false) := Lib.hid (by unfold mailB; simp [q1])
      have p0' : (9 : Int) ≤ s.size := by omega
      have p1' : ¬ ((s.size : Int) ≤ 16) := by omega
      have PO : Hid (phoneB s = false) := Lib.hid (by unfold phoneB; simp [show ¬ s.size ≤ 16 by omega])
      go_enter Tryz.func63, Tryz.ntmps63
      go_wp2_with (first
        | (go_at_call 72; (with_reducible refine (CU.out).mono ?_); rintro e w1 ⟨rfl, n1, rfl⟩)
        | (go_at_call 73; (with_reducible refine (NM.out n1).mono ?_); rintro e w2 ⟨rfl, hb2⟩; have HS := Lib.hid (HO.out w2 (below_then (below_drewN (Below.refl _ w) n1) (Nat.le_refl _) hb2)); have B2 := Lib.hid (below_then (below_drewN (Below.refl _ w) n1) (Nat.le_refl _) hb2); clear hb2)
        | (go_at_call 74; (with_reducible refine (HS.out).mono ?_); rintro e w3 ⟨rfl, hb3⟩; have B3 := Lib.hid (below_then B2.out B2.out.size hb3); clear hb3)
        | fail)
      go_ret
      exact ⟨ret_int (by rw [KO.out, MO.out, PO.out]; rfl), (below_drewN (Below.refl w.heap.size w) n1)⟩
end Go.Proofs.YtkihleecjgoipaaGreatDoor
