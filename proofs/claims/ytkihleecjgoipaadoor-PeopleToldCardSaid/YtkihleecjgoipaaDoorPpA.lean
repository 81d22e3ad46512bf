/- people's small functions: ones, within, key, has, free. -/
import Derived.Test.YtkihleecjgoipaaDoorPpP
import Derived.BigQuiet
namespace Go.Proofs.YtkihleecjgoipaaDoor
open Go.RowKit Go.Maps

set_option maxRecDepth 100000 in
theorem ones_any (s : ByteArray) (hs : s.size ≤ 4000000000) (w : World) (hm : ML w) : Calls Tryd.prog 43 #[.string s] w fun e w' => e = .returned (.bool (onesB s)) ∧ Below w.heap.size w w' := by
  have K := Lib.hid (kind_any s hs w hm)
  have O : Hid (onesB s = decide (kindOf s = 1)) := Lib.hid rfl
  generalize onesB s = b at *
  generalize kindOf s = k at *
  clear hm
  go_enter Tryd.func43, Tryd.ntmps43
  go_wp2_with (go_at_call 69; (with_reducible refine (K.out).mono ?_); rintro e w2 ⟨rfl, b2⟩)
  go_ret
  exact ⟨ret_bool (by rw [O.out, Bool.eq_iff_iff, beq_iff_eq, decide_eq_true_eq]; omega), b2⟩
set_option maxRecDepth 100000 in
theorem within_any (a b n : Int) (w : World) : Calls Tryd.prog 38 #[.int .i64 a, .int .i64 b, .int .i64 n] w fun e w' => e = .returned (.bool (decide (a ≤ n) && decide (n ≤ b))) ∧ w' = w := by
  by_cases h1 : a ≤ n <;> by_cases h2 : n ≤ b
  all_goals
    go_enter Tryd.func38, Tryd.ntmps38
    go_wp2_with fail
    go_ret
    exact ⟨ret_bool (by simp [h1, h2]), rfl⟩
set_option maxRecDepth 100000 in
theorem key_any (s c : ByteArray) (w : World) : Calls Tryd.prog 44 #[.string s, .string c] w fun e w' => e = .returned (.bool (keyB s c)) ∧ w' = w := by
  have W := Lib.hid (within_any 1 16 s.size w)
  have O : Hid (keyB s c = ((decide ((1 : Int) ≤ s.size) && decide ((s.size : Int) ≤ 16)) && decide (c.size = 32))) := Lib.hid (by
    have e1 : decide ((1 : Int) ≤ s.size) = decide (1 ≤ s.size) := by rw [decide_eq_decide]; omega
    have e2 : decide ((s.size : Int) ≤ 16) = decide (s.size ≤ 16) := by rw [decide_eq_decide]; omega
    rw [e1, e2]
    rfl)
  generalize keyB s c = b at *
  obtain ⟨b1, hb1⟩ : ∃ b1, (decide ((1 : Int) ≤ s.size) && decide ((s.size : Int) ≤ 16)) = b1 := ⟨_, rfl⟩
  rw [hb1] at W O
  clear hb1
  cases b1
  · go_enter Tryd.func44, Tryd.ntmps44
    go_wp2_with (go_at_call 38; (with_reducible refine (W.out).mono ?_); rintro e w2 ⟨rfl, rfl⟩)
    go_ret
    exact ⟨ret_bool (by rw [O.out]; simp), rfl⟩
  · go_enter Tryd.func44, Tryd.ntmps44
    go_wp2_with (go_at_call 38; (with_reducible refine (W.out).mono ?_); rintro e w2 ⟨rfl, rfl⟩)
    go_ret
    exact ⟨ret_bool (by rw [O.out, Bool.true_and, Bool.eq_iff_iff, beq_iff_eq, decide_eq_true_eq]; omega), rfl⟩
/-- The contacts of a person that lies in a block. -/
def CsAt (w : World) (g o : Nat) (x : Per.R) : Prop := ∀ j, j < x.cs.length → w.cell? ⟨g, o + j, none⟩ = some (.string (x.cs.getD j ByteArray.empty))
theorem CsAt.of {w : World} {g o : Nat} {x : Per.R} (h0 : w.cell? ⟨g, o, none⟩ = some (.string x.c0)) (h1 : w.cell? ⟨g, o + 1, none⟩ = some (.string x.c1)) (h2 : w.cell? ⟨g, o + 2, none⟩ = some (.string x.c2)) (h3 : w.cell? ⟨g, o + 3, none⟩ = some (.string x.c3)) (h4 : w.cell? ⟨g, o + 4, none⟩ = some (.string x.c4)) : CsAt w g o x := fun j hj => by
  have hj5 : j < 5 := hj
  have hc : j = 0 ∨ j = 1 ∨ j = 2 ∨ j = 3 ∨ j = 4 := by omega
  rcases hc with rfl | rfl | rfl | rfl | rfl
  · exact h0
  · exact h1
  · exact h2
  · exact h3
  · exact h4
theorem cont_dec (zs : List ByteArray) (x : ByteArray) : Lib.containsS zs x = zs.any (fun c => decide (c = x)) := by
  rw [Bool.eq_iff_iff, Lib.containsS_iff, List.any_eq_true]
  constructor
  · intro h
    exact ⟨x, h, decide_eq_true rfl⟩
  · rintro ⟨c, h1, h2⟩
    rw [← of_decide_eq_true h2]
    exact h1
set_option maxRecDepth 100000 in
set_option maxHeartbeats 4000000 in
theorem has_any (x : Per.R) (m : ByteArray) (w : World) : Calls Tryd.prog 36 #[x.agg, .string m] w fun e w' => e = .returned (.bool (hasB x m)) ∧ Below w.heap.size w w' := by
  have hb : Below w.heap.size w (w.alloc x.obj) := (Below.refl _ _).alloc (Nat.le_refl _) _
  obtain ⟨c0, c1, c2, c3, c4, c5, c6, c7, c8, c9, c10, c11, c12⟩ := Per.box w x
  have HB := Lib.hid hb
  have CO := Lib.hid (Tryd.slices_Contains_string w.heap.size 8 5 5 x.cs m (w.alloc x.obj) (Nat.le_refl 5) (by omega) (CsAt.of c8 c9 c10 c11 c12))
  have e5 : x.cs.take 5 = x.cs := rfl
  rw [e5, cont_dec] at CO
  have HH : Hid (hasB x m = (!m.toList.isEmpty && x.cs.any (fun c => decide (c = m)))) := Lib.hid (by rw [emp_dec]; rfl)
  generalize hasB x m = hb2 at *
  generalize x.cs.any (fun c => decide (c = m)) = b at *
  clear hb e5
  unfold Per.R.obj at *
  unfold Per.R.agg
  cases hv : m.toList.isEmpty
  · rw [hv] at HH
    go_enter Tryd.func36, Tryd.ntmps36
    go_wp2_with ((go_at_call 67; (with_reducible refine (CO.out).mono ?_); rintro e w3 ⟨rfl, rfl⟩))
    go_ret
    exact ⟨by rw [HH.out]; rfl, HB.out⟩
  · rw [hv] at HH
    go_enter Tryd.func36, Tryd.ntmps36
    go_wp2_with fail
    go_ret
    exact ⟨by rw [HH.out]; rfl, HB.out⟩
set_option maxRecDepth 100000 in
set_option maxHeartbeats 4000000 in
theorem free_any (x : Per.R) (m : ByteArray) (hs : m.size ≤ 4000000000) (t : Bool) (w : World) (hm : ML w) : Calls Tryd.prog 71 #[x.agg, .string m, .bool t] w fun e w' => e = .returned (.int .i64 (freeE x m t)) ∧ Below w.heap.size w w' := by
  have hb : Below w.heap.size w (w.alloc x.obj) := (Below.refl _ _).alloc (Nat.le_refl _) _
  have ON := Lib.hid (ones_any m hs (w.alloc x.obj) (hm.below hb))
  have HA := Lib.hid (fun w2 => has_any x m w2)
  have BX := Lib.hid (fun w2 b => (Per.box_later (w := w) (w2 := w2) x b).1)
  have HB := Lib.hid hb
  have F : Hid (freeE x m t = if onesB m = false then 1 else if (t || hasB x m) = true then 14 else 0) := Lib.hid rfl
  generalize freeE x m t = r at *
  generalize hasB x m = h at *
  generalize onesB m = o at *
  clear hb hm
  unfold Per.R.obj at *
  unfold Per.R.agg at *
  cases o
  · go_enter Tryd.func71, Tryd.ntmps71
    go_wp2_with (go_at_call 43; (with_reducible refine (ON.out).mono ?_); rintro e w2 ⟨rfl, b2⟩; obtain ⟨k0, k1, k2, k3, k4, k5, k6, k7, k8, k9, k10, k11, k12⟩ := BX.out w2 b2; have B2 := Lib.hid (HB.out.trans (b2.mono HB.out.size)); clear b2)
    go_ret
    exact ⟨ret_int (by rw [F.out]; rfl), B2.out⟩
  · cases t
    · go_enter Tryd.func71, Tryd.ntmps71
      go_wp2_with (first
        | (go_at_call 43; (with_reducible refine (ON.out).mono ?_); rintro e w2 ⟨rfl, b2⟩; obtain ⟨k0, k1, k2, k3, k4, k5, k6, k7, k8, k9, k10, k11, k12⟩ := BX.out w2 b2; have B2 := Lib.hid (HB.out.trans (b2.mono HB.out.size)); clear b2)
        | (go_at_call 36; (with_reducible refine (HA.out _).mono ?_); rintro e w3 ⟨rfl, b3⟩; have B3 := Lib.hid (B2.out.trans (b3.mono B2.out.size)); clear b3))
      all_goals go_ret
      all_goals exact ⟨ret_int (by rw [F.out]; simp_all), B3.out⟩
    · go_enter Tryd.func71, Tryd.ntmps71
      go_wp2_with (first
        | (go_at_call 43; (with_reducible refine (ON.out).mono ?_); rintro e w2 ⟨rfl, b2⟩; obtain ⟨k0, k1, k2, k3, k4, k5, k6, k7, k8, k9, k10, k11, k12⟩ := BX.out w2 b2; have B2 := Lib.hid (HB.out.trans (b2.mono HB.out.size)); clear b2))
      go_ret
      exact ⟨ret_int (by rw [F.out]; rfl), B2.out⟩
end Go.Proofs.YtkihleecjgoipaaDoor
