/- cases.vouched, right, Check. -/
import Derived.Test.YtcidllckmidkoaaDoorCapP
namespace Go.Proofs.YtcidllckmidkoaaDoor
open Go.RowKit Go.Maps

/-- How many contacts stand ahead of the first empty place, if all are right. -/
def vrun : List ByteArray → List ByteArray → Option Nat
  | seen, [] => some seen.length
  | seen, v :: r => if nonE v = false then some seen.length else if kindOf v ≠ 1 ∨ Lib.containsS seen v = true then none else vrun (seen ++ [v]) r
def vouN (c : Cas) : Int := match vrun [] c.vs with | none => 0 | some n => (n : Nat)
def vouB (c : Cas) : Bool := match vrun [] c.vs with | none => false | some n => (n : Int) == (cntB c : Nat)
def rightC (c : Cas) : Bool := vouB c && decide (1 ≤ c.acc) && decide (c.acc ≤ 99) && decide (0 ≤ c.opened) && decide (c.opened ≤ 1099511627776) && (c.ripe == clk c.opened 200) && decide (1 ≤ c.quorum) && decide (c.quorum ≤ 5)
def smallC (c : Cas) : Prop := ∀ v ∈ c.vs, v.size ≤ 4000000000
theorem vrun_stop (seen r : List ByteArray) (v : ByteArray) (h : nonE v = false) : vrun seen (v :: r) = some seen.length := by
  rw [vrun, if_pos h]
theorem vrun_bad (seen r : List ByteArray) (v : ByteArray) (h : nonE v = true) (hk : kindOf v ≠ 1 ∨ Lib.containsS seen v = true) : vrun seen (v :: r) = none := by
  rw [vrun, if_neg (by simp [h]), if_pos hk]
theorem vrun_on (seen r : List ByteArray) (v : ByteArray) (h : nonE v = true) (hk : kindOf v = 1) (hc : Lib.containsS seen v = false) : vrun seen (v :: r) = vrun (seen ++ [v]) r := by
  rw [vrun, if_neg (by simp [h]), if_neg (by simp [hk, hc])]
theorem vou_some {c : Cas} {n : Nat} (h : vrun [] c.vs = some n) : vouN c = (n : Nat) ∧ vouB c = ((n : Int) == (cntB c : Nat)) := by
  unfold vouN vouB
  rw [h]
  exact ⟨rfl, rfl⟩
theorem vou_none {c : Cas} (h : vrun [] c.vs = none) : vouN c = 0 ∧ vouB c = false := by
  unfold vouN vouB
  rw [h]
  exact ⟨rfl, rfl⟩
set_option maxHeartbeats 8000000 in
set_option maxRecDepth 100000 in
theorem vouched_any (c : Cas) (hs : smallC c) (w : World) (hm : ML w) : Calls Tryd.prog 36 #[c.agg] w fun e w' => e = .returned (.tuple #[.int .i64 (vouN c), .bool (vouB c)]) ∧ Below w.heap.size w w' := by
  obtain ⟨c0, c1, c2, c3, c4, c5, c6, c7, c8⟩ := cas_box w c
  have hb : Below w.heap.size w (w.alloc c.obj) := (Below.refl _ _).alloc (Nat.le_refl _) _
  have HB := Lib.hid hb
  have hlt : w.heap.size < (w.alloc c.obj).heap.size := by simp
  have KD : Hid (∀ v ∈ c.vs, ∀ w2, Below w.heap.size w w2 → Calls Tryd.prog 44 #[.string v] w2 fun e w3 => e = .returned (.int .i64 (kindOf v : Nat)) ∧ Below w2.heap.size w2 w3) := Lib.hid (fun v hv w2 b => kind_any v (hs v hv) w2 (hm.below b))
  have CO : Hid (∀ (k : Nat) (v : ByteArray) (w2 : World), k ≤ 5 → Below (w.alloc c.obj).heap.size (w.alloc c.obj) w2 → Calls Tryd.prog 25 #[.slice (some ⟨w.heap.size, 4, none⟩) k k, .string v] w2 fun e w3 => e = .returned (.bool (Lib.containsS (c.vs.take k) v)) ∧ w3 = w2) := Lib.hid (fun k v w2 hk b =>
    Tryd.slices_Contains_string w.heap.size 4 k k c.vs v w2 hk (by omega) (fun j hj => (b.cell (p := ⟨w.heap.size, 4 + j, none⟩) hlt).trans (vs_cells w c j (by have h5 : c.vs.length = 5 := rfl; omega))))
  have CT : Hid (∀ w2, Below w.heap.size w w2 → Calls Tryd.prog 10 #[c.agg] w2 fun e w3 => e = .returned (.int .i64 (cntB c : Nat)) ∧ Below w.heap.size w w3) := Lib.hid (fun w2 b => (count_any c w2).mono fun e w3 h => ⟨h.1, b.trans (h.2.mono b.size)⟩)
  have BX := Lib.hid (fun w2 b => box_later (w := w) (w2 := w2) c b)
  have BR := Lib.hid (Below.refl (w.alloc c.obj).heap.size (w.alloc c.obj))
  obtain ⟨R, hR⟩ : ∃ R : Nat → Option Nat, ∀ k, R k = vrun (c.vs.take k) (c.vs.drop k) := ⟨_, fun _ => rfl⟩
  have HR := Lib.hid hR
  have HZ : Hid (vrun [] c.vs = R 0) := Lib.hid (by rw [hR]; rfl)
  have VS := Lib.hid (fun n (h : vrun [] c.vs = some n) => vou_some h)
  have VN := Lib.hid (fun (h : vrun [] c.vs = none) => vou_none h)
  clear hb hR hs hm hlt
  generalize vouN c = vn at *
  generalize vouB c = vb at *
  generalize cntB c = ct at *
  unfold Cas.obj at *
  unfold Cas.agg at CT ⊢
  go_enter Tryd.func36, Tryd.ntmps36
  go_wp2_with fail
  go_step3
  go_wp2_with fail
  go_step3
  go_wp2_with fail
  go_loopw [4, 9] (fun n i wr => ∃ k : Nat, k ≤ 5 ∧ i = .int .i64 k ∧ n = .int .i64 k ∧ R 0 = R k ∧ Below (w.alloc c.obj).heap.size (w.alloc c.obj) wr) (fun _ i _ => 5 - (intOf i).toNat)
  case atStart => exact ⟨0, by omega, rfl, rfl, rfl, BR.out⟩
  case round =>
    obtain ⟨k, hk, rfl, rfl, hR0, bw⟩ := hrel
    have BW := Lib.hid bw
    have WB := Lib.hid (HB.out.trans (bw.mono HB.out.size))
    have HK := Lib.hid hR0
    obtain ⟨⟨y0, y1, y2, y3, y4, y5, y6, y7, y8⟩, yf⟩ := BX.out wr bw
    clear bw hR0
    by_cases h5 : k = 5
    · as_aux_lemma =>
        subst h5
        have hv : vrun [] c.vs = some 5 := by rw [HZ.out, HK.out, HR.out]; rfl
        obtain ⟨e1, e2⟩ := VS.out 5 hv
        subst e1 e2
        clear hv
        go_wp2_with ((go_at_call 10; (with_reducible refine (CT.out _ WB.out).mono ?_); rintro e w3 ⟨rfl, b3⟩))
        try rw [Exit.noGoto_ret]
        go_ret2
        exact ⟨rfl, b3⟩
    · have hc : k = 0 ∨ k = 1 ∨ k = 2 ∨ k = 3 ∨ k = 4 := by omega
      clear h5 hk
      rcases hc with rfl | rfl | rfl | rfl | rfl
      · as_aux_lemma =>
          have hmem : c.v0 ∈ c.vs := by simp [Cas.vs]
          have hR1 : R 0 = vrun (c.vs.take 0) (c.v0 :: c.vs.drop 1) := HR.out 0
          have hR2 : R 1 = vrun (c.vs.take 0 ++ [c.v0]) (c.vs.drop 1) := HR.out 1
          have KV := Lib.hid (KD.out c.v0 hmem)
          have CV := Lib.hid (fun w2 => CO.out 0 c.v0 w2 (by omega))
          have hz : vrun [] c.vs = R 0 := by rw [HZ.out, HK.out]
          have h0 : (c.vs.take 0).length = 0 := rfl
          cases hv : nonE c.v0
          · have hvr : vrun [] c.vs = some 0 := by rw [hz, hR1, vrun_stop _ _ _ hv, h0]
            obtain ⟨e1, e2⟩ := VS.out 0 hvr
            subst e1 e2
            unfold nonE at hv
            have hv' : c.v0.toList.isEmpty = true := by simpa using hv
            clear hvr hz hR1 hR2 hmem hv h0
            go_wp2_with (first
              | (simp only [idx0])
              | (go_at_call 10; (with_reducible refine (CT.out _ WB.out).mono ?_); rintro e w3 ⟨rfl, b3⟩))
            try rw [Exit.noGoto_ret]
            go_ret2
            exact ⟨rfl, b3⟩
          · have hv1 := hv
            unfold nonE at hv1
            have hv' : c.v0.toList.isEmpty = false := by simpa using hv1
            by_cases hk1 : kindOf c.v0 = 1
            · rw [hk1] at KV
              cases hct : Lib.containsS (c.vs.take 0) c.v0
              · have hS : Hid (R 0 = R 1) := Lib.hid (by rw [HK.out, hR1, hR2, vrun_on _ _ _ hv hk1 hct])
                rw [hct] at CV
                clear hz hR1 hR2 hmem hv hv1 h0 hk1 hct
                go_wp2_with (first
                  | (simp only [idx0])
                  | (go_at_call 44; (with_reducible refine (KV.out _ WB.out).mono ?_); rintro e w3 ⟨rfl, b3⟩; have B3 := Lib.hid (BW.out.trans (b3.mono BW.out.size)); clear b3)
                  | (go_at_call 25; refine (CV.out _ B3.out).mono ?_; rintro e w4 ⟨rfl, rfl⟩))
                go_roundw
                case rel => exact ⟨1, by omega, rfl, rfl, hS.out, B3.out⟩
                case measure => simp [intOf]
              · have hvr : vrun [] c.vs = none := by rw [hz, hR1, vrun_bad _ _ _ hv (.inr hct)]
                obtain ⟨e1, e2⟩ := VN.out hvr
                subst e1 e2
                rw [hct] at CV
                clear hvr hz hR1 hR2 hmem hv hv1 h0 hk1 hct
                go_wp2_with (first
                  | (simp only [idx0])
                  | (go_at_call 44; (with_reducible refine (KV.out _ WB.out).mono ?_); rintro e w3 ⟨rfl, b3⟩; have B3 := Lib.hid (BW.out.trans (b3.mono BW.out.size)); have B4 := Lib.hid (WB.out.trans (b3.mono WB.out.size)); clear b3)
                  | (go_at_call 25; refine (CV.out _ B3.out).mono ?_; rintro e w4 ⟨rfl, rfl⟩))
                try rw [Exit.noGoto_ret]
                go_ret2
                exact ⟨rfl, B4.out⟩
            · have hvr : vrun [] c.vs = none := by rw [hz, hR1, vrun_bad _ _ _ hv (.inl hk1)]
              obtain ⟨e1, e2⟩ := VN.out hvr
              subst e1 e2
              generalize kindOf c.v0 = kq at *
              have hk2 : ¬ ((kq : Nat) : Int) = 1 := by omega
              clear hvr hz hR1 hR2 hmem hv hv1 h0 hk1
              go_wp2_with (first
                | (simp only [idx0])
                | (go_at_call 44; (with_reducible refine (KV.out _ WB.out).mono ?_); rintro e w3 ⟨rfl, b3⟩; have B4 := Lib.hid (WB.out.trans (b3.mono WB.out.size)); clear b3))
              try rw [Exit.noGoto_ret]
              go_ret2
              exact ⟨rfl, B4.out⟩
      · as_aux_lemma =>
          have hmem : c.v1 ∈ c.vs := by simp [Cas.vs]
          have hR1 : R 1 = vrun (c.vs.take 1) (c.v1 :: c.vs.drop 2) := HR.out 1
          have hR2 : R 2 = vrun (c.vs.take 1 ++ [c.v1]) (c.vs.drop 2) := HR.out 2
          have KV := Lib.hid (KD.out c.v1 hmem)
          have CV := Lib.hid (fun w2 => CO.out 1 c.v1 w2 (by omega))
          have hz : vrun [] c.vs = R 1 := by rw [HZ.out, HK.out]
          have h0 : (c.vs.take 1).length = 1 := rfl
          cases hv : nonE c.v1
          · have hvr : vrun [] c.vs = some 1 := by rw [hz, hR1, vrun_stop _ _ _ hv, h0]
            obtain ⟨e1, e2⟩ := VS.out 1 hvr
            subst e1 e2
            unfold nonE at hv
            have hv' : c.v1.toList.isEmpty = true := by simpa using hv
            clear hvr hz hR1 hR2 hmem hv h0
            go_wp2_with (first
              | (simp only [idx1])
              | (go_at_call 10; (with_reducible refine (CT.out _ WB.out).mono ?_); rintro e w3 ⟨rfl, b3⟩))
            try rw [Exit.noGoto_ret]
            go_ret2
            exact ⟨rfl, b3⟩
          · have hv1 := hv
            unfold nonE at hv1
            have hv' : c.v1.toList.isEmpty = false := by simpa using hv1
            by_cases hk1 : kindOf c.v1 = 1
            · rw [hk1] at KV
              cases hct : Lib.containsS (c.vs.take 1) c.v1
              · have hS : Hid (R 0 = R 2) := Lib.hid (by rw [HK.out, hR1, hR2, vrun_on _ _ _ hv hk1 hct])
                rw [hct] at CV
                clear hz hR1 hR2 hmem hv hv1 h0 hk1 hct
                go_wp2_with (first
                  | (simp only [idx1])
                  | (go_at_call 44; (with_reducible refine (KV.out _ WB.out).mono ?_); rintro e w3 ⟨rfl, b3⟩; have B3 := Lib.hid (BW.out.trans (b3.mono BW.out.size)); clear b3)
                  | (go_at_call 25; refine (CV.out _ B3.out).mono ?_; rintro e w4 ⟨rfl, rfl⟩))
                go_roundw
                case rel => exact ⟨2, by omega, rfl, rfl, hS.out, B3.out⟩
                case measure => simp [intOf]
              · have hvr : vrun [] c.vs = none := by rw [hz, hR1, vrun_bad _ _ _ hv (.inr hct)]
                obtain ⟨e1, e2⟩ := VN.out hvr
                subst e1 e2
                rw [hct] at CV
                clear hvr hz hR1 hR2 hmem hv hv1 h0 hk1 hct
                go_wp2_with (first
                  | (simp only [idx1])
                  | (go_at_call 44; (with_reducible refine (KV.out _ WB.out).mono ?_); rintro e w3 ⟨rfl, b3⟩; have B3 := Lib.hid (BW.out.trans (b3.mono BW.out.size)); have B4 := Lib.hid (WB.out.trans (b3.mono WB.out.size)); clear b3)
                  | (go_at_call 25; refine (CV.out _ B3.out).mono ?_; rintro e w4 ⟨rfl, rfl⟩))
                try rw [Exit.noGoto_ret]
                go_ret2
                exact ⟨rfl, B4.out⟩
            · have hvr : vrun [] c.vs = none := by rw [hz, hR1, vrun_bad _ _ _ hv (.inl hk1)]
              obtain ⟨e1, e2⟩ := VN.out hvr
              subst e1 e2
              generalize kindOf c.v1 = kq at *
              have hk2 : ¬ ((kq : Nat) : Int) = 1 := by omega
              clear hvr hz hR1 hR2 hmem hv hv1 h0 hk1
              go_wp2_with (first
                | (simp only [idx1])
                | (go_at_call 44; (with_reducible refine (KV.out _ WB.out).mono ?_); rintro e w3 ⟨rfl, b3⟩; have B4 := Lib.hid (WB.out.trans (b3.mono WB.out.size)); clear b3))
              try rw [Exit.noGoto_ret]
              go_ret2
              exact ⟨rfl, B4.out⟩
      · as_aux_lemma =>
          have hmem : c.v2 ∈ c.vs := by simp [Cas.vs]
          have hR1 : R 2 = vrun (c.vs.take 2) (c.v2 :: c.vs.drop 3) := HR.out 2
          have hR2 : R 3 = vrun (c.vs.take 2 ++ [c.v2]) (c.vs.drop 3) := HR.out 3
          have KV := Lib.hid (KD.out c.v2 hmem)
          have CV := Lib.hid (fun w2 => CO.out 2 c.v2 w2 (by omega))
          have hz : vrun [] c.vs = R 2 := by rw [HZ.out, HK.out]
          have h0 : (c.vs.take 2).length = 2 := rfl
          cases hv : nonE c.v2
          · have hvr : vrun [] c.vs = some 2 := by rw [hz, hR1, vrun_stop _ _ _ hv, h0]
            obtain ⟨e1, e2⟩ := VS.out 2 hvr
            subst e1 e2
            unfold nonE at hv
            have hv' : c.v2.toList.isEmpty = true := by simpa using hv
            clear hvr hz hR1 hR2 hmem hv h0
            go_wp2_with (first
              | (simp only [idx2])
              | (go_at_call 10; (with_reducible refine (CT.out _ WB.out).mono ?_); rintro e w3 ⟨rfl, b3⟩))
            try rw [Exit.noGoto_ret]
            go_ret2
            exact ⟨rfl, b3⟩
          · have hv1 := hv
            unfold nonE at hv1
            have hv' : c.v2.toList.isEmpty = false := by simpa using hv1
            by_cases hk1 : kindOf c.v2 = 1
            · rw [hk1] at KV
              cases hct : Lib.containsS (c.vs.take 2) c.v2
              · have hS : Hid (R 0 = R 3) := Lib.hid (by rw [HK.out, hR1, hR2, vrun_on _ _ _ hv hk1 hct])
                rw [hct] at CV
                clear hz hR1 hR2 hmem hv hv1 h0 hk1 hct
                go_wp2_with (first
                  | (simp only [idx2])
                  | (go_at_call 44; (with_reducible refine (KV.out _ WB.out).mono ?_); rintro e w3 ⟨rfl, b3⟩; have B3 := Lib.hid (BW.out.trans (b3.mono BW.out.size)); clear b3)
                  | (go_at_call 25; refine (CV.out _ B3.out).mono ?_; rintro e w4 ⟨rfl, rfl⟩))
                go_roundw
                case rel => exact ⟨3, by omega, rfl, rfl, hS.out, B3.out⟩
                case measure => simp [intOf]
              · have hvr : vrun [] c.vs = none := by rw [hz, hR1, vrun_bad _ _ _ hv (.inr hct)]
                obtain ⟨e1, e2⟩ := VN.out hvr
                subst e1 e2
                rw [hct] at CV
                clear hvr hz hR1 hR2 hmem hv hv1 h0 hk1 hct
                go_wp2_with (first
                  | (simp only [idx2])
                  | (go_at_call 44; (with_reducible refine (KV.out _ WB.out).mono ?_); rintro e w3 ⟨rfl, b3⟩; have B3 := Lib.hid (BW.out.trans (b3.mono BW.out.size)); have B4 := Lib.hid (WB.out.trans (b3.mono WB.out.size)); clear b3)
                  | (go_at_call 25; refine (CV.out _ B3.out).mono ?_; rintro e w4 ⟨rfl, rfl⟩))
                try rw [Exit.noGoto_ret]
                go_ret2
                exact ⟨rfl, B4.out⟩
            · have hvr : vrun [] c.vs = none := by rw [hz, hR1, vrun_bad _ _ _ hv (.inl hk1)]
              obtain ⟨e1, e2⟩ := VN.out hvr
              subst e1 e2
              generalize kindOf c.v2 = kq at *
              have hk2 : ¬ ((kq : Nat) : Int) = 1 := by omega
              clear hvr hz hR1 hR2 hmem hv hv1 h0 hk1
              go_wp2_with (first
                | (simp only [idx2])
                | (go_at_call 44; (with_reducible refine (KV.out _ WB.out).mono ?_); rintro e w3 ⟨rfl, b3⟩; have B4 := Lib.hid (WB.out.trans (b3.mono WB.out.size)); clear b3))
              try rw [Exit.noGoto_ret]
              go_ret2
              exact ⟨rfl, B4.out⟩
      · as_aux_lemma =>
          have hmem : c.v3 ∈ c.vs := by simp [Cas.vs]
          have hR1 : R 3 = vrun (c.vs.take 3) (c.v3 :: c.vs.drop 4) := HR.out 3
          have hR2 : R 4 = vrun (c.vs.take 3 ++ [c.v3]) (c.vs.drop 4) := HR.out 4
          have KV := Lib.hid (KD.out c.v3 hmem)
          have CV := Lib.hid (fun w2 => CO.out 3 c.v3 w2 (by omega))
          have hz : vrun [] c.vs = R 3 := by rw [HZ.out, HK.out]
          have h0 : (c.vs.take 3).length = 3 := rfl
          cases hv : nonE c.v3
          · have hvr : vrun [] c.vs = some 3 := by rw [hz, hR1, vrun_stop _ _ _ hv, h0]
            obtain ⟨e1, e2⟩ := VS.out 3 hvr
            subst e1 e2
            unfold nonE at hv
            have hv' : c.v3.toList.isEmpty = true := by simpa using hv
            clear hvr hz hR1 hR2 hmem hv h0
            go_wp2_with (first
              | (simp only [idx3])
              | (go_at_call 10; (with_reducible refine (CT.out _ WB.out).mono ?_); rintro e w3 ⟨rfl, b3⟩))
            try rw [Exit.noGoto_ret]
            go_ret2
            exact ⟨rfl, b3⟩
          · have hv1 := hv
            unfold nonE at hv1
            have hv' : c.v3.toList.isEmpty = false := by simpa using hv1
            by_cases hk1 : kindOf c.v3 = 1
            · rw [hk1] at KV
              cases hct : Lib.containsS (c.vs.take 3) c.v3
              · have hS : Hid (R 0 = R 4) := Lib.hid (by rw [HK.out, hR1, hR2, vrun_on _ _ _ hv hk1 hct])
                rw [hct] at CV
                clear hz hR1 hR2 hmem hv hv1 h0 hk1 hct
                go_wp2_with (first
                  | (simp only [idx3])
                  | (go_at_call 44; (with_reducible refine (KV.out _ WB.out).mono ?_); rintro e w3 ⟨rfl, b3⟩; have B3 := Lib.hid (BW.out.trans (b3.mono BW.out.size)); clear b3)
                  | (go_at_call 25; refine (CV.out _ B3.out).mono ?_; rintro e w4 ⟨rfl, rfl⟩))
                go_roundw
                case rel => exact ⟨4, by omega, rfl, rfl, hS.out, B3.out⟩
                case measure => simp [intOf]
              · have hvr : vrun [] c.vs = none := by rw [hz, hR1, vrun_bad _ _ _ hv (.inr hct)]
                obtain ⟨e1, e2⟩ := VN.out hvr
                subst e1 e2
                rw [hct] at CV
                clear hvr hz hR1 hR2 hmem hv hv1 h0 hk1 hct
                go_wp2_with (first
                  | (simp only [idx3])
                  | (go_at_call 44; (with_reducible refine (KV.out _ WB.out).mono ?_); rintro e w3 ⟨rfl, b3⟩; have B3 := Lib.hid (BW.out.trans (b3.mono BW.out.size)); have B4 := Lib.hid (WB.out.trans (b3.mono WB.out.size)); clear b3)
                  | (go_at_call 25; refine (CV.out _ B3.out).mono ?_; rintro e w4 ⟨rfl, rfl⟩))
                try rw [Exit.noGoto_ret]
                go_ret2
                exact ⟨rfl, B4.out⟩
            · have hvr : vrun [] c.vs = none := by rw [hz, hR1, vrun_bad _ _ _ hv (.inl hk1)]
              obtain ⟨e1, e2⟩ := VN.out hvr
              subst e1 e2
              generalize kindOf c.v3 = kq at *
              have hk2 : ¬ ((kq : Nat) : Int) = 1 := by omega
              clear hvr hz hR1 hR2 hmem hv hv1 h0 hk1
              go_wp2_with (first
                | (simp only [idx3])
                | (go_at_call 44; (with_reducible refine (KV.out _ WB.out).mono ?_); rintro e w3 ⟨rfl, b3⟩; have B4 := Lib.hid (WB.out.trans (b3.mono WB.out.size)); clear b3))
              try rw [Exit.noGoto_ret]
              go_ret2
              exact ⟨rfl, B4.out⟩
      · as_aux_lemma =>
          have hmem : c.v4 ∈ c.vs := by simp [Cas.vs]
          have hR1 : R 4 = vrun (c.vs.take 4) (c.v4 :: c.vs.drop 5) := HR.out 4
          have hR2 : R 5 = vrun (c.vs.take 4 ++ [c.v4]) (c.vs.drop 5) := HR.out 5
          have KV := Lib.hid (KD.out c.v4 hmem)
          have CV := Lib.hid (fun w2 => CO.out 4 c.v4 w2 (by omega))
          have hz : vrun [] c.vs = R 4 := by rw [HZ.out, HK.out]
          have h0 : (c.vs.take 4).length = 4 := rfl
          cases hv : nonE c.v4
          · have hvr : vrun [] c.vs = some 4 := by rw [hz, hR1, vrun_stop _ _ _ hv, h0]
            obtain ⟨e1, e2⟩ := VS.out 4 hvr
            subst e1 e2
            unfold nonE at hv
            have hv' : c.v4.toList.isEmpty = true := by simpa using hv
            clear hvr hz hR1 hR2 hmem hv h0
            go_wp2_with (first
              | (simp only [idx4])
              | (go_at_call 10; (with_reducible refine (CT.out _ WB.out).mono ?_); rintro e w3 ⟨rfl, b3⟩))
            try rw [Exit.noGoto_ret]
            go_ret2
            exact ⟨rfl, b3⟩
          · have hv1 := hv
            unfold nonE at hv1
            have hv' : c.v4.toList.isEmpty = false := by simpa using hv1
            by_cases hk1 : kindOf c.v4 = 1
            · rw [hk1] at KV
              cases hct : Lib.containsS (c.vs.take 4) c.v4
              · have hS : Hid (R 0 = R 5) := Lib.hid (by rw [HK.out, hR1, hR2, vrun_on _ _ _ hv hk1 hct])
                rw [hct] at CV
                clear hz hR1 hR2 hmem hv hv1 h0 hk1 hct
                go_wp2_with (first
                  | (simp only [idx4])
                  | (go_at_call 44; (with_reducible refine (KV.out _ WB.out).mono ?_); rintro e w3 ⟨rfl, b3⟩; have B3 := Lib.hid (BW.out.trans (b3.mono BW.out.size)); clear b3)
                  | (go_at_call 25; refine (CV.out _ B3.out).mono ?_; rintro e w4 ⟨rfl, rfl⟩))
                go_roundw
                case rel => exact ⟨5, by omega, rfl, rfl, hS.out, B3.out⟩
                case measure => simp [intOf]
              · have hvr : vrun [] c.vs = none := by rw [hz, hR1, vrun_bad _ _ _ hv (.inr hct)]
                obtain ⟨e1, e2⟩ := VN.out hvr
                subst e1 e2
                rw [hct] at CV
                clear hvr hz hR1 hR2 hmem hv hv1 h0 hk1 hct
                go_wp2_with (first
                  | (simp only [idx4])
                  | (go_at_call 44; (with_reducible refine (KV.out _ WB.out).mono ?_); rintro e w3 ⟨rfl, b3⟩; have B3 := Lib.hid (BW.out.trans (b3.mono BW.out.size)); have B4 := Lib.hid (WB.out.trans (b3.mono WB.out.size)); clear b3)
                  | (go_at_call 25; refine (CV.out _ B3.out).mono ?_; rintro e w4 ⟨rfl, rfl⟩))
                try rw [Exit.noGoto_ret]
                go_ret2
                exact ⟨rfl, B4.out⟩
            · have hvr : vrun [] c.vs = none := by rw [hz, hR1, vrun_bad _ _ _ hv (.inl hk1)]
              obtain ⟨e1, e2⟩ := VN.out hvr
              subst e1 e2
              generalize kindOf c.v4 = kq at *
              have hk2 : ¬ ((kq : Nat) : Int) = 1 := by omega
              clear hvr hz hR1 hR2 hmem hv hv1 h0 hk1
              go_wp2_with (first
                | (simp only [idx4])
                | (go_at_call 44; (with_reducible refine (KV.out _ WB.out).mono ?_); rintro e w3 ⟨rfl, b3⟩; have B4 := Lib.hid (WB.out.trans (b3.mono WB.out.size)); clear b3))
              try rw [Exit.noGoto_ret]
              go_ret2
              exact ⟨rfl, B4.out⟩
theorem right_split (c : Cas) : rightC c = (vouB c && decide (1 ≤ c.acc) && decide (c.acc ≤ 99) && decide (0 ≤ c.opened) && decide (c.opened ≤ 1099511627776) && (c.ripe == clk c.opened 200) && decide (1 ≤ c.quorum) && decide (c.quorum ≤ 5)) := rfl
end Go.Proofs.YtcidllckmidkoaaDoor
