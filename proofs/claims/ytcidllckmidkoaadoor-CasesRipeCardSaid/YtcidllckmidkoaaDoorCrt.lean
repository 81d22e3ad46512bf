/- cases.right, Check. -/
import Derived.Test.YtcidllckmidkoaaDoorCvd
import Derived.BigQuiet
namespace Go.Proofs.YtcidllckmidkoaaDoor
open Go.RowKit Go.Maps

set_option maxHeartbeats 8000000 in
set_option maxRecDepth 100000 in
theorem cright_any (c : Cas) (hs : smallC c) (w : World) (hm : ML w) : Calls Tryd.prog 28 #[c.agg] w fun e w' => e = .returned (.bool (rightC c)) ∧ Below w.heap.size w w' := by
  have hb : Below w.heap.size w (w.alloc c.obj) := (Below.refl _ _).alloc (Nat.le_refl _) _
  have VO := Lib.hid (vouched_any c hs (w.alloc c.obj) (hm.below hb))
  have BX := Lib.hid (fun w2 b => box_later (w := w) (w2 := w2) c b)
  have CK := Lib.hid (fun w => clock_any c.opened 200 w)
  have HB := Lib.hid hb
  have HR : Hid (rightC c = (vouB c && decide (1 ≤ c.acc) && decide (c.acc ≤ 99) && decide (0 ≤ c.opened) && decide (c.opened ≤ 1099511627776) && (c.ripe == clk c.opened 200) && decide (1 ≤ c.quorum) && decide (c.quorum ≤ 5))) := Lib.hid rfl
  obtain ⟨c0, c1, c2, c3, c4, c5, c6, c7, c8⟩ := cas_box w c
  clear hb hs hm
  unfold Cas.obj at *
  unfold Cas.agg at VO ⊢
  generalize rightC c = r at *
  generalize vouN c = vn at *
  generalize clk c.opened 200 = ck at *
  cases h0 : (vouB c)
  · as_aux_lemma =>
      have RO : Hid (r = false) := Lib.hid (by rw [HR.out]; simp [h0])
      clear HR
      rw [h0] at VO
      go_enter Tryd.func28, Tryd.ntmps28
      go_wp2_with ((go_at_call 36; (with_reducible refine (VO.out).mono ?_); rintro e w2 ⟨rfl, b2⟩; obtain ⟨⟨y0, y1, y2, y3, y4, y5, y6, y7, y8⟩, yf⟩ := BX.out w2 b2; have B2 := Lib.hid (HB.out.trans (b2.mono HB.out.size)); clear b2))
      go_quiet ((go_at_call 26; exact Calls.quiet_of_same (CK.out _)))
      go_wp2_with fail
      go_ret
      exact ⟨ret_bool (by rw [RO.out]), below_drewN B2.out _⟩
  · rw [h0] at VO
    cases h1 : (decide (1 ≤ c.acc))
    · as_aux_lemma =>
        have RO : Hid (r = false) := Lib.hid (by rw [HR.out]; simp [h1])
        clear HR
        go_enter Tryd.func28, Tryd.ntmps28
        go_wp2_with ((go_at_call 36; (with_reducible refine (VO.out).mono ?_); rintro e w2 ⟨rfl, b2⟩; obtain ⟨⟨y0, y1, y2, y3, y4, y5, y6, y7, y8⟩, yf⟩ := BX.out w2 b2; have B2 := Lib.hid (HB.out.trans (b2.mono HB.out.size)); clear b2))
        go_quiet ((go_at_call 26; exact Calls.quiet_of_same (CK.out _)))
        go_wp2_with fail
        go_ret
        exact ⟨ret_bool (by rw [RO.out]), below_drewN B2.out _⟩
    · cases h2 : (decide (c.acc ≤ 99))
      · as_aux_lemma =>
          have RO : Hid (r = false) := Lib.hid (by rw [HR.out]; simp [h2])
          clear HR
          go_enter Tryd.func28, Tryd.ntmps28
          go_wp2_with ((go_at_call 36; (with_reducible refine (VO.out).mono ?_); rintro e w2 ⟨rfl, b2⟩; obtain ⟨⟨y0, y1, y2, y3, y4, y5, y6, y7, y8⟩, yf⟩ := BX.out w2 b2; have B2 := Lib.hid (HB.out.trans (b2.mono HB.out.size)); clear b2))
          go_quiet ((go_at_call 26; exact Calls.quiet_of_same (CK.out _)))
          go_wp2_with fail
          go_ret
          exact ⟨ret_bool (by rw [RO.out]), below_drewN B2.out _⟩
      · cases h3 : (decide (0 ≤ c.opened))
        · as_aux_lemma =>
            have RO : Hid (r = false) := Lib.hid (by rw [HR.out]; simp [h3])
            clear HR
            go_enter Tryd.func28, Tryd.ntmps28
            go_wp2_with ((go_at_call 36; (with_reducible refine (VO.out).mono ?_); rintro e w2 ⟨rfl, b2⟩; obtain ⟨⟨y0, y1, y2, y3, y4, y5, y6, y7, y8⟩, yf⟩ := BX.out w2 b2; have B2 := Lib.hid (HB.out.trans (b2.mono HB.out.size)); clear b2))
            go_quiet ((go_at_call 26; exact Calls.quiet_of_same (CK.out _)))
            go_wp2_with fail
            go_ret
            exact ⟨ret_bool (by rw [RO.out]), below_drewN B2.out _⟩
        · cases h4 : (decide (c.opened ≤ 1099511627776))
          · as_aux_lemma =>
              have RO : Hid (r = false) := Lib.hid (by rw [HR.out]; simp [h4])
              clear HR
              go_enter Tryd.func28, Tryd.ntmps28
              go_wp2_with ((go_at_call 36; (with_reducible refine (VO.out).mono ?_); rintro e w2 ⟨rfl, b2⟩; obtain ⟨⟨y0, y1, y2, y3, y4, y5, y6, y7, y8⟩, yf⟩ := BX.out w2 b2; have B2 := Lib.hid (HB.out.trans (b2.mono HB.out.size)); clear b2))
              go_quiet ((go_at_call 26; exact Calls.quiet_of_same (CK.out _)))
              go_wp2_with fail
              go_ret
              exact ⟨ret_bool (by rw [RO.out]), below_drewN B2.out _⟩
          · cases h5 : ((c.ripe == ck))
            · as_aux_lemma =>
                have RO : Hid (r = false) := Lib.hid (by rw [HR.out]; simp [h5])
                clear HR
                go_enter Tryd.func28, Tryd.ntmps28
                go_wp2_with ((go_at_call 36; (with_reducible refine (VO.out).mono ?_); rintro e w2 ⟨rfl, b2⟩; obtain ⟨⟨y0, y1, y2, y3, y4, y5, y6, y7, y8⟩, yf⟩ := BX.out w2 b2; have B2 := Lib.hid (HB.out.trans (b2.mono HB.out.size)); clear b2))
                go_quiet ((go_at_call 26; exact Calls.quiet_of_same (CK.out _)))
                go_wp2_with fail
                go_ret
                exact ⟨ret_bool (by rw [RO.out]), below_drewN B2.out _⟩
            · cases h6 : (decide (1 ≤ c.quorum))
              · as_aux_lemma =>
                  have RO : Hid (r = false) := Lib.hid (by rw [HR.out]; simp [h6])
                  clear HR
                  go_enter Tryd.func28, Tryd.ntmps28
                  go_wp2_with ((go_at_call 36; (with_reducible refine (VO.out).mono ?_); rintro e w2 ⟨rfl, b2⟩; obtain ⟨⟨y0, y1, y2, y3, y4, y5, y6, y7, y8⟩, yf⟩ := BX.out w2 b2; have B2 := Lib.hid (HB.out.trans (b2.mono HB.out.size)); clear b2))
                  go_quiet ((go_at_call 26; exact Calls.quiet_of_same (CK.out _)))
                  go_wp2_with fail
                  go_ret
                  exact ⟨ret_bool (by rw [RO.out]), below_drewN B2.out _⟩
              · cases h7 : (decide (c.quorum ≤ 5))
                · as_aux_lemma =>
                    have RO : Hid (r = false) := Lib.hid (by rw [HR.out]; simp [h7])
                    clear HR
                    go_enter Tryd.func28, Tryd.ntmps28
                    go_wp2_with ((go_at_call 36; (with_reducible refine (VO.out).mono ?_); rintro e w2 ⟨rfl, b2⟩; obtain ⟨⟨y0, y1, y2, y3, y4, y5, y6, y7, y8⟩, yf⟩ := BX.out w2 b2; have B2 := Lib.hid (HB.out.trans (b2.mono HB.out.size)); clear b2))
                    go_quiet ((go_at_call 26; exact Calls.quiet_of_same (CK.out _)))
                    go_wp2_with fail
                    go_ret
                    exact ⟨ret_bool (by rw [RO.out]), below_drewN B2.out _⟩
                · as_aux_lemma =>
                    have RO : Hid (r = true) := Lib.hid (by rw [HR.out]; simp [h0, h1, h2, h3, h4, h5, h6, h7])
                    clear HR
                    go_enter Tryd.func28, Tryd.ntmps28
                    go_wp2_with ((go_at_call 36; (with_reducible refine (VO.out).mono ?_); rintro e w2 ⟨rfl, b2⟩; obtain ⟨⟨y0, y1, y2, y3, y4, y5, y6, y7, y8⟩, yf⟩ := BX.out w2 b2; have B2 := Lib.hid (HB.out.trans (b2.mono HB.out.size)); clear b2))
                    go_quiet ((go_at_call 26; exact Calls.quiet_of_same (CK.out _)))
                    go_wp2_with fail
                    go_ret
                    exact ⟨ret_bool (by rw [RO.out]), below_drewN B2.out _⟩

/-- The accounts rise from one on, and each case is right: looked at from an account on. -/
def chkFrom (last : Int) : List Cas → Bool
  | [] => true
  | c :: r => rightC c && decide (last < c.acc) && chkFrom c.acc r
def chkC (L : List Cas) : Bool := chkFrom 0 L && decide (L.length ≤ 8)
end Go.Proofs.YtcidllckmidkoaaDoor
