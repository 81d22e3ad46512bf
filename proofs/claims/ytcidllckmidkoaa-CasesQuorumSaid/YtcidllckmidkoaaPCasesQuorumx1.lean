-- PRINTED BY print.sh 35421559b90ae4d0a3588c463048766b98c2df88dd9212a6774a882060cdf62d: not written by this session
import Derived.Test.YtcidllckmidkoaaPCasesQuorumx0
namespace Go.Proofs.Ytcidllckmidkoaa.PCasesQuorum
open Go.RowKit Go.Proofs.YtcidllckmidkoaaW.PrintWords Go.Proofs.YtcidllckmidkoaaW.PrintLast Go.Proofs.YtcidllckmidkoaaW.PrintMore
attribute [local go_sem] max2_int min2_int max_two min_two max_three min_three max_four min_four   -- for this text's walks alone
set_option linter.unusedVariables false
set_option linter.unusedSimpArgs false

/-! ### cases_Quorum: function 5 -/
def cases_Quorum.f (a0 : Int) : Option (Int) := if a0 < 1 then (some 0) else (some (mn (wrap64 ((wrap64 (Int.tdiv a0 2)) + 1)) 5))
set_option maxHeartbeats 8000000 in
set_option maxRecDepth 100000 in
theorem cases_Quorum.calls (a0 : Int) (r : Int) (w : World) (h : cases_Quorum.f a0 = some r) :
    Calls Try.prog 5 #[.int .i64 a0] w fun e w' => e = .returned (.int .i64 r) ∧ Below w.heap.size w w' := by
  have HB := Aside0.mk (Below.refl w.heap.size w)
  have H : (if a0 < 1 then (some 0) else (some (mn (wrap64 ((wrap64 (Int.tdiv a0 2)) + 1)) 5))) = some r := h
  clear h
  by_cases c2 : a0 < 1
  · rw [if_pos c2] at H
    have c2b0 : decide (a0 < 1) = true := decide_eq_true c2
    clear c2
    obtain rfl := Option.some.inj H
    go_enter Try.func5, Try.ntmps5
    go_wp2
    go_ret
    exact ⟨by first | rfl | (simp [errW_none, errW_some] <;> rfl) | (simp [*, errW_none, errW_some] <;> rfl), by repeat (first | (with_reducible first | exact HB.out | apply below_alloc | apply pw_below_drewN | apply below_drew1) | exact HB.out)⟩
  · rw [if_neg c2] at H
    have c2b0 : decide (a0 < 1) = false := decide_eq_false c2
    clear c2
    obtain ⟨ji3, hji3⟩ : ∃ j_ : Int, (mn (wrap64 ((wrap64 (Int.tdiv a0 2)) + 1)) 5) = j_ := ⟨_, rfl⟩
    replace H : (some ji3) = some r := by first | (rw [hji3] at H; exact H) | (simp only [hji3] at H ⊢; exact H)
    (try (have hji3h : ji3 ≤ 5 := by (rw [← hji3]; unfold mn; (repeat' split) <;> omega)))
    (try (have hji3g : ji3 ≤ 64 := by omega))
    have hji3_ : (if 5 < (wrap64 ((wrap64 (Int.tdiv a0 2)) + 1)) then 5 else (wrap64 ((wrap64 (Int.tdiv a0 2)) + 1))) = ji3 := hji3
    obtain rfl := Option.some.inj H
    go_enter Try.func5, Try.ntmps5
    go_wp2
    go_ret
    exact ⟨by first | rfl | (simp [errW_none, errW_some] <;> rfl) | (simp only [← hji3]; first | rfl | (simp [errW_none, errW_some] <;> rfl)) | (simp [*, errW_none, errW_some] <;> rfl), by repeat (first | (with_reducible first | exact HB.out | apply below_alloc | apply pw_below_drewN | apply below_drew1) | exact HB.out)⟩

/-! ### homecominglaw17_awake: function 4 -/
def homecominglaw17_awake.f  : Option (Bool) := (cases_Quorum.f 1).bind fun t101 => (if t101 = 1 then ((cases_Quorum.f 2).bind fun t102 => (if t102 = 2 then ((cases_Quorum.f 3).bind fun t103 => (if t103 = 2 then ((cases_Quorum.f 5).bind fun t104 => (some (t104 == 3))) else (some false))) else (some false))) else (some false))
set_option maxHeartbeats 8000000 in
set_option maxRecDepth 100000 in
theorem homecominglaw17_awake.calls  (r : Bool) (w : World) (h : homecominglaw17_awake.f  = some r) :
    Calls Try.prog 4 #[] w fun e w' => e = .returned (.bool r) ∧ Below w.heap.size w w' := by
  have HB := Aside0.mk (Below.refl w.heap.size w)
  have H : ((cases_Quorum.f 1).bind fun t101 => (if t101 = 1 then ((cases_Quorum.f 2).bind fun t102 => (if t102 = 2 then ((cases_Quorum.f 3).bind fun t103 => (if t103 = 2 then ((cases_Quorum.f 5).bind fun t104 => (some (t104 == 3))) else (some false))) else (some false))) else (some false))) = some r := h
  clear h
  replace H := Option.bind_eq_some_iff.mp H
  obtain ⟨t101, A10, H⟩ := H
  replace H : (if t101 = 1 then ((cases_Quorum.f 2).bind fun t102 => (if t102 = 2 then ((cases_Quorum.f 3).bind fun t103 => (if t103 = 2 then ((cases_Quorum.f 5).bind fun t104 => (some (t104 == 3))) else (some false))) else (some false))) else (some false)) = some r := H
  have A1 := Aside0.mk A10
  clear A10
  by_cases c2 : t101 = 1
  · rw [if_pos c2] at H
    have c2b0 : (t101 == 1) = true := beq_iff_eq.mpr c2
    have c2b1 : (t101 != 1) = false := bne_eq_false_iff_eq.mpr c2
    clear c2
    replace H := Option.bind_eq_some_iff.mp H
    obtain ⟨t102, A30, H⟩ := H
    replace H : (if t102 = 2 then ((cases_Quorum.f 3).bind fun t103 => (if t103 = 2 then ((cases_Quorum.f 5).bind fun t104 => (some (t104 == 3))) else (some false))) else (some false)) = some r := H
    have A3 := Aside0.mk A30
    clear A30
    by_cases c4 : t102 = 2
    · rw [if_pos c4] at H
      have c4b0 : (t102 == 2) = true := beq_iff_eq.mpr c4
      have c4b1 : (t102 != 2) = false := bne_eq_false_iff_eq.mpr c4
      clear c4
      replace H := Option.bind_eq_some_iff.mp H
      obtain ⟨t103, A50, H⟩ := H
      replace H : (if t103 = 2 then ((cases_Quorum.f 5).bind fun t104 => (some (t104 == 3))) else (some false)) = some r := H
      have A5 := Aside0.mk A50
      clear A50
      by_cases c6 : t103 = 2
      · rw [if_pos c6] at H
        have c6b0 : (t103 == 2) = true := beq_iff_eq.mpr c6
        have c6b1 : (t103 != 2) = false := bne_eq_false_iff_eq.mpr c6
        clear c6
        replace H := Option.bind_eq_some_iff.mp H
        obtain ⟨t104, A70, H⟩ := H
        replace H : (some (t104 == 3)) = some r := H
        have A7 := Aside0.mk A70
        clear A70
        obtain rfl := Option.some.inj H
        go_enter Try.func4, Try.ntmps4
        go_wp2_with (first | ((with_reducible refine gate_callee (f := 5) rfl ?_); refine goesL_ (some 1) rfl rfl Try.func5 (by kernel_rfl) rfl #[.int .i64 1] rfl (by (try simp only [List.map_toArray, List.map_cons, List.map_nil]); first | done | rfl | (simp only [List.length_drop, List.length_take]; rfl)) ?_; (with_reducible refine (cases_Quorum.calls 1 t101 _ A1.out).mono ?_); rintro e w8 ⟨rfl, hb⟩; refine ⟨_, rfl, ?_⟩; have n0_ := Aside0.mk (below_step (by repeat (first | (with_reducible first | exact HB.out | apply below_alloc | apply pw_below_drewN | apply below_drew1) | exact HB.out)) hb); clear HB; have HB := n0_; clear n0_; (try clear hb); (try clear hb2); (try clear hk); (try clear hi)) | (go_at_call 5; (with_reducible refine (cases_Quorum.calls 2 t102 _ A3.out).mono ?_); rintro e w9 ⟨rfl, hb⟩; have n0_ := Aside0.mk (below_step (by repeat (first | (with_reducible first | exact HB.out | apply below_alloc | apply pw_below_drewN | apply below_drew1) | exact HB.out)) hb); clear HB; have HB := n0_; clear n0_; (try clear hb); (try clear hb2); (try clear hk); (try clear hi)) | (go_at_call 5; (with_reducible refine (cases_Quorum.calls 3 t103 _ A5.out).mono ?_); rintro e w10 ⟨rfl, hb⟩; have n0_ := Aside0.mk (below_step (by repeat (first | (with_reducible first | exact HB.out | apply below_alloc | apply pw_below_drewN | apply below_drew1) | exact HB.out)) hb); clear HB; have HB := n0_; clear n0_; (try clear hb); (try clear hb2); (try clear hk); (try clear hi)) | (go_at_call 5; (with_reducible refine (cases_Quorum.calls 5 t104 _ A7.out).mono ?_); rintro e w11 ⟨rfl, hb⟩; have n0_ := Aside0.mk (below_step (by repeat (first | (with_reducible first | exact HB.out | apply below_alloc | apply pw_below_drewN | apply below_drew1) | exact HB.out)) hb); clear HB; have HB := n0_; clear n0_; (try clear hb); (try clear hb2); (try clear hk); (try clear hi)))
        go_ret
        exact ⟨by first | rfl | (simp [errW_none, errW_some] <;> rfl) | (simp [*, errW_none, errW_some] <;> rfl), by repeat (first | (with_reducible first | exact HB.out | apply below_alloc | apply pw_below_drewN | apply below_drew1) | exact HB.out)⟩
      · rw [if_neg c6] at H
        have c6b0 : (t103 == 2) = false := beq_eq_false_iff_ne.mpr c6
        have c6b1 : (t103 != 2) = true := bne_iff_ne.mpr c6
        obtain rfl := Option.some.inj H
        go_enter Try.func4, Try.ntmps4
        go_wp2_with (first | ((with_reducible refine gate_callee (f := 5) rfl ?_); refine goesL_ (some 1) rfl rfl Try.func5 (by kernel_rfl) rfl #[.int .i64 1] rfl (by (try simp only [List.map_toArray, List.map_cons, List.map_nil]); first | done | rfl | (simp only [List.length_drop, List.length_take]; rfl)) ?_; (with_reducible refine (cases_Quorum.calls 1 t101 _ A1.out).mono ?_); rintro e w12 ⟨rfl, hb⟩; refine ⟨_, rfl, ?_⟩; have n0_ := Aside0.mk (below_step (by repeat (first | (with_reducible first | exact HB.out | apply below_alloc | apply pw_below_drewN | apply below_drew1) | exact HB.out)) hb); clear HB; have HB := n0_; clear n0_; (try clear hb); (try clear hb2); (try clear hk); (try clear hi)) | (go_at_call 5; (with_reducible refine (cases_Quorum.calls 2 t102 _ A3.out).mono ?_); rintro e w13 ⟨rfl, hb⟩; have n0_ := Aside0.mk (below_step (by repeat (first | (with_reducible first | exact HB.out | apply below_alloc | apply pw_below_drewN | apply below_drew1) | exact HB.out)) hb); clear HB; have HB := n0_; clear n0_; (try clear hb); (try clear hb2); (try clear hk); (try clear hi)) | (go_at_call 5; (with_reducible refine (cases_Quorum.calls 3 t103 _ A5.out).mono ?_); rintro e w14 ⟨rfl, hb⟩; have n0_ := Aside0.mk (below_step (by repeat (first | (with_reducible first | exact HB.out | apply below_alloc | apply pw_below_drewN | apply below_drew1) | exact HB.out)) hb); clear HB; have HB := n0_; clear n0_; (try clear hb); (try clear hb2); (try clear hk); (try clear hi)))
        go_ret
        exact ⟨by first | rfl | (simp [errW_none, errW_some] <;> rfl) | (simp [*, errW_none, errW_some] <;> rfl), by repeat (first | (with_reducible first | exact HB.out | apply below_alloc | apply pw_below_drewN | apply below_drew1) | exact HB.out)⟩
    · rw [if_neg c4] at H
      have c4b0 : (t102 == 2) = false := beq_eq_false_iff_ne.mpr c4
      have c4b1 : (t102 != 2) = true := bne_iff_ne.mpr c4
      obtain rfl := Option.some.inj H
      go_enter Try.func4, Try.ntmps4
      go_wp2_with (first | ((with_reducible refine gate_callee (f := 5) rfl ?_); refine goesL_ (some 1) rfl rfl Try.func5 (by kernel_rfl) rfl #[.int .i64 1] rfl (by (try simp only [List.map_toArray, List.map_cons, List.map_nil]); first | done | rfl | (simp only [List.length_drop, List.length_take]; rfl)) ?_; (with_reducible refine (cases_Quorum.calls 1 t101 _ A1.out).mono ?_); rintro e w15 ⟨rfl, hb⟩; refine ⟨_, rfl, ?_⟩; have n0_ := Aside0.mk (below_step (by repeat (first | (with_reducible first | exact HB.out | apply below_alloc | apply pw_below_drewN | apply below_drew1) | exact HB.out)) hb); clear HB; have HB := n0_; clear n0_; (try clear hb); (try clear hb2); (try clear hk); (try clear hi)) | (go_at_call 5; (with_reducible refine (cases_Quorum.calls 2 t102 _ A3.out).mono ?_); rintro e w16 ⟨rfl, hb⟩; have n0_ := Aside0.mk (below_step (by repeat (first | (with_reducible first | exact HB.out | apply below_alloc | apply pw_below_drewN | apply below_drew1) | exact HB.out)) hb); clear HB; have HB := n0_; clear n0_; (try clear hb); (try clear hb2); (try clear hk); (try clear hi)))
      go_ret
      exact ⟨by first | rfl | (simp [errW_none, errW_some] <;> rfl) | (simp [*, errW_none, errW_some] <;> rfl), by repeat (first | (with_reducible first | exact HB.out | apply below_alloc | apply pw_below_drewN | apply below_drew1) | exact HB.out)⟩
  · rw [if_neg c2] at H
    have c2b0 : (t101 == 1) = false := beq_eq_false_iff_ne.mpr c2
    have c2b1 : (t101 != 1) = true := bne_iff_ne.mpr c2
    obtain rfl := Option.some.inj H
    go_enter Try.func4, Try.ntmps4
    go_wp2_with (first | ((with_reducible refine gate_callee (f := 5) rfl ?_); refine goesL_ (some 1) rfl rfl Try.func5 (by kernel_rfl) rfl #[.int .i64 1] rfl (by (try simp only [List.map_toArray, List.map_cons, List.map_nil]); first | done | rfl | (simp only [List.length_drop, List.length_take]; rfl)) ?_; (with_reducible refine (cases_Quorum.calls 1 t101 _ A1.out).mono ?_); rintro e w17 ⟨rfl, hb⟩; refine ⟨_, rfl, ?_⟩; have n0_ := Aside0.mk (below_step (by repeat (first | (with_reducible first | exact HB.out | apply below_alloc | apply pw_below_drewN | apply below_drew1) | exact HB.out)) hb); clear HB; have HB := n0_; clear n0_; (try clear hb); (try clear hb2); (try clear hk); (try clear hi)))
    go_ret
    exact ⟨by first | rfl | (simp [errW_none, errW_some] <;> rfl) | (simp [*, errW_none, errW_some] <;> rfl), by repeat (first | (with_reducible first | exact HB.out | apply below_alloc | apply pw_below_drewN | apply below_drew1) | exact HB.out)⟩

/-! ### homecominglaw17_CasesQuorum: function 3 -/
def homecominglaw17_CasesQuorum.f (a0 : Int) : Option (Bool) := (homecominglaw17_awake.f).bind fun t105 => ((cases_Quorum.f (wrap64 (1 + (Int.tmod (wrap64 ((Int.tmod a0 5) + 5)) 5)))).bind fun t106 => (if t105 = true then (if (wrap64 (2 * t106)) > (wrap64 (1 + (Int.tmod (wrap64 ((Int.tmod a0 5) + 5)) 5))) then (if t106 ≤ (wrap64 (1 + (Int.tmod (wrap64 ((Int.tmod a0 5) + 5)) 5))) then (if (wrap64 (2 * (wrap64 (t106 - 1)))) ≤ (wrap64 (1 + (Int.tmod (wrap64 ((Int.tmod a0 5) + 5)) 5))) then ((cases_Quorum.f (wrap64 (-(wrap64 (1 + (Int.tmod (wrap64 ((Int.tmod a0 5) + 5)) 5)))))).bind fun t107 => (if t107 = 0 then ((cases_Quorum.f (wrap64 (100 * (wrap64 (1 + (Int.tmod (wrap64 ((Int.tmod a0 5) + 5)) 5)))))).bind fun t108 => (some (t108 == 5))) else (some false))) else (some false)) else (some false)) else (some false)) else (some false)))
set_option maxHeartbeats 8000000 in
set_option maxRecDepth 100000 in
theorem homecominglaw17_CasesQuorum.calls (a0 : Int) (r : Bool) (w : World) (h : homecominglaw17_CasesQuorum.f a0 = some r) :
    Calls Try.prog 3 #[.int .i64 a0] w fun e w' => e = .returned (.bool r) ∧ Below w.heap.size w w' := by
  have HB := Aside0.mk (Below.refl w.heap.size w)
  have H : ((homecominglaw17_awake.f).bind fun t105 => ((cases_Quorum.f (wrap64 (1 + (Int.tmod (wrap64 ((Int.tmod a0 5) + 5)) 5)))).bind fun t106 => (if t105 = true then (if (wrap64 (2 * t106)) > (wrap64 (1 + (Int.tmod (wrap64 ((Int.tmod a0 5) + 5)) 5))) then (if t106 ≤ (wrap64 (1 + (Int.tmod (wrap64 ((Int.tmod a0 5) + 5)) 5))) then (if (wrap64 (2 * (wrap64 (t106 - 1)))) ≤ (wrap64 (1 + (Int.tmod (wrap64 ((Int.tmod a0 5) + 5)) 5))) then ((cases_Quorum.f (wrap64 (-(wrap64 (1 + (Int.tmod (wrap64 ((Int.tmod a0 5) + 5)) 5)))))).bind fun t107 => (if t107 = 0 then ((cases_Quorum.f (wrap64 (100 * (wrap64 (1 + (Int.tmod (wrap64 ((Int.tmod a0 5) + 5)) 5)))))).bind fun t108 => (some (t108 == 5))) else (some false))) else (some false)) else (some false)) else (some false)) else (some false)))) = some r := h
  clear h
  replace H := Option.bind_eq_some_iff.mp H
  obtain ⟨t105, A20, H⟩ := H
  replace H : ((cases_Quorum.f (wrap64 (1 + (Int.tmod (wrap64 ((Int.tmod a0 5) + 5)) 5)))).bind fun t106 => (if t105 = true then (if (wrap64 (2 * t106)) > (wrap64 (1 + (Int.tmod (wrap64 ((Int.tmod a0 5) + 5)) 5))) then (if t106 ≤ (wrap64 (1 + (Int.tmod (wrap64 ((Int.tmod a0 5) + 5)) 5))) then (if (wrap64 (2 * (wrap64 (t106 - 1)))) ≤ (wrap64 (1 + (Int.tmod (wrap64 ((Int.tmod a0 5) + 5)) 5))) then ((cases_Quorum.f (wrap64 (-(wrap64 (1 + (Int.tmod (wrap64 ((Int.tmod a0 5) + 5)) 5)))))).bind fun t107 => (if t107 = 0 then ((cases_Quorum.f (wrap64 (100 * (wrap64 (1 + (Int.tmod (wrap64 ((Int.tmod a0 5) + 5)) 5)))))).bind fun t108 => (some (t108 == 5))) else (some false))) else (some false)) else (some false)) else (some false)) else (some false))) = some r := H
  have A2 := Aside0.mk A20
  clear A20
  replace H := Option.bind_eq_some_iff.mp H
  obtain ⟨t106, A30, H⟩ := H
  replace H : (if t105 = true then (if (wrap64 (2 * t106)) > (wrap64 (1 + (Int.tmod (wrap64 ((Int.tmod a0 5) + 5)) 5))) then (if t106 ≤ (wrap64 (1 + (Int.tmod (wrap64 ((Int.tmod a0 5) + 5)) 5))) then (if (wrap64 (2 * (wrap64 (t106 - 1)))) ≤ (wrap64 (1 + (Int.tmod (wrap64 ((Int.tmod a0 5) + 5)) 5))) then ((cases_Quorum.f (wrap64 (-(wrap64 (1 + (Int.tmod (wrap64 ((Int.tmod a0 5) + 5)) 5)))))).bind fun t107 => (if t107 = 0 then ((cases_Quorum.f (wrap64 (100 * (wrap64 (1 + (Int.tmod (wrap64 ((Int.tmod a0 5) + 5)) 5)))))).bind fun t108 => (some (t108 == 5))) else (some false))) else (some false)) else (some false)) else (some false)) else (some false)) = some r := H
  have A3 := Aside0.mk A30
  clear A30
  by_cases c4 : t105 = true
  · subst c4
    have H1 : (if (wrap64 (2 * t106)) > (wrap64 (1 + (Int.tmod (wrap64 ((Int.tmod a0 5) + 5)) 5))) then (if t106 ≤ (wrap64 (1 + (Int.tmod (wrap64 ((Int.tmod a0 5) + 5)) 5))) then (if (wrap64 (2 * (wrap64 (t106 - 1)))) ≤ (wrap64 (1 + (Int.tmod (wrap64 ((Int.tmod a0 5) + 5)) 5))) then ((cases_Quorum.f (wrap64 (-(wrap64 (1 + (Int.tmod (wrap64 ((Int.tmod a0 5) + 5)) 5)))))).bind fun t107 => (if t107 = 0 then ((cases_Quorum.f (wrap64 (100 * (wrap64 (1 + (Int.tmod (wrap64 ((Int.tmod a0 5) + 5)) 5)))))).bind fun t108 => (some (t108 == 5))) else (some false))) else (some false)) else (some false)) else (some false)) = some r := by rw [if_pos rfl] at H; exact H
    clear H
    have H := H1
    clear H1
    by_cases c5 : (wrap64 (2 * t106)) > (wrap64 (1 + (Int.tmod (wrap64 ((Int.tmod a0 5) + 5)) 5)))
    · rw [if_pos c5] at H
      have c5b0 : decide ((wrap64 (1 + (Int.tmod (wrap64 ((Int.tmod a0 5) + 5)) 5))) < (wrap64 (2 * t106))) = true := decide_eq_true c5
      clear c5
      by_cases c6 : t106 ≤ (wrap64 (1 + (Int.tmod (wrap64 ((Int.tmod a0 5) + 5)) 5)))
      · rw [if_pos c6] at H
        have c6b0 : decide (t106 ≤ (wrap64 (1 + (Int.tmod (wrap64 ((Int.tmod a0 5) + 5)) 5)))) = true := decide_eq_true c6
        clear c6
        by_cases c7 : (wrap64 (2 * (wrap64 (t106 - 1)))) ≤ (wrap64 (1 + (Int.tmod (wrap64 ((Int.tmod a0 5) + 5)) 5)))
        · rw [if_pos c7] at H
          have c7b0 : decide ((wrap64 (2 * (wrap64 (t106 - 1)))) ≤ (wrap64 (1 + (Int.tmod (wrap64 ((Int.tmod a0 5) + 5)) 5)))) = true := decide_eq_true c7
          clear c7
          replace H := Option.bind_eq_some_iff.mp H
          obtain ⟨t107, A80, H⟩ := H
          replace H : (if t107 = 0 then ((cases_Quorum.f (wrap64 (100 * (wrap64 (1 + (Int.tmod (wrap64 ((Int.tmod a0 5) + 5)) 5)))))).bind fun t108 => (some (t108 == 5))) else (some false)) = some r := H
          have A8 := Aside0.mk A80
          clear A80
          by_cases c9 : t107 = 0
          · rw [if_pos c9] at H
            have c9b0 : (t107 == 0) = true := beq_iff_eq.mpr c9
            have c9b1 : (t107 != 0) = false := bne_eq_false_iff_eq.mpr c9
            clear c9
            replace H := Option.bind_eq_some_iff.mp H
            obtain ⟨t108, A100, H⟩ := H
            replace H : (some (t108 == 5)) = some r := H
            have A10 := Aside0.mk A100
            clear A100
            obtain rfl := Option.some.inj H
            go_enter Try.func3, Try.ntmps3
            go_wp2_with (first | ((with_reducible refine gate_callee (f := 4) rfl ?_); refine goesL_ (some 6) rfl rfl Try.func4 (by kernel_rfl) rfl #[] rfl (by (try simp only [List.map_toArray, List.map_cons, List.map_nil]); first | done | rfl | (simp only [List.length_drop, List.length_take]; rfl)) ?_; (with_reducible refine (homecominglaw17_awake.calls  true _ A2.out).mono ?_); rintro e w11 ⟨rfl, hb⟩; refine ⟨_, rfl, ?_⟩; have n0_ := Aside0.mk (below_step (by repeat (first | (with_reducible first | exact HB.out | apply below_alloc | apply pw_below_drewN | apply below_drew1) | exact HB.out)) hb); clear HB; have HB := n0_; clear n0_; (try clear hb); (try clear hb2); (try clear hk); (try clear hi)) | ((with_reducible refine gate_callee (f := 5) rfl ?_); refine goesL_ (some 13) rfl rfl Try.func5 (by kernel_rfl) rfl #[.int .i64 (wrap64 (1 + (Int.tmod (wrap64 ((Int.tmod a0 5) + 5)) 5)))] rfl (by (try simp only [List.map_toArray, List.map_cons, List.map_nil]); first | done | rfl | (simp only [List.length_drop, List.length_take]; rfl)) ?_; (with_reducible refine (cases_Quorum.calls (wrap64 (1 + (Int.tmod (wrap64 ((Int.tmod a0 5) + 5)) 5))) t106 _ A3.out).mono ?_); rintro e w12 ⟨rfl, hb⟩; refine ⟨_, rfl, ?_⟩; have n0_ := Aside0.mk (below_step (by repeat (first | (with_reducible first | exact HB.out | apply below_alloc | apply pw_below_drewN | apply below_drew1) | exact HB.out)) hb); clear HB; have HB := n0_; clear n0_; (try clear hb); (try clear hb2); (try clear hk); (try clear hi)) | (go_at_call 5; (with_reducible refine (cases_Quorum.calls (wrap64 (-(wrap64 (1 + (Int.tmod (wrap64 ((Int.tmod a0 5) + 5)) 5))))) t107 _ A8.out).mono ?_); rintro e w13 ⟨rfl, hb⟩; have n0_ := Aside0.mk (below_step (by repeat (first | (with_reducible first | exact HB.out | apply below_alloc | apply pw_below_drewN | apply below_drew1) | exact HB.out)) hb); clear HB; have HB := n0_; clear n0_; (try clear hb); (try clear hb2); (try clear hk); (try clear hi)) | (go_at_call 5; (with_reducible refine (cases_Quorum.calls (wrap64 (100 * (wrap64 (1 + (Int.tmod (wrap64 ((Int.tmod a0 5) + 5)) 5))))) t108 _ A10.out).mono ?_); rintro e w14 ⟨rfl, hb⟩; have n0_ := Aside0.mk (below_step (by repeat (first | (with_reducible first | exact HB.out | apply below_alloc | apply pw_below_drewN | apply below_drew1) | exact HB.out)) hb); clear HB; have HB := n0_; clear n0_; (try clear hb); (try clear hb2); (try clear hk); (try clear hi)))
            go_ret
            exact ⟨by first | rfl | (simp [errW_none, errW_some] <;> rfl) | (simp [*, errW_none, errW_some] <;> rfl), by repeat (first | (with_reducible first | exact HB.out | apply below_alloc | apply pw_below_drewN | apply below_drew1) | exact HB.out)⟩
          · rw [if_neg c9] at H
            have c9b0 : (t107 == 0) = false := beq_eq_false_iff_ne.mpr c9
            have c9b1 : (t107 != 0) = true := bne_iff_ne.mpr c9
            obtain rfl := Option.some.inj H
            go_enter Try.func3, Try.ntmps3
            go_wp2_with (first | ((with_reducible refine gate_callee (f := 4) rfl ?_); refine goesL_ (some 6) rfl rfl Try.func4 (by kernel_rfl) rfl #[] rfl (by (try simp only [List.map_toArray, List.map_cons, List.map_nil]); first | done | rfl | (simp only [List.length_drop, List.length_take]; rfl)) ?_; (with_reducible refine (homecominglaw17_awake.calls  true _ A2.out).mono ?_); rintro e w15 ⟨rfl, hb⟩; refine ⟨_, rfl, ?_⟩; have n0_ := Aside0.mk (below_step (by repeat (first | (with_reducible first | exact HB.out | apply below_alloc | apply pw_below_drewN | apply below_drew1) | exact HB.out)) hb); clear HB; have HB := n0_; clear n0_; (try clear hb); (try clear hb2); (try clear hk); (try clear hi)) | ((with_reducible refine gate_callee (f := 5) rfl ?_); refine goesL_ (some 13) rfl rfl Try.func5 (by kernel_rfl) rfl #[.int .i64 (wrap64 (1 + (Int.tmod (wrap64 ((Int.tmod a0 5) + 5)) 5)))] rfl (by (try simp only [List.map_toArray, List.map_cons, List.map_nil]); first | done | rfl | (simp only [List.length_drop, List.length_take]; rfl)) ?_; (with_reducible refine (cases_Quorum.calls (wrap64 (1 + (Int.tmod (wrap64 ((Int.tmod a0 5) + 5)) 5))) t106 _ A3.out).mono ?_); rintro e w16 ⟨rfl, hb⟩; refine ⟨_, rfl, ?_⟩; have n0_ := Aside0.mk (below_step (by repeat (first | (with_reducible first | exact HB.out | apply below_alloc | apply pw_below_drewN | apply below_drew1) | exact HB.out)) hb); clear HB; have HB := n0_; clear n0_; (try clear hb); (try clear hb2); (try clear hk); (try clear hi)) | (go_at_call 5; (with_reducible refine (cases_Quorum.calls (wrap64 (-(wrap64 (1 + (Int.tmod (wrap64 ((Int.tmod a0 5) + 5)) 5))))) t107 _ A8.out).mono ?_); rintro e w17 ⟨rfl, hb⟩; have n0_ := Aside0.mk (below_step (by repeat (first | (with_reducible first | exact HB.out | apply below_alloc | apply pw_below_drewN | apply below_drew1) | exact HB.out)) hb); clear HB; have HB := n0_; clear n0_; (try clear hb); (try clear hb2); (try clear hk); (try clear hi)))
            go_ret
            exact ⟨by first | rfl | (simp [errW_none, errW_some] <;> rfl) | (simp [*, errW_none, errW_some] <;> rfl), by repeat (first | (with_reducible first | exact HB.out | apply below_alloc | apply pw_below_drewN | apply below_drew1) | exact HB.out)⟩
        · rw [if_neg c7] at H
          have c7b0 : decide ((wrap64 (2 * (wrap64 (t106 - 1)))) ≤ (wrap64 (1 + (Int.tmod (wrap64 ((Int.tmod a0 5) + 5)) 5)))) = false := decide_eq_false c7
          clear c7
          obtain rfl := Option.some.inj H
          go_enter Try.func3, Try.ntmps3
          go_wp2_with (first | ((with_reducible refine gate_callee (f := 4) rfl ?_); refine goesL_ (some 6) rfl rfl Try.func4 (by kernel_rfl) rfl #[] rfl (by (try simp only [List.map_toArray, List.map_cons, List.map_nil]); first | done | rfl | (simp only [List.length_drop, List.length_take]; rfl)) ?_; (with_reducible refine (homecominglaw17_awake.calls  true _ A2.out).mono ?_); rintro e w18 ⟨rfl, hb⟩; refine ⟨_, rfl, ?_⟩; have n0_ := Aside0.mk (below_step (by repeat (first | (with_reducible first | exact HB.out | apply below_alloc | apply pw_below_drewN | apply below_drew1) | exact HB.out)) hb); clear HB; have HB := n0_; clear n0_; (try clear hb); (try clear hb2); (try clear hk); (try clear hi)) | ((with_reducible refine gate_callee (f := 5) rfl ?_); refine goesL_ (some 13) rfl rfl Try.func5 (by kernel_rfl) rfl #[.int .i64 (wrap64 (1 + (Int.tmod (wrap64 ((Int.tmod a0 5) + 5)) 5)))] rfl (by (try simp only [List.map_toArray, List.map_cons, List.map_nil]); first | done | rfl | (simp only [List.length_drop, List.length_take]; rfl)) ?_; (with_reducible refine (cases_Quorum.calls (wrap64 (1 + (Int.tmod (wrap64 ((Int.tmod a0 5) + 5)) 5))) t106 _ A3.out).mono ?_); rintro e w19 ⟨rfl, hb⟩; refine ⟨_, rfl, ?_⟩; have n0_ := Aside0.mk (below_step (by repeat (first | (with_reducible first | exact HB.out | apply below_alloc | apply pw_below_drewN | apply below_drew1) | exact HB.out)) hb); clear HB; have HB := n0_; clear n0_; (try clear hb); (try clear hb2); (try clear hk); (try clear hi)))
          go_ret
          exact ⟨by first | rfl | (simp [errW_none, errW_some] <;> rfl) | (simp [*, errW_none, errW_some] <;> rfl), by repeat (first | (with_reducible first | exact HB.out | apply below_alloc | apply pw_below_drewN | apply below_drew1) | exact HB.out)⟩
      · rw [if_neg c6] at H
        have c6b0 : decide (t106 ≤ (wrap64 (1 + (Int.tmod (wrap64 ((Int.tmod a0 5) + 5)) 5)))) = false := decide_eq_false c6
        clear c6
        obtain rfl := Option.some.inj H
        go_enter Try.func3, Try.ntmps3
        go_wp2_with (first | ((with_reducible refine gate_callee (f := 4) rfl ?_); refine goesL_ (some 6) rfl rfl Try.func4 (by kernel_rfl) rfl #[] rfl (by (try simp only [List.map_toArray, List.map_cons, List.map_nil]); first | done | rfl | (simp only [List.length_drop, List.length_take]; rfl)) ?_; (with_reducible refine (homecominglaw17_awake.calls  true _ A2.out).mono ?_); rintro e w20 ⟨rfl, hb⟩; refine ⟨_, rfl, ?_⟩; have n0_ := Aside0.mk (below_step (by repeat (first | (with_reducible first | exact HB.out | apply below_alloc | apply pw_below_drewN | apply below_drew1) | exact HB.out)) hb); clear HB; have HB := n0_; clear n0_; (try clear hb); (try clear hb2); (try clear hk); (try clear hi)) | ((with_reducible refine gate_callee (f := 5) rfl ?_); refine goesL_ (some 13) rfl rfl Try.func5 (by kernel_rfl) rfl #[.int .i64 (wrap64 (1 + (Int.tmod (wrap64 ((Int.tmod a0 5) + 5)) 5)))] rfl (by (try simp only [List.map_toArray, List.map_cons, List.map_nil]); first | done | rfl | (simp only [List.length_drop, List.length_take]; rfl)) ?_; (with_reducible refine (cases_Quorum.calls (wrap64 (1 + (Int.tmod (wrap64 ((Int.tmod a0 5) + 5)) 5))) t106 _ A3.out).mono ?_); rintro e w21 ⟨rfl, hb⟩; refine ⟨_, rfl, ?_⟩; have n0_ := Aside0.mk (below_step (by repeat (first | (with_reducible first | exact HB.out | apply below_alloc | apply pw_below_drewN | apply below_drew1) | exact HB.out)) hb); clear HB; have HB := n0_; clear n0_; (try clear hb); (try clear hb2); (try clear hk); (try clear hi)))
        go_ret
        exact ⟨by first | rfl | (simp [errW_none, errW_some] <;> rfl) | (simp [*, errW_none, errW_some] <;> rfl), by repeat (first | (with_reducible first | exact HB.out | apply below_alloc | apply pw_below_drewN | apply below_drew1) | exact HB.out)⟩
    · rw [if_neg c5] at H
      have c5b0 : decide ((wrap64 (1 + (Int.tmod (wrap64 ((Int.tmod a0 5) + 5)) 5))) < (wrap64 (2 * t106))) = false := decide_eq_false c5
      clear c5
      obtain rfl := Option.some.inj H
      go_enter Try.func3, Try.ntmps3
      go_wp2_with (first | ((with_reducible refine gate_callee (f := 4) rfl ?_); refine goesL_ (some 6) rfl rfl Try.func4 (by kernel_rfl) rfl #[] rfl (by (try simp only [List.map_toArray, List.map_cons, List.map_nil]); first | done | rfl | (simp only [List.length_drop, List.length_take]; rfl)) ?_; (with_reducible refine (homecominglaw17_awake.calls  true _ A2.out).mono ?_); rintro e w22 ⟨rfl, hb⟩; refine ⟨_, rfl, ?_⟩; have n0_ := Aside0.mk (below_step (by repeat (first | (with_reducible first | exact HB.out | apply below_alloc | apply pw_below_drewN | apply below_drew1) | exact HB.out)) hb); clear HB; have HB := n0_; clear n0_; (try clear hb); (try clear hb2); (try clear hk); (try clear hi)) | ((with_reducible refine gate_callee (f := 5) rfl ?_); refine goesL_ (some 13) rfl rfl Try.func5 (by kernel_rfl) rfl #[.int .i64 (wrap64 (1 + (Int.tmod (wrap64 ((Int.tmod a0 5) + 5)) 5)))] rfl (by (try simp only [List.map_toArray, List.map_cons, List.map_nil]); first | done | rfl | (simp only [List.length_drop, List.length_take]; rfl)) ?_; (with_reducible refine (cases_Quorum.calls (wrap64 (1 + (Int.tmod (wrap64 ((Int.tmod a0 5) + 5)) 5))) t106 _ A3.out).mono ?_); rintro e w23 ⟨rfl, hb⟩; refine ⟨_, rfl, ?_⟩; have n0_ := Aside0.mk (below_step (by repeat (first | (with_reducible first | exact HB.out | apply below_alloc | apply pw_below_drewN | apply below_drew1) | exact HB.out)) hb); clear HB; have HB := n0_; clear n0_; (try clear hb); (try clear hb2); (try clear hk); (try clear hi)))
      go_ret
      exact ⟨by first | rfl | (simp [errW_none, errW_some] <;> rfl) | (simp [*, errW_none, errW_some] <;> rfl), by repeat (first | (with_reducible first | exact HB.out | apply below_alloc | apply pw_below_drewN | apply below_drew1) | exact HB.out)⟩
  · replace c4 := Bool.eq_false_iff.mpr c4
    subst c4
    have H1 : (some false) = some r := by rw [if_neg (show ¬ (false = true) by decide)] at H; exact H
    clear H
    have H := H1
    clear H1
    obtain rfl := Option.some.inj H
    go_enter Try.func3, Try.ntmps3
    go_wp2_with (first | ((with_reducible refine gate_callee (f := 4) rfl ?_); refine goesL_ (some 6) rfl rfl Try.func4 (by kernel_rfl) rfl #[] rfl (by (try simp only [List.map_toArray, List.map_cons, List.map_nil]); first | done | rfl | (simp only [List.length_drop, List.length_take]; rfl)) ?_; (with_reducible refine (homecominglaw17_awake.calls  false _ A2.out).mono ?_); rintro e w24 ⟨rfl, hb⟩; refine ⟨_, rfl, ?_⟩; have n0_ := Aside0.mk (below_step (by repeat (first | (with_reducible first | exact HB.out | apply below_alloc | apply pw_below_drewN | apply below_drew1) | exact HB.out)) hb); clear HB; have HB := n0_; clear n0_; (try clear hb); (try clear hb2); (try clear hk); (try clear hi)) | ((with_reducible refine gate_callee (f := 5) rfl ?_); refine goesL_ (some 13) rfl rfl Try.func5 (by kernel_rfl) rfl #[.int .i64 (wrap64 (1 + (Int.tmod (wrap64 ((Int.tmod a0 5) + 5)) 5)))] rfl (by (try simp only [List.map_toArray, List.map_cons, List.map_nil]); first | done | rfl | (simp only [List.length_drop, List.length_take]; rfl)) ?_; (with_reducible refine (cases_Quorum.calls (wrap64 (1 + (Int.tmod (wrap64 ((Int.tmod a0 5) + 5)) 5))) t106 _ A3.out).mono ?_); rintro e w25 ⟨rfl, hb⟩; refine ⟨_, rfl, ?_⟩; have n0_ := Aside0.mk (below_step (by repeat (first | (with_reducible first | exact HB.out | apply below_alloc | apply pw_below_drewN | apply below_drew1) | exact HB.out)) hb); clear HB; have HB := n0_; clear n0_; (try clear hb); (try clear hb2); (try clear hk); (try clear hi)))
    go_ret
    exact ⟨by first | rfl | (simp [errW_none, errW_some] <;> rfl) | (simp [*, errW_none, errW_some] <;> rfl), by repeat (first | (with_reducible first | exact HB.out | apply below_alloc | apply pw_below_drewN | apply below_drew1) | exact HB.out)⟩

/-- THE ONE PURE STATEMENT of homecominglaw17_CasesQuorum: yours. -/
def homecominglaw17_CasesQuorum.Pure : Prop := ∀ (a0 : Int), (Lit.int .i64 a0).wf = true → homecominglaw17_CasesQuorum.f a0 = some true
theorem homecominglaw17_CasesQuorum.walk (P : homecominglaw17_CasesQuorum.Pure) (a0 : Int) (w : World) (w0 : (Lit.int .i64 a0).wf = true) :
    Calls Try.prog 3 #[.int .i64 a0] w fun e w' => e = .returned (.bool true) ∧ Below w.heap.size w w' := by
  have h := P a0 w0
  refine (homecominglaw17_CasesQuorum.calls a0 true w h).mono ?_
  rintro e w' ⟨rfl, hd⟩
  exact ⟨rfl, hd⟩

end Go.Proofs.Ytcidllckmidkoaa.PCasesQuorum
