/- CasesLater: a case that is over is over ever after, till it is over it stays ripe once it is, and another account's events change nothing of it: for every script of events by numbers, any two times, any event more. No conditions of ours: the tables listed in the row, tied to the text by the card. -/
import Derived.Test.YtcidllckmidkoaaDoorBase17
import Derived.Test.YtcidllckmidkoaaDoorClaW
namespace Go.Proofs.YtcidllckmidkoaaDoor.casesLater
open Go.ChangeShapes Go.WideShapes Go.ChangeAt Go.RowKit
open Go.Deep Go.Joins
theorem read_one {H : Type} {enc : TypeId × Value → H} {W : World} {r : Reach} {base : Nat} {v : Value} {d : DataW H} {p : List MemPlace} (hv : Value.okWide Tryd.prog W r base 39 v)
    (h : DataW.Trod enc Tryd.prog W 0 (fun _ => true) true 39 v d p) : ∃ o : NumV, v = o.agg := by
  obtain ⟨cs, rfl, hsz⟩ := okWide_struct Tryd.underlying39 hv
  obtain ⟨fuel, hf⟩ := h
  obtain ⟨o, ho⟩ := read_num hf
  refine ⟨o, ?_⟩
  have e : cs.toList = o.cells := by simpa [Value.cells] using ho
  have : cs = o.cells.toArray := by rw [← e]
  rw [this]
  rfl
theorem okWide_arr {P : Program} {w : World} {r : Reach} {base : Nat} {t : TypeId} {v : Value} {n : Nat} {e : TypeId} (ht : P.underlying t = some (.array n e)) (h : Value.okWide P w r base t v) : ∃ cs, v = .agg cs ∧ cs.size = P.cellsOf t := by
  simp only [Value.okWide, ht] at h
  obtain ⟨cs, h1, h2, _⟩ := h
  exact ⟨cs, h1, h2⟩
set_option maxRecDepth 100000 in
theorem read_two {H : Type} {enc : TypeId × Value → H} {W : World} {r : Reach} {base : Nat} {v : Value} {d : DataW H} {p : List MemPlace} (hv : Value.okWide Tryd.prog W r base 37 v)
    (h : DataW.Trod enc Tryd.prog W 0 (fun _ => true) true 37 v d p) : ∃ x0 x1 : Int, v = .agg #[.int .i64 x0, .int .i64 x1] := by
  obtain ⟨cs, rfl, hsz⟩ := okWide_arr Tryd.underlying37 hv
  have hc2 : Tryd.prog.cellsOf 37 = 2 := by kernel_rfl
  obtain ⟨c0, c1, rfl⟩ := array2 (hsz.trans hc2)
  obtain ⟨fuel, hf⟩ := h
  obtain ⟨xs, m, _, _, _, hl, hall⟩ := DataW.trod_array Tryd.underlying37 hf
  have g0 := hall 0 (by omega)
  have g1 := hall 1 (by omega)
  rw [cells_i, List.getElem?_eq_getElem (by omega)] at g0 g1
  simp [Value.cells] at g0 g1
  obtain ⟨a0, e0, _, _⟩ := DataW.trod_int Tryd.underlying3 g0
  obtain ⟨a1, e1, _, _⟩ := DataW.trod_int Tryd.underlying3 g1
  simp only [List.cons.injEq, and_true] at e0 e1
  exact ⟨a0, a1, by rw [e0, e1]⟩
set_option linter.unusedVariables false
set_option maxRecDepth 100000 in
theorem lifted (os : Os) (started : os.Started) (H : Type) (enc : TypeId × Value → H) :
    ReturnsInHanded {} Tryd.checked os 4 .any (fun w args => (Rows.casesLaterSpec.pre enc Tryd.prog Tryd.f4 [] false w args ∧ laidMetH Tryd.prog laidL w) ∧ sizedMet enc Tryd.prog Tryd.f4 (OpenSpec.ofChange Rows.casesLaterSpec) false w args)
      (Rows.casesLaterSpec.post enc Tryd.prog Tryd.f4 false true false false) := by
  refine handed_shaped (C := Tryd.checked) (X := fun w _ => laidMetH Tryd.prog laidL w) own started (by kernel_rfl) Tryd.func4
    (ChangeSpec.witness_shaped (enc := enc) (C := Tryd.checked) (os := os) (X := fun w _ => laidMetH Tryd.prog laidL w) false (World.laidAll Tryd.prog os laidL) #[.slice none 0 0, .agg #[.int .i64 0, .int .i64 0], .agg #[.int .i64 0, .int .i64 0, .int .i64 0, .int .i64 0, .int .i64 0]] 8 (World.laidAll_os _ _ _) (start_shaped os) (by kernel_rfl) (by kernel_rfl) (by kernel_rfl) (start_met os _)) ?_
  intro W base args ds gs before hval0 hW _ _ hsh _
  have hval : ∀ (j : Nat) t v, Tryd.f4.params[j]? = some t → args[j]? = some v → Value.okWide Tryd.prog W .any base t v := hval0
  have hW' := hW
  obtain ⟨p, q, hA0, hV, rfl, hfz, hnd⟩ := hW
  have hA : DataW.TrodAll enc Tryd.prog W 0 (fun _ => true) true Tryd.f4.params.toList args.toList ds p := hA0
  rw [Tryd.params4] at hA hval
  obtain ⟨v0, vs0, d0, ds0, p0, q0, hargs, rfl, rfl, h0, r0⟩ := trodAll_cons hA
  obtain ⟨v1, vs1, d1, ds1, p1, q1, rfl, rfl, rfl, h1, r1⟩ := trodAll_cons r0
  obtain ⟨v2, vs2, d2, ds2, p2, q2, rfl, rfl, rfl, h2, r2⟩ := trodAll_cons r1
  obtain ⟨rfl, rfl, rfl⟩ := trodAll_nil r2
  obtain rfl : args = #[v0, v1, v2] := by cases args; simp_all
  obtain ⟨rfl, rfl⟩ := trodVars_none hV
  obtain ⟨a0, len, cap, rfl⟩ := okWide_slice Tryd.underlying36 (hval 0 36 v0 rfl rfl)
  obtain ⟨x0, x1, rfl⟩ := read_two (hval 1 37 v1 rfl rfl) h1
  obtain ⟨o, rfl⟩ := read_one (hval 2 39 v2 rfl rfl) h2
  have hsl := read_nums h0
  have hlt0 : ∀ x ∈ p0, x.block < W.heap.size := fun x hx => hW'.lt x (by simp [hx])
  have hlt1 : ∀ x ∈ p1, x.block < W.heap.size := fun x hx => hW'.lt x (by simp [hx])
  have hlt2 : ∀ x ∈ p2, x.block < W.heap.size := fun x hx => hW'.lt x (by simp [hx])
  clear hA0 hval0
  refine (later_walk a0 len cap x0 x1 o W (ml_of_shape hsh) hsl).mono fun e W' ⟨he, bel⟩ => ?_
  subst he
  exact ⟨_, rfl, _, _, _, [], _, [], hW', trodAll_mk1 (shut_bool Tryd.underlying4 _), (trodAll_cons_mk (Below.trod laid_out (by kernel_rfl) (of_decide_eq_true (by kernel_rfl)) h0 bel hlt0) (trodAll_cons_mk (Below.trod laid_out (by kernel_rfl) (of_decide_eq_true (by kernel_rfl)) h1 bel hlt1) (trodAll_cons_mk (Below.trod laid_out (by kernel_rfl) (of_decide_eq_true (by kernel_rfl)) h2 bel hlt2) trodAll_mk0))), rfl, bel.frame _, fun h => by cases h⟩
theorem over : Rows.CasesLaterSaid :=
  OpenClaim.holds_of_wide 4 Tryd.f4 rfl rfl rfl rfl rfl rfl rfl ⟨rfl, rfl, rfl, rfl, rfl⟩ rfl rfl rfl rfl rfl (by kernel_rfl) Tryd.func4 (by kernel_rfl)
    (of_decide_eq_true (by kernel_rfl)) (by unfold Func.isWrapper; first | (rw [if_pos (by decide +kernel)]; kernel_rfl) | (rw [if_neg (by decide +kernel)]; exact ⟨rfl, rfl⟩))
    (fun os started H enc _ => lifted os started H enc)
open Go
theorem card : Rows.CasesLaterCardSaid :=
  Claim7.holds_tied_plain_at .later [] [.data, .pinned] true Rows.casesLaterCard.stood.harness false
    over (fun _ h => by cases h) (by kernel_rfl) (fun _ h => by cases h) casesLater_row_tie rfl ⟨rfl, rfl⟩ (by kernel_rfl) rfl
    (fun f fn hf hfn => by
      obtain rfl : f = 4 := Option.some.inj ((show Tryd.prog.funcNamed "homecoming/homecominglaw17.CasesLater" = some 4 by kernel_rfl).symm.trans hf) |>.symm
      obtain rfl : fn = Tryd.f4 := (Option.some.inj (Tryd.func4.symm.trans hfn)).symm
      exact ⟨by kernel_rfl, fun j t ht => by
        rw [Tryd.params4] at ht
        have hm : t ∈ [36, 37, 39] := by simpa using Array.mem_of_getElem? ht
        have hall : ([36, 37, 39].all fun u => !Tryd.prog.wantsStandIn u) = true := by kernel_rfl
        exact (show Tryd.prog.wantsStandIn t = false by simpa using List.all_eq_true.1 hall t hm)⟩)
    (by kernel_rfl)
#print axioms card
end Go.Proofs.YtcidllckmidkoaaDoor.casesLater
namespace Go.Proofs.YtcidllckmidkoaaDoor
/-- The tied card, under a short name, for the claim. -/
theorem casesLater_holds : Rows.CasesLaterCardSaid := casesLater.card
end Go.Proofs.YtcidllckmidkoaaDoor
