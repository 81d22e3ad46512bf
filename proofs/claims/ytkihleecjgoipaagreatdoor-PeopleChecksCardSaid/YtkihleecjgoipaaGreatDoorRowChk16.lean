/- PeopleChecks: whether people may be, and are the same, is told as the document says: for every people as they stand, every script of events by numbers, and everything that is turned. No conditions of ours: the tables listed in the row, tied to the text by the card. -/
import Derived.Test.YtkihleecjgoipaaGreatDoorBase16
import Derived.Test.YtkihleecjgoipaaGreatDoorChkW
namespace Go.Proofs.YtkihleecjgoipaaGreatDoor.peopleChecks
open Go.ChangeShapes Go.WideShapes Go.ChangeAt Go.RowKit
open Go.Deep Go.Joins Go.Proofs.YtkihleecjgoipaaGreatDoor
set_option linter.unusedVariables false
theorem list_2 {α : Type} {l : List α} (h : l.length = 2) : ∃ c0 c1, l = [c0, c1] := by
  match l, h with
  | [c0, c1], _ => exact ⟨c0, c1, rfl⟩
theorem list_5 {α : Type} {l : List α} (h : l.length = 5) : ∃ c0 c1 c2 c3 c4, l = [c0, c1, c2, c3, c4] := by
  match l, h with
  | [c0, c1, c2, c3, c4], _ => exact ⟨c0, c1, c2, c3, c4, rfl⟩
theorem trod_f2 {H : Type} {enc : TypeId × Value → H} {P : Program} {w : World} {base : Nat} {spare : Nat → Bool} {held : Bool} {t : TypeId} {f0 f1 : Field} {fuel : Nat} {cs : List Value} {x : DataW H × List MemPlace} (ht : P.underlying t = some (.struct #[f0, f1])) (h : DataW.trod enc P w base spare held fuel t cs = some x) :
    ∃ y0 y1 n, cs.length = P.cellsOf t ∧ DataW.trod enc P w base spare held n f0.type ((cs.drop f0.offset).take (P.cellsOf f0.type)) = some y0 ∧ DataW.trod enc P w base spare held n f1.type ((cs.drop f1.offset).take (P.cellsOf f1.type)) = some y1 := by
  obtain ⟨xs, n, _, _, hc, hlen, hf⟩ := DataW.trod_struct ht h
  obtain ⟨y0, y1, rfl⟩ := list_2 (by simpa using hlen)
  exact ⟨y0, y1, n, hc, by simpa using hf 0 f0 rfl, by simpa using hf 1 f1 rfl⟩
theorem trod_f5 {H : Type} {enc : TypeId × Value → H} {P : Program} {w : World} {base : Nat} {spare : Nat → Bool} {held : Bool} {t : TypeId} {f0 f1 f2 f3 f4 : Field} {fuel : Nat} {cs : List Value} {x : DataW H × List MemPlace} (ht : P.underlying t = some (.struct #[f0, f1, f2, f3, f4])) (h : DataW.trod enc P w base spare held fuel t cs = some x) :
    ∃ y0 y1 y2 y3 y4 n, cs.length = P.cellsOf t ∧ DataW.trod enc P w base spare held n f0.type ((cs.drop f0.offset).take (P.cellsOf f0.type)) = some y0 ∧ DataW.trod enc P w base spare held n f1.type ((cs.drop f1.offset).take (P.cellsOf f1.type)) = some y1 ∧ DataW.trod enc P w base spare held n f2.type ((cs.drop f2.offset).take (P.cellsOf f2.type)) = some y2 ∧ DataW.trod enc P w base spare held n f3.type ((cs.drop f3.offset).take (P.cellsOf f3.type)) = some y3 ∧ DataW.trod enc P w base spare held n f4.type ((cs.drop f4.offset).take (P.cellsOf f4.type)) = some y4 := by
  obtain ⟨xs, n, _, _, hc, hlen, hf⟩ := DataW.trod_struct ht h
  obtain ⟨y0, y1, y2, y3, y4, rfl⟩ := list_5 (by simpa using hlen)
  exact ⟨y0, y1, y2, y3, y4, n, hc, by simpa using hf 0 f0 rfl, by simpa using hf 1 f1 rfl, by simpa using hf 2 f2 rfl, by simpa using hf 3 f3 rfl, by simpa using hf 4 f4 rfl⟩
theorem cells_p : Tryz.prog.cellsOf 25 = 2 := by kernel_rfl
theorem cells_t : Tryz.prog.cellsOf 28 = 5 := by kernel_rfl
theorem cells_sp : Tryz.prog.cellsOf 22 = 1 := by kernel_rfl
theorem cells_ss : Tryz.prog.cellsOf 23 = 1 := by kernel_rfl
theorem cells_i : Tryz.prog.cellsOf 3 = 1 := by kernel_rfl
theorem cells_l : Tryz.prog.cellsOf 2 = 1 := by kernel_rfl
theorem cells_s : Tryz.prog.cellsOf 9 = 1 := by kernel_rfl
theorem slice_form {H : Type} {enc : TypeId × Value → H} {W : World} {s e : TypeId} {c : Value} {x : DataW H × List MemPlace} {fuel : Nat} (hs : Tryz.prog.underlying s = some (.slice e))
    (hf : DataW.trod enc Tryz.prog W 0 (fun _ => true) true fuel s [c] = some x) : ∃ a len cap, c = .slice a len cap := by
  rcases open_slice hs hf with ⟨hc, _⟩ | ⟨a, len', cap', m, k, D, Pl, hc, _⟩
  · simp at hc; exact ⟨_, _, _, hc⟩
  · simp at hc; exact ⟨_, _, _, hc⟩
set_option maxRecDepth 100000 in
theorem read_people {H : Type} {enc : TypeId × Value → H} {W : World} {r : Reach} {base : Nat} {v : Value} {d : DataW H} {p : List MemPlace} (hv : Value.okWide Tryz.prog W r base 25 v)
    (h : DataW.Trod enc Tryz.prog W 0 (fun _ => true) true 25 v d p) : ∃ a0 len0 cap0 b0 ln0 cp0, (∀ i, i < len0 → ∃ b off o, a0 = some ⟨b, off, none⟩ ∧ b < W.heap.size ∧ Per.In W b (off + i * 13) o) ∧ (∀ i, i < ln0 → ∃ b off o, b0 = some ⟨b, off, none⟩ ∧ b < W.heap.size ∧ Ses.In W b (off + i * 3) o) ∧ v = .agg #[.slice a0 len0 cap0, .slice b0 ln0 cp0] := by
  obtain ⟨cs, rfl, hsz⟩ := okWide_struct Tryz.underlying25 hv
  obtain ⟨fuel, hf⟩ := h
  rw [cells_p] at hsz
  obtain ⟨c0, c1, hcs⟩ := list_2 (l := cs.toList) (by simpa using hsz)
  obtain rfl : cs = #[c0, c1] := by rw [← Array.toArray_toList (xs := cs), hcs]
  obtain ⟨y0, y1, k, _, t0, t1⟩ := trod_f2 Tryz.underlying25 hf
  simp only [Value.cells, cells_sp, cells_ss, List.drop_succ_cons, List.drop_zero, List.take_succ_cons, List.take_zero] at t0 t1
  obtain ⟨a0, len0, cap0, rfl⟩ := slice_form Tryz.underlying22 t0
  obtain ⟨b0, ln0, cp0, rfl⟩ := slice_form Tryz.underlying23 t1
  exact ⟨a0, len0, cap0, b0, ln0, cp0, Per.read_rows t0, Ses.read_rows t1, rfl⟩
set_option maxRecDepth 100000 in
theorem read_turn {H : Type} {enc : TypeId × Value → H} {W : World} {r : Reach} {base : Nat} {v : Value} {d : DataW H} {p : List MemPlace} (hv : Value.okWide Tryz.prog W r base 28 v)
    (h : DataW.Trod enc Tryz.prog W 0 (fun _ => true) true 28 v d p) : ∃ tat tmi tpl tvs tct, v = .agg #[.int .i64 tat, .int .i64 tmi, .int .i64 tpl, .int .i64 tvs, .string tct] := by
  obtain ⟨cs, rfl, hsz⟩ := okWide_struct Tryz.underlying28 hv
  obtain ⟨fuel, hf⟩ := h
  rw [cells_t] at hsz
  obtain ⟨c0, c1, c2, c3, c4, hcs⟩ := list_5 (l := cs.toList) (by simpa using hsz)
  obtain rfl : cs = #[c0, c1, c2, c3, c4] := by rw [← Array.toArray_toList (xs := cs), hcs]
  obtain ⟨y0, y1, y2, y3, y4, k, _, t0, t1, t2, t3, t4⟩ := trod_f5 Tryz.underlying28 hf
  simp only [Value.cells, cells_i, cells_l, cells_s, List.drop_succ_cons, List.drop_zero, List.take_succ_cons, List.take_zero] at t0 t1 t2 t3 t4
  obtain ⟨a0, e0, _, _⟩ := DataW.trod_int Tryz.underlying3 t0
  obtain ⟨a1, e1, _, _⟩ := DataW.trod_int Tryz.underlying3 t1
  obtain ⟨a2, e2, _, _⟩ := DataW.trod_int Tryz.underlying3 t2
  obtain ⟨a3, e3, _, _⟩ := DataW.trod_int Tryz.underlying2 t3
  obtain ⟨a4, e4, _, _⟩ := DataW.trod_string Tryz.underlying9 t4
  simp only [List.cons.injEq, and_true] at e0 e1 e2 e3 e4
  subst e0 e1 e2 e3 e4
  exact ⟨a0, a1, a2, a3, a4, rfl⟩
set_option maxRecDepth 100000 in
theorem lifted (os : Os) (started : os.Started) (H : Type) (enc : TypeId × Value → H) :
    ReturnsInHanded {} Tryz.checked os 3 .any (fun w args => (Rows.peopleChecksSpec.pre enc Tryz.prog Tryz.f3 [] false w args ∧ laidMetH Tryz.prog laidL w) ∧ sizedMet enc Tryz.prog Tryz.f3 (OpenSpec.ofChange Rows.peopleChecksSpec) false w args)
      (Rows.peopleChecksSpec.post enc Tryz.prog Tryz.f3 false true false false) := by
  refine handed_shaped (C := Tryz.checked) (X := fun w _ => laidMetH Tryz.prog laidL w) own started (by kernel_rfl) Tryz.func3
    (ChangeSpec.witness_shaped (enc := enc) (C := Tryz.checked) (os := os) (X := fun w _ => laidMetH Tryz.prog laidL w) false (World.laidAll Tryz.prog os laidL) #[.agg #[.slice none 0 0, .slice none 0 0], .slice none 0 0, .agg #[.int .i64 0, .int .i64 0, .int .i64 0, .int .i64 0, .string ⟨#[]⟩]] 8 (World.laidAll_os _ _ _) (start_shaped os) (by kernel_rfl) (by kernel_rfl) (by kernel_rfl) (start_met os _)) ?_
  intro W base args ds gs before hval0 hW _ _ hsh _
  have hval : ∀ (j : Nat) t v, Tryz.f3.params[j]? = some t → args[j]? = some v → Value.okWide Tryz.prog W .any base t v := hval0
  have hW' := hW
  obtain ⟨p, q, hA0, hV, rfl, hfz, hnd⟩ := hW
  have hA : DataW.TrodAll enc Tryz.prog W 0 (fun _ => true) true Tryz.f3.params.toList args.toList ds p := hA0
  rw [Tryz.params3] at hA hval
  obtain ⟨v0, vs0, d0, ds0, p0, q0, hargs, rfl, rfl, h0, r0⟩ := trodAll_cons hA
  obtain ⟨v1, vs1, d1, ds1, p1, q1, rfl, rfl, rfl, h1, r1⟩ := trodAll_cons r0
  obtain ⟨v2, vs2, d2, ds2, p2, q2, rfl, rfl, rfl, h2, r2⟩ := trodAll_cons r1
  obtain ⟨rfl, rfl, rfl⟩ := trodAll_nil r2
  obtain rfl : args = #[v0, v1, v2] := by cases args; simp_all
  obtain ⟨rfl, rfl⟩ := trodVars_none hV
  obtain ⟨a0, len0, cap0, b0, ln0, cp0, hp0, hs0, rfl⟩ := read_people (hval 0 25 v0 rfl rfl) h0
  obtain ⟨a1, len1, cap1, rfl⟩ := okWide_slice Tryz.underlying26 (hval 1 26 v1 rfl rfl)
  obtain ⟨tat, tmi, tpl, tvs, tct, rfl⟩ := read_turn (hval 2 28 v2 rfl rfl) h2
  have hlt0 : ∀ x ∈ p0, x.block < W.heap.size := fun x hx => hW'.lt x (by simp [hx])
  have hsl1 := read_nums h1
  have hlt1 : ∀ x ∈ p1, x.block < W.heap.size := fun x hx => hW'.lt x (by simp [hx])
  have hlt2 : ∀ x ∈ p2, x.block < W.heap.size := fun x hx => hW'.lt x (by simp [hx])
  clear hA0 hval0
  refine (checks_walk a0 b0 a1 len0 cap0 ln0 cp0 len1 cap1 tat tmi tpl tvs tct W (ml_of_shape hsh) hp0 hs0 hsl1).mono fun e W' ⟨he, bel⟩ => ?_
  subst he
  exact ⟨_, rfl, _, _, _, [], _, [], hW', trodAll_mk1 (shut_bool Tryz.underlying4 _), (trodAll_cons_mk (Below.trod laid_out (by kernel_rfl) (of_decide_eq_true (by kernel_rfl)) h0 bel hlt0) (trodAll_cons_mk (Below.trod laid_out (by kernel_rfl) (of_decide_eq_true (by kernel_rfl)) h1 bel hlt1) (trodAll_cons_mk (Below.trod laid_out (by kernel_rfl) (of_decide_eq_true (by kernel_rfl)) h2 bel hlt2) trodAll_mk0))), rfl, bel.frame _, fun h => by cases h⟩
theorem over : Rows.PeopleChecksSaid :=
  OpenClaim.holds_of_wide 3 Tryz.f3 rfl rfl rfl rfl rfl rfl rfl ⟨rfl, rfl, rfl, rfl, rfl⟩ rfl rfl rfl rfl rfl (by kernel_rfl) Tryz.func3 (by kernel_rfl)
    (of_decide_eq_true (by kernel_rfl)) (by unfold Func.isWrapper; first | (rw [if_pos (by decide +kernel)]; kernel_rfl) | (rw [if_neg (by decide +kernel)]; exact ⟨rfl, rfl⟩))
    (fun os started H enc _ => lifted os started H enc)
open Go
theorem card : Rows.PeopleChecksCardSaid :=
  Claim7.holds_tied_plain_at .later [] [.data, .pinned] true Rows.peopleChecksCard.stood.harness false
    over (fun _ h => by cases h) (by kernel_rfl) (fun _ h => by cases h) peopleChecks_row_tie rfl ⟨rfl, rfl⟩ (by kernel_rfl) rfl
    (fun f fn hf hfn => by
      obtain rfl : f = 3 := Option.some.inj ((show Tryz.prog.funcNamed "homecoming/homecominglaw16.PeopleChecks" = some 3 by kernel_rfl).symm.trans hf) |>.symm
      obtain rfl : fn = Tryz.f3 := (Option.some.inj (Tryz.func3.symm.trans hfn)).symm
      exact ⟨by kernel_rfl, fun j t ht => by
        rw [Tryz.params3] at ht
        have hm : t ∈ [25, 26, 28] := by simpa using Array.mem_of_getElem? ht
        have hall : ([25, 26, 28].all fun u => !Tryz.prog.wantsStandIn u) = true := by kernel_rfl
        exact (show Tryz.prog.wantsStandIn t = false by simpa using List.all_eq_true.1 hall t hm)⟩)
    (by kernel_rfl)
#print axioms card
end Go.Proofs.YtkihleecjgoipaaGreatDoor.peopleChecks
namespace Go.Proofs.YtkihleecjgoipaaGreatDoor
/-- The tied card, under a short name, for the claim. -/
theorem peopleChecks_holds : Rows.PeopleChecksCardSaid := peopleChecks.card
end Go.Proofs.YtkihleecjgoipaaGreatDoor
