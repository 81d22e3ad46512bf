/- CarrierArrives: what was handed and not refused arrives when it was told, once, or twice; nothing else does; for every row of choices. No conditions. -/
import Derived.Test.YtdoghnpmbpomcaaRows
import Derived.Test.YtdoghnpmbpomcaaArvW
import Derived.Deep.SlicePairs
import Derived.WalkKit
import Derived.ProofKit
import Derived.OpenShut
import Derived.ChangeOld
import Derived.Below
import Derived.SizedLaws
namespace Go.Proofs.Ytdoghnpmbpomcaa.carrierArrives
open Go.ChangeShapes Go.WideShapes Go.ChangeAt Go.RowKit Go.Deep
set_option linter.unusedVariables false
theorem own : ownKnob Try.prog.godebug = none := by kernel_rfl
theorem laid_out : laidOutB Try.prog = true := by kernel_rfl
theorem cells_choice : Try.prog.cellsOf 30 = 2 := by kernel_rfl
theorem cells_int : Try.prog.cellsOf 3 = 1 := by kernel_rfl
theorem cells_int64 : Try.prog.cellsOf 2 = 1 := by kernel_rfl

/-- A row of choices that came in: each choice's two numbers. -/
theorem read_choices {H : Type} {enc : TypeId × Value → H} {W : World} {a0 : Option Addr} {len cap : Nat} {d : DataW H} {p : List MemPlace}
    (h : DataW.Trod enc Try.prog W 0 (fun _ => true) true 43 (.slice a0 len cap) d p) :
    ∃ K T : Nat → Int, ∀ i, i < len → ∃ b off, a0 = some ⟨b, off, none⟩ ∧ b < W.heap.size ∧ W.cell? ⟨b, off + i * 2, none⟩ = some (.int .i64 (K i)) ∧ W.cell? ⟨b, off + i * 2 + 1, none⟩ = some (.int .i64 (T i)) := by
  obtain ⟨fuel, hf⟩ := h
  rcases open_slice_pairs Try.underlying43 Try.underlying30 cells_choice rfl rfl cells_int cells_int64 hf with ⟨hc, _⟩ | ⟨a, len', cap', m, k, V0, V1, D0, D1, P0, P1, hc, _, hl, hm, hmm, _, hall⟩
  · simp [Value.cells] at hc
    obtain ⟨_, rfl, _⟩ := hc
    exact ⟨fun _ => 0, fun _ => 0, fun i hi => by omega⟩
  · simp [Value.cells] at hc
    obtain ⟨rfl, rfl, rfl⟩ := hc
    simp only [if_true] at hmm
    have hK : ∀ i, i < len → ∃ q : Int × Int, W.cell? (a.add (i * 2)) = some (.int .i64 q.1) ∧ W.cell? (a.add (i * 2 + 1)) = some (.int .i64 q.2) := fun i hi => by
      obtain ⟨c0, c1, t0, t1⟩ := hall i (by omega)
      obtain ⟨x, e0, _, _⟩ := DataW.trod_int Try.underlying3 t0
      obtain ⟨y, e1, _, _⟩ := DataW.trod_int Try.underlying2 t1
      simp at e0 e1
      rw [e0] at c0
      rw [e1] at c1
      exact ⟨(x, y), c0, c1⟩
    obtain ⟨b, off, sp⟩ := a
    have hsp : 0 < len → sp = none := fun hpos => by
      obtain ⟨q, h0, _⟩ := hK 0 (by omega)
      cases sp with
      | none => rfl
      | some s =>
        have e : W.cell? ⟨b, off, some s⟩ = none := by
          unfold World.cell?
          split <;> simp
        have e2 : ((⟨b, off, some s⟩ : Addr).add (0 * 2)) = ⟨b, off, some s⟩ := by simp [Addr.add]
        rw [e2, e] at h0
        cases h0
    have hK2 : ∀ i, i < len → ∃ q : Int × Int, sp = none ∧ b < W.heap.size ∧ W.cell? ⟨b, off + i * 2, none⟩ = some (.int .i64 q.1) ∧ W.cell? ⟨b, off + i * 2 + 1, none⟩ = some (.int .i64 q.2) := fun i hi => by
      have e := hsp (by omega)
      subst e
      obtain ⟨q, h0, h1⟩ := hK i hi
      rw [addP] at h0 h1
      rw [← Nat.add_assoc] at h1
      exact ⟨q, rfl, World.block_lt_of_cell? W _ h0, h0, h1⟩
    obtain ⟨f, hf2⟩ := choose_lt hK2
    refine ⟨fun i => (f i).1, fun i => (f i).2, fun i hi => ?_⟩
    obtain ⟨e, h1, h2, h3⟩ := hf2 i hi
    exact ⟨b, off, by rw [e], h1, h2, h3⟩

set_option maxRecDepth 100000 in
theorem lifted (os : Os) (started : os.Started) (H : Type) (enc : TypeId × Value → H) :
    ReturnsInHanded {} Try.checked os 4 .any (Rows.carrierArrivesSpec.pre6 enc Try.prog Try.f4 Rows.carrierArrivesRow.domain false) (Rows.carrierArrivesSpec.post enc Try.prog Try.f4 false true false false) := by
  refine returnsInHanded_of_change_sized (C := Try.checked) own started (by kernel_rfl) Try.func4
    (ChangeSpec.witness6 (enc := enc) (C := Try.checked) false ⟨#[], #[.slice none 0 0], []⟩ 8 (by kernel_rfl) (by kernel_rfl) (by kernel_rfl) (by kernel_rfl)) ?_
  intro W base args ds gs before hval0 hW hcnd hsz0 _
  have hval : ∀ (j : Nat) t v, Try.f4.params[j]? = some t → args[j]? = some v → Value.okWide Try.prog W .any base t v := hval0
  have hW' := hW
  obtain ⟨p, q, hA0, hV, rfl, hfz, hnd⟩ := hW
  have hA : DataW.TrodAll enc Try.prog W 0 (fun _ => true) true Try.f4.params.toList args.toList ds p := hA0
  rw [Try.params4] at hA hval
  obtain ⟨v0, vs0, d0, ds0, p0, q0, hargs, rfl, rfl, h0, r0⟩ := trodAll_cons hA
  obtain ⟨rfl, rfl, rfl⟩ := trodAll_nil r0
  obtain rfl : args = #[v0] := by cases args; simp_all
  obtain ⟨rfl, rfl⟩ := trodVars_none hV
  obtain ⟨a0, len, cap, rfl⟩ := okWide_slice Try.underlying43 (hval 0 43 v0 rfl rfl)
  obtain ⟨K, T, hsl⟩ := read_choices h0
  have hlt : ∀ x ∈ p0, x.block < W.heap.size := fun x hx => hW'.lt x (by simp [hx])
  clear hA0 hval0 hsz0
  refine (arrives_walk a0 len cap K T W hsl).mono fun e W' ⟨he, bel⟩ => ?_
  subst he
  exact ⟨_, rfl, _, _, _, [], _, [], hW', trodAll_mk1 (shut_bool Try.underlying4 _), (trodAll_cons_mk (Below.trod laid_out (by kernel_rfl) (of_decide_eq_true (by kernel_rfl)) h0 bel hlt) trodAll_mk0), rfl, bel.frame _, fun h => by cases h⟩
theorem over : Rows.carrierArrivesRow.holds Try.pinned (OpenSpec.ofChange Rows.carrierArrivesSpec) :=
  OpenClaim.holds_of_wide 4 Try.f4 rfl rfl rfl rfl rfl rfl rfl ⟨rfl, rfl, rfl, rfl, rfl⟩ rfl rfl rfl rfl rfl (by kernel_rfl) Try.func4 (by kernel_rfl)
    (of_decide_eq_true (by kernel_rfl)) (by unfold Func.isWrapper; first | (rw [if_pos (by decide +kernel)]; kernel_rfl) | (rw [if_neg (by decide +kernel)]; exact ⟨rfl, rfl⟩))
    (fun os started H enc _ => lifted os started H enc)
theorem proved : Rows.CarrierArrivesSaid := over
#print axioms proved
end Go.Proofs.Ytdoghnpmbpomcaa.carrierArrives
namespace Go.Proofs.Ytdoghnpmbpomcaa
/-- The row, under a short name, for the claim. -/
theorem carrierArrives_holds : Rows.CarrierArrivesSaid := carrierArrives.proved
end Go.Proofs.Ytdoghnpmbpomcaa
