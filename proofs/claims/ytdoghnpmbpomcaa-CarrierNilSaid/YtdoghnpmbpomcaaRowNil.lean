/- CarrierNil: of no carrier nothing comes, for every message and every choice. No conditions. -/
import Derived.Test.YtdoghnpmbpomcaaRows
import Derived.Test.YtdoghnpmbpomcaaNil21
import Derived.Test.YtdoghnpmbpomcaaOpen6
import Derived.WalkKit
import Derived.ProofKit
import Derived.OpenShut
import Derived.ShutString
import Derived.ChangeOld
import Derived.Below
import Derived.SizedLaws
namespace Go.Proofs.Ytdoghnpmbpomcaa.carrierNil
open Go.ChangeShapes Go.WideShapes Go.ChangeAt Go.RowKit
open Go.ChangeMaps (open_string shut_string)
open Go.Joins (open_agg2 shut_agg2)
set_option linter.unusedVariables false
theorem own : ownKnob Try.prog.godebug = none := by kernel_rfl
set_option maxRecDepth 100000 in
theorem lifted (os : Os) (started : os.Started) (H : Type) (enc : TypeId × Value → H) :
    ReturnsInHanded {} Try.checked os 7 .any (Rows.carrierNilSpec.pre6 enc Try.prog Try.f7 Rows.carrierNilRow.domain false) (Rows.carrierNilSpec.post enc Try.prog Try.f7 false true false false) := by
  refine returnsInHanded_of_change_sized (C := Try.checked) own started (by kernel_rfl) Try.func7
    (ChangeSpec.witness6 (enc := enc) (C := Try.checked) false ⟨#[], #[.agg #[.int .u64 0, .string ⟨#[]⟩, .string ⟨#[]⟩, .int .i64 0, .int .i64 0, .bool false], .agg #[.int .i64 0, .int .i64 0]], []⟩ 8 (by kernel_rfl) (by kernel_rfl) (by kernel_rfl) (by kernel_rfl)) ?_
  intro W base args ds gs before hval0 hW hcnd hsz0 _
  have hval : ∀ (j : Nat) t v, Try.f7.params[j]? = some t → args[j]? = some v → Value.okWide Try.prog W .any base t v := hval0
  have hW' := hW
  obtain ⟨p, q, hA0, hV, rfl, hfz, hnd⟩ := hW
  have hA : DataW.TrodAll enc Try.prog W 0 (fun _ => true) true Try.f7.params.toList args.toList ds p := hA0
  rw [Try.params7] at hA hval
  obtain ⟨v0, vs0, d0, ds0, p0, q0, hargs, rfl, rfl, h0, r0⟩ := trodAll_cons hA
  obtain ⟨v1, vs1, d1, ds1, p1, q1, rfl, rfl, rfl, h1, r1⟩ := trodAll_cons r0
  obtain ⟨rfl, rfl, rfl⟩ := trodAll_nil r1
  obtain rfl : args = #[v0, v1] := by cases args; simp_all
  obtain ⟨rfl, rfl⟩ := trodVars_none hV
  obtain ⟨c0, c1, c2, c3, c4, c5, y0, y1, y2, y3, y4, y5, n, rfl, rfl, rfl, e0, e1, e2, e3, e4, e5⟩ := open_agg6 Try.underlying28 (by kernel_rfl) (by kernel_rfl) (hval 0 28 v0 rfl rfl) h0
  obtain ⟨x0, x1, z0, z1, m, rfl, rfl, rfl, g0, g1⟩ := open_agg2 Try.underlying30 (by kernel_rfl) (by kernel_rfl) (hval 1 30 v1 rfl rfl) h1
  obtain ⟨a0, k0, rfl, w0⟩ := DataW.trod_int Try.underlying26 e0
  obtain ⟨s1, k1, rfl, w1⟩ := DataW.trod_string Try.underlying9 e1
  obtain ⟨s2, k2, rfl, w2⟩ := DataW.trod_string Try.underlying9 e2
  obtain ⟨a3, k3, rfl, w3⟩ := DataW.trod_int Try.underlying3 e3
  obtain ⟨a4, k4, rfl, w4⟩ := DataW.trod_int Try.underlying2 e4
  obtain ⟨a5, k5, rfl⟩ := DataW.trod_bool Try.underlying4 e5
  obtain ⟨b0, l0, rfl, u0⟩ := DataW.trod_int Try.underlying3 g0
  obtain ⟨b1, l1, rfl, u1⟩ := DataW.trod_int Try.underlying2 g1
  simp at k0 k1 k2 k3 k4 k5 l0 l1
  subst k0 k1 k2 k3 k4 k5 l0 l1
  clear hA0 hval0 hsz0
  refine (nil_walk a0 a3 a4 b0 b1 s1 s2 a5 W).mono fun e W' ⟨he, bel⟩ => ?_
  subst he
  exact ⟨_, rfl, _, _, _, [], _, [], hW', trodAll_mk1 (shut_bool Try.underlying4 _),
    (trodAll_cons_mk (shut_agg6 Try.underlying28 (by kernel_rfl) (by kernel_rfl) ⟨_, trod_int_mk 0 Try.underlying26 w0⟩ (Joins.field_of_Trod (shut_string Try.underlying9 w1) rfl) (Joins.field_of_Trod (shut_string Try.underlying9 w2) rfl)
        ⟨_, trod_int_mk 0 Try.underlying3 w3⟩ ⟨_, trod_int_mk 0 Try.underlying2 w4⟩ (Joins.field_of_Trod (shut_bool Try.underlying4 _) rfl))
      (trodAll_cons_mk (shut_agg2 Try.underlying30 (by kernel_rfl) (by kernel_rfl) ⟨_, trod_int_mk 0 Try.underlying3 u0⟩ ⟨_, trod_int_mk 0 Try.underlying2 u1⟩) trodAll_mk0)), rfl, bel.frame _, fun h => by cases h⟩
theorem over : Rows.carrierNilRow.holds Try.pinned (OpenSpec.ofChange Rows.carrierNilSpec) :=
  OpenClaim.holds_of_wide 7 Try.f7 rfl rfl rfl rfl rfl rfl rfl ⟨rfl, rfl, rfl, rfl, rfl⟩ rfl rfl rfl rfl rfl (by kernel_rfl) Try.func7 (by kernel_rfl)
    (of_decide_eq_true (by kernel_rfl)) (by unfold Func.isWrapper; first | (rw [if_pos (by decide +kernel)]; kernel_rfl) | (rw [if_neg (by decide +kernel)]; exact ⟨rfl, rfl⟩))
    (fun os started H enc _ => lifted os started H enc)
theorem proved : Rows.CarrierNilSaid := over
#print axioms proved
end Go.Proofs.Ytdoghnpmbpomcaa.carrierNil
namespace Go.Proofs.Ytdoghnpmbpomcaa
/-- The row, under a short name, for the claim. -/
theorem carrierNil_holds : Rows.CarrierNilSaid := carrierNil.proved
end Go.Proofs.Ytdoghnpmbpomcaa
