/- '!=' of two cases. -/
import Derived.Test.YtcidllckmidkoaaDoorCas
import Derived.Laws.StructEq
import Derived.ChangeKeysEq
namespace Go.Proofs.YtcidllckmidkoaaDoor
open Go.RowKit Go.Maps

section
variable {P : Program} {d : Nat} {xs ys : Array Value} {f : Field} {fs : List Field} {a b : Value} {r s : Bool} {w : World}
theorem eqf_cons (hn : (f.name == "_") = false) (ha : (part f.type xs f.offset).run P w = .ok a w) (hb : (part f.type ys f.offset).run P w = .ok b w) (he : (Op.equalIn d f.type a b).run P w = .ok r w) (hr : (Op.eqFields d xs ys fs).run P w = .ok s w) : (Op.eqFields d xs ys (f :: fs)).run P w = .ok (r && s) w := by
  have hn' : f.name ≠ "_" := by simpa using hn
  rw [Op.eqFields]
  simp only [if_pos hn', Sem.run_bind, ha, hb, he, Result.andThen_ok]
  cases r
  · simp
  · simpa using hr
theorem eqf_nil : (Op.eqFields d xs ys []).run P w = .ok true w := by simp [Op.eqFields]
theorem eqi_cons {e : TypeId} {n i : Nat} {is : List Nat} (ha : (part e xs (i * n)).run P w = .ok a w) (hb : (part e ys (i * n)).run P w = .ok b w) (he : (Op.equalIn d e a b).run P w = .ok r w) (hr : (Op.eqItems d e n xs ys is).run P w = .ok s w) : (Op.eqItems d e n xs ys (i :: is)).run P w = .ok (r && s) w := by
  rw [Op.eqItems]
  simp only [Sem.run_bind, ha, hb, he, Result.andThen_ok]
  cases r
  · simp
  · simpa using hr
theorem eqi_nil {e : TypeId} {n : Nat} : (Op.eqItems d e n xs ys []).run P w = .ok true w := by simp [Op.eqItems]
end
def eqV (x y : Cas) : Bool := (x.v0.toList == y.v0.toList) && ((x.v1.toList == y.v1.toList) && ((x.v2.toList == y.v2.toList) && ((x.v3.toList == y.v3.toList) && ((x.v4.toList == y.v4.toList) && true))))
def eqC (x y : Cas) : Bool := (x.acc == y.acc) && ((x.opened == y.opened) && ((x.ripe == y.ripe) && ((x.quorum == y.quorum) && (eqV x y && true))))
def Cas.arr (x : Cas) : Array Value := #[.string x.v0, .string x.v1, .string x.v2, .string x.v3, .string x.v4]
theorem strInfo : (Tryd.prog.info? 9).isSome = true := by kernel_rfl
theorem run_eqV (x y : Cas) (d : Nat) (w : World) : (Op.equalIn (d + 2) 26 (.agg x.arr) (.agg y.arr)).run Tryd.prog w = .ok (eqV x y) w := by
  obtain ⟨i, hi⟩ := Option.isSome_iff_exists.1 strInfo
  rw [run_equalIn_array w (d + 1) x.arr y.arr Tryd.underlying26 hi]
  show (Op.eqItems (d + 1) 9 (Tryd.prog.cellsOf 9) x.arr y.arr [0, 1, 2, 3, 4]).run Tryd.prog w = _
  have hc : Tryd.prog.cellsOf 9 = 1 := by kernel_rfl
  rw [hc]
  unfold eqV Cas.arr
  exact eqi_cons (by kernel_rfl) (by kernel_rfl) (run_equalIn_string w d _ _ _ Tryd.underlying9) (eqi_cons (by kernel_rfl) (by kernel_rfl) (run_equalIn_string w d _ _ _ Tryd.underlying9) (eqi_cons (by kernel_rfl) (by kernel_rfl) (run_equalIn_string w d _ _ _ Tryd.underlying9) (eqi_cons (by kernel_rfl) (by kernel_rfl) (run_equalIn_string w d _ _ _ Tryd.underlying9) (eqi_cons (by kernel_rfl) (by kernel_rfl) (run_equalIn_string w d _ _ _ Tryd.underlying9) eqi_nil))))
theorem casStood : Tryd.prog.stoodInHeld 28 = false := by kernel_rfl
theorem run_eqC (x y : Cas) (w : World) : (Op.equalIn 10000 28 x.agg y.agg).run Tryd.prog w = .ok (eqC x y) w := by
  have h0 := Tryd.underlying28
  have hu : Tryd.prog.underlying 28 = some (.struct (Tryd.prog.fieldsOf 28)) := by unfold Program.fieldsOf; rw [h0]
  unfold Cas.agg
  rw [show (10000 : Nat) = 9997 + 2 + 1 from rfl, run_equalIn_struct w _ _ _ _ hu casStood]
  unfold Program.fieldsOf
  rw [h0]
  dsimp only
  have hv := run_eqV x y 9997 w
  unfold Cas.arr at hv
  unfold eqC
  refine eqf_cons (by decide) ?_ ?_ (run_equalIn_int w 9998 _ .i64 _ _ _ Tryd.underlying3) (eqf_cons (by decide) ?_ ?_ (run_equalIn_int w 9998 _ .i64 _ _ _ Tryd.underlying2) (eqf_cons (by decide) ?_ ?_ (run_equalIn_int w 9998 _ .i64 _ _ _ Tryd.underlying2) (eqf_cons (by decide) ?_ ?_ (run_equalIn_int w 9998 _ .i64 _ _ _ Tryd.underlying3) (eqf_cons (by decide) ?_ ?_ hv eqf_nil)))) <;> kernel_rfl
theorem tl_inj {a b : ByteArray} : a.toList = b.toList ↔ a = b := by
  rw [Lib.toList_data, Lib.toList_data]
  constructor
  · intro h
    cases a; cases b
    simp only at h
    rw [Array.toList_inj.1 h]
  · intro h; rw [h]
theorem eqC_iff (x y : Cas) : eqC x y = true ↔ x = y := by
  obtain ⟨a, b, c, d, e, f, g, h, i⟩ := x
  obtain ⟨a2, b2, c2, d2, e2, f2, g2, hh2, i2⟩ := y
  simp [eqC, eqV, tl_inj]
theorem cas_ne (x y : Cas) (w : World) : (binOp .neq 28 x.agg y.agg).run Tryd.prog w = .ok (.bool (!eqC x y)) w := by
  have h1 := run_eqC x y w
  unfold Cas.agg at h1 ⊢
  rw [run_neq_struct, h1]
  rfl
end Go.Proofs.YtcidllckmidkoaaDoor
