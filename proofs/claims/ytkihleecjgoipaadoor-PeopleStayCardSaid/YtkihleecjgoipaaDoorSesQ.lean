/- '!=' of two homecoming/api.Session. Written by wip/tools/rowlib.py. -/
import Derived.Test.YtkihleecjgoipaaDoorSes
import Derived.Laws.StructEq
import Derived.ChangeKeysEq
namespace Go.Proofs.YtkihleecjgoipaaDoor.Ses
open Go.RowKit Go.Maps Go.Proofs.YtkihleecjgoipaaDoor Go.Proofs.YtkihleecjgoipaaDoor.Rw

section
variable {P : Program} {d : Nat} {xs ys : Array Value} {f : Field} {fs : List Field} {a b : Value} {r s : Bool} {w : World}
theorem eqf_cons (hn : (f.name == "_") = false) (ha : (part f.type xs f.offset).run P w = .ok a w) (hb : (part f.type ys f.offset).run P w = .ok b w) (he : (Op.equalIn d f.type a b).run P w = .ok r w) (hr : (Op.eqFields d xs ys fs).run P w = .ok s w) : (Op.eqFields d xs ys (f :: fs)).run P w = .ok (r && s) w := by
  have hn' : f.name ≠ "_" := by simpa using hn
  rw [Op.eqFields]
  simp only [if_pos hn', Sem.run_bind, ha, hb, he, Result.andThen_ok]
  cases r
  · simp
  · simpa using hr
theorem eqf_nil : (Op.eqFields d xs ys []).run P w = .ok true w := by simp [Op.eqFields]
theorem eqi_cons {e : TypeId} {n i : Nat} {is : List Nat} (ha : (part e xs (i * n)).run P w = .ok a w) (hb : (part e ys (i * n)).run P w = .ok b w) (he : (Op.equalIn d e a b).run P w = .ok r w) (hr : (Op.eqItems d e n xs ys is).run P w = .ok s w) : (Op.eqItems d e n xs ys (i :: is)).run P w = .ok (r && s) w := by
  rw [Op.eqItems]
  simp only [Sem.run_bind, ha, hb, he, Result.andThen_ok]
  cases r
  · simp
  · simpa using hr
theorem eqi_nil {e : TypeId} {n : Nat} : (Op.eqItems d e n xs ys []).run P w = .ok true w := by simp [Op.eqItems]
end
def eqB (x y : R) : Bool := (x.dig.toList == y.dig.toList) && ((x.acc == y.acc) && ((x.exp == y.exp) && true))
theorem stood : Tryd.prog.stoodInHeld 47 = false := by kernel_rfl
theorem run_eq (x y : R) (w : World) : (Op.equalIn 10000 47 x.agg y.agg).run Tryd.prog w = .ok (eqB x y) w := by
  have h0 := Tryd.underlying47
  have hu : Tryd.prog.underlying 47 = some (.struct (Tryd.prog.fieldsOf 47)) := by unfold Program.fieldsOf; rw [h0]
  unfold R.agg
  rw [show (10000 : Nat) = 9997 + 2 + 1 from rfl, run_equalIn_struct w _ _ _ _ hu stood]
  unfold Program.fieldsOf
  rw [h0]
  dsimp only
  unfold eqB
  refine eqf_cons (by decide) ?_ ?_ (run_equalIn_string w 9998 _ _ _ Tryd.underlying9) (eqf_cons (by decide) ?_ ?_ (run_equalIn_int w 9998 _ .i64 _ _ _ Tryd.underlying3) (eqf_cons (by decide) ?_ ?_ (run_equalIn_int w 9998 _ .i64 _ _ _ Tryd.underlying2) eqf_nil)) <;> kernel_rfl
theorem tl_eq {a b : ByteArray} : a.toList = b.toList ↔ a = b := by
  rw [ByteArray.toList_eq, ByteArray.toList_eq]
  constructor
  · intro h
    cases a; cases b
    simp only at h
    rw [Array.toList_inj.1 h]
  · intro h; rw [h]
theorem eqB_iff (x y : R) : eqB x y = true ↔ x = y := by
  obtain ⟨a0, a1, a2⟩ := x
  obtain ⟨b0, b1, b2⟩ := y
  simp [eqB, tl_eq]
theorem ne_run (x y : R) (w : World) : (binOp .neq 47 x.agg y.agg).run Tryd.prog w = .ok (.bool (!eqB x y)) w := by
  have h1 := run_eq x y w
  unfold R.agg at h1 ⊢
  rw [run_neq_struct, h1]
  rfl
end Go.Proofs.YtkihleecjgoipaaDoor.Ses
