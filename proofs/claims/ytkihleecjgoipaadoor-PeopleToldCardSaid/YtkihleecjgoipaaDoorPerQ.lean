/- '!=' of two homecoming/api.Person. Written by wip/tools/rowlib.py. -/
import Derived.Test.YtkihleecjgoipaaDoorPer
import Derived.Laws.StructEq
import Derived.ChangeKeysEq
namespace Go.Proofs.YtkihleecjgoipaaDoor.Per
open Go.RowKit Go.Maps Go.Proofs.YtkihleecjgoipaaDoor Go.Proofs.YtkihleecjgoipaaDoor.Rw

section
variable {P : Program} {d : Nat} {xs ys : Array Value} {f : Field} {fs : List Field} {a b : Value} {r s : Bool} {w : World}
theorem eqf_cons (hn : (f.name == "_") = false) (ha : (part f.type xs f.offset).run P w = .ok a w) (hb : (part f.type ys f.offset).run P w = .ok b w) (he : (Op.equalIn d f.type a b).run P w = .ok r w) (hr : (Op.eqFields d xs ys fs).run P w = .ok s w) : (Op.eqFields d xs ys (f :: fs)).run P w = .ok (r && s) w := by
  have hn' : f.name ≠ "_" := by simpa using hn
  rw [Op.eqFields]
  simp only [if_pos hn', Sem.run_bind, ha, hb, he, Result.andThen_ok]
  cases r
  · simp
  · simpa using hr
theorem eqf_nil : (Op.eqFields d xs ys []).run P w = .ok true w := by simp [Op.eqFields]
theorem eqi_cons {e : TypeId} {n i : Nat} {is : List Nat} (ha : (part e xs (i * n)).run P w = .ok a w) (hb : (part e ys (i * n)).run P w = .ok b w) (he : (Op.equalIn d e a b).run P w = .ok r w) (hr : (Op.eqItems d e n xs ys is).run P w = .ok s w) : (Op.eqItems d e n xs ys (i :: is)).run P w = .ok (r && s) w := by
  rw [Op.eqItems]
  simp only [Sem.run_bind, ha, hb, he, Result.andThen_ok]
  cases r
  · simp
  · simpa using hr
theorem eqi_nil {e : TypeId} {n : Nat} : (Op.eqItems d e n xs ys []).run P w = .ok true w := by simp [Op.eqItems]
end
def eqV (x y : R) : Bool := (x.c0.toList == y.c0.toList) && ((x.c1.toList == y.c1.toList) && ((x.c2.toList == y.c2.toList) && ((x.c3.toList == y.c3.toList) && ((x.c4.toList == y.c4.toList) && true))))
theorem strInfo : (Tryd.prog.info? 9).isSome = true := by kernel_rfl
theorem run_eqV (x y : R) (d : Nat) (w : World) : (Op.equalIn (d + 2) 36 (.agg #[.string x.c0, .string x.c1, .string x.c2, .string x.c3, .string x.c4]) (.agg #[.string y.c0, .string y.c1, .string y.c2, .string y.c3, .string y.c4])).run Tryd.prog w = .ok (eqV x y) w := by
  obtain ⟨i, hi⟩ := Option.isSome_iff_exists.1 strInfo
  rw [run_equalIn_array w (d + 1) #[.string x.c0, .string x.c1, .string x.c2, .string x.c3, .string x.c4] #[.string y.c0, .string y.c1, .string y.c2, .string y.c3, .string y.c4] Tryd.underlying36 hi]
  show (Op.eqItems (d + 1) 9 (Tryd.prog.cellsOf 9) #[.string x.c0, .string x.c1, .string x.c2, .string x.c3, .string x.c4] #[.string y.c0, .string y.c1, .string y.c2, .string y.c3, .string y.c4] [0, 1, 2, 3, 4]).run Tryd.prog w = _
  have hc : Tryd.prog.cellsOf 9 = 1 := by kernel_rfl
  rw [hc]
  unfold eqV
  exact eqi_cons (by kernel_rfl) (by kernel_rfl) (run_equalIn_string w d _ _ _ Tryd.underlying9) (eqi_cons (by kernel_rfl) (by kernel_rfl) (run_equalIn_string w d _ _ _ Tryd.underlying9) (eqi_cons (by kernel_rfl) (by kernel_rfl) (run_equalIn_string w d _ _ _ Tryd.underlying9) (eqi_cons (by kernel_rfl) (by kernel_rfl) (run_equalIn_string w d _ _ _ Tryd.underlying9) (eqi_cons (by kernel_rfl) (by kernel_rfl) (run_equalIn_string w d _ _ _ Tryd.underlying9) eqi_nil))))
def eqB (x y : R) : Bool := (x.id == y.id) && ((x.mail.toList == y.mail.toList) && ((x.ver == y.ver) && ((x.salt.toList == y.salt.toList) && ((x.chk.toList == y.chk.toList) && ((x.vers == y.vers) && ((x.miss == y.miss) && ((x.lock == y.lock) && (eqV x y && true))))))))
theorem stood : Tryd.prog.stoodInHeld 38 = false := by kernel_rfl
theorem run_eq (x y : R) (w : World) : (Op.equalIn 10000 38 x.agg y.agg).run Tryd.prog w = .ok (eqB x y) w := by
  have h0 := Tryd.underlying38
  have hu : Tryd.prog.underlying 38 = some (.struct (Tryd.prog.fieldsOf 38)) := by unfold Program.fieldsOf; rw [h0]
  unfold R.agg
  rw [show (10000 : Nat) = 9997 + 2 + 1 from rfl, run_equalIn_struct w _ _ _ _ hu stood]
  unfold Program.fieldsOf
  rw [h0]
  dsimp only
  have hv := run_eqV x y 9997 w
  unfold eqB
  refine eqf_cons (by decide) ?_ ?_ (run_equalIn_int w 9998 _ .i64 _ _ _ Tryd.underlying3) (eqf_cons (by decide) ?_ ?_ (run_equalIn_string w 9998 _ _ _ Tryd.underlying9) (eqf_cons (by decide) ?_ ?_ (run_equalIn_bool' w 9998 _ _ _ Tryd.underlying4) (eqf_cons (by decide) ?_ ?_ (run_equalIn_string w 9998 _ _ _ Tryd.underlying9) (eqf_cons (by decide) ?_ ?_ (run_equalIn_string w 9998 _ _ _ Tryd.underlying9) (eqf_cons (by decide) ?_ ?_ (run_equalIn_int w 9998 _ .i64 _ _ _ Tryd.underlying2) (eqf_cons (by decide) ?_ ?_ (run_equalIn_int w 9998 _ .i64 _ _ _ Tryd.underlying3) (eqf_cons (by decide) ?_ ?_ (run_equalIn_int w 9998 _ .i64 _ _ _ Tryd.underlying2) (eqf_cons (by decide) ?_ ?_ hv eqf_nil)))))))) <;> kernel_rfl
theorem tl_eq {a b : ByteArray} : a.toList = b.toList ↔ a = b := by
  rw [ByteArray.toList_eq, ByteArray.toList_eq]
  constructor
  · intro h
    cases a; cases b
    simp only at h
    rw [Array.toList_inj.1 h]
  · intro h; rw [h]
theorem eqB_iff (x y : R) : eqB x y = true ↔ x = y := by
  obtain ⟨a0, a1, a2, a3, a4, a5, a6, a7, a8, a9, a10, a11, a12⟩ := x
  obtain ⟨b0, b1, b2, b3, b4, b5, b6, b7, b8, b9, b10, b11, b12⟩ := y
  simp [eqB, eqV, tl_eq]
theorem ne_run (x y : R) (w : World) : (binOp .neq 38 x.agg y.agg).run Tryd.prog w = .ok (.bool (!eqB x y)) w := by
  have h1 := run_eq x y w
  unfold R.agg at h1 ⊢
  rw [run_neq_struct, h1]
  rfl
end Go.Proofs.YtkihleecjgoipaaDoor.Per
