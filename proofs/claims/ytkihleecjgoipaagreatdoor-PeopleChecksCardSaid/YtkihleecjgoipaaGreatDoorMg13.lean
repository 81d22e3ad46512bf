/- '!=' of two homecoming/api.Person. Written by wip/tools/rowlib.py. -/
import Derived.Test.YtkihleecjgoipaaGreatDoorPer
import Derived.Laws.StructEq
import Derived.ChangeKeysEq
import Derived.Test.YtkihleecjgoipaaGreatDoorMg1
import Derived.BigQuiet
import Derived.Deep.QuietTactic
import Derived.Test.YtkihleecjgoipaaGreatDoorSesF
import Derived.Test.YtkihleecjgoipaaGreatDoorMg2
section
namespace Go.Proofs.YtkihleecjgoipaaGreatDoor.Per
open Go.RowKit Go.Maps Go.Proofs.YtkihleecjgoipaaGreatDoor Go.Proofs.YtkihleecjgoipaaGreatDoor.Rw

section
variable {P : Program} {d : Nat} {xs ys : Array Value} {f : Field} {fs : List Field} {a b : Value} {r s : Bool} {w : World}
theorem eqf_cons (hn : (f.name == "_") = false) (ha : (part f.type xs f.offset).run P w = .ok a w) (hb : (part f.type ys f.offset).run P w = .ok b w) (he : (Op.equalIn d f.type a b).run P w = .ok r w) (hr : (Op.eqFields d xs ys fs).run P w = .ok s w) : (Op.eqFields d xs ys (f :: fs)).run P w = .ok (r && s) w := by
  have hn' : f.name ≠ "_" := by simpa using hn
  rw [Op.eqFields]
  simp only [if_pos hn', Sem.run_bind, ha, hb, he, Result.andThen_ok]
  cases r
  · simp
  · simpa using hr
theorem eqf_nil : (Op.eqFields d xs ys []).run P w = .ok true w := by simp [Op.eqFields]
theorem eqi_cons {e : TypeId} {n i : Nat} {is : List Nat} (ha : (part e xs (i * n)).run P w = .ok a w) (hb : (part e ys (i * n)).run P w = .ok b w) (he : (Op.equalIn d e a b).run P w = .ok r w) (hr : (Op.eqItems d e n xs ys is).run P w = .ok s w) : (Op.eqItems d e n xs ys (i :: is)).run P w = .ok (r && s) w := by
  rw [Op.eqItems]
  simp only [Sem.run_bind, ha, hb, he, Result.andThen_ok]
  cases r
  · simp
  · simpa using hr
theorem eqi_nil {e : TypeId} {n : Nat} : (Op.eqItems d e n xs ys []).run P w = .ok true w := by simp [Op.eqItems]
end
def eqV (x y : R) : Bool := (x.c0.toList == y.c0.toList) && ((x.c1.toList == y.c1.toList) && ((x.c2.toList == y.c2.toList) && ((x.c3.toList == y.c3.toList) && ((x.c4.toList == y.c4.toList) && true))))
theorem strInfo : (Tryz.prog.info? 9).isSome = true := by kernel_rfl
theorem run_eqV (x y : R) (d : Nat) (w : World) : (Op.equalIn (d + 2) 32 (.agg #[.string x.c0, .string x.c1, .string x.c2, .string x.c3, .string x.c4]) (.agg #[.string y.c0, .string y.c1, .string y.c2, .string y.c3, .string y.c4])).run Tryz.prog w = .ok (eqV x y) w := by
  obtain ⟨i, hi⟩ := Option.isSome_iff_exists.1 strInfo
  rw [run_equalIn_array w (d + 1) #[.string x.c0, .string x.c1, .string x.c2, .string x.c3, .string x.c4] #[.string y.c0, .string y.c1, .string y.c2, .string y.c3, .string y.c4] Tryz.underlying32 hi]
  show (Op.eqItems (d + 1) 9 (Tryz.prog.cellsOf 9) #[.string x.c0, .string x.c1, .string x.c2, .string x.c3, .string x.c4] #[.string y.c0, .string y.c1, .string y.c2, .string y.c3, .string y.c4] [0, 1, 2, 3, 4]).run Tryz.prog w = _
  have hc : Tryz.prog.cellsOf 9 = 1 := by kernel_rfl
  rw [hc]
  unfold eqV
  exact eqi_cons (by kernel_rfl) (by kernel_rfl) (run_equalIn_string w d _ _ _ Tryz.underlying9) (eqi_cons (by kernel_rfl) (by kernel_rfl) (run_equalIn_string w d _ _ _ Tryz.underlying9) (eqi_cons (by kernel_rfl) (by kernel_rfl) (run_equalIn_string w d _ _ _ Tryz.underlying9) (eqi_cons (by kernel_rfl) (by kernel_rfl) (run_equalIn_string w d _ _ _ Tryz.underlying9) (eqi_cons (by kernel_rfl) (by kernel_rfl) (run_equalIn_string w d _ _ _ Tryz.underlying9) eqi_nil))))
def eqB (x y : R) : Bool := (x.id == y.id) && ((x.mail.toList == y.mail.toList) && ((x.ver == y.ver) && ((x.salt.toList == y.salt.toList) && ((x.chk.toList == y.chk.toList) && ((x.vers == y.vers) && ((x.miss == y.miss) && ((x.lock == y.lock) && (eqV x y && true))))))))
theorem stood : Tryz.prog.stoodInHeld 34 = false := by kernel_rfl
theorem run_eq (x y : R) (w : World) : (Op.equalIn 10000 34 x.agg y.agg).run Tryz.prog w = .ok (eqB x y) w := by
  have h0 := Tryz.underlying34
  have hu : Tryz.prog.underlying 34 = some (.struct (Tryz.prog.fieldsOf 34)) := by unfold Program.fieldsOf; rw [h0]
  unfold R.agg
  rw [show (10000 : Nat) = 9997 + 2 + 1 from rfl, run_equalIn_struct w _ _ _ _ hu stood]
  unfold Program.fieldsOf
  rw [h0]
  dsimp only
  have hv := run_eqV x y 9997 w
  unfold eqB
  refine eqf_cons (by decide) ?_ ?_ (run_equalIn_int w 9998 _ .i64 _ _ _ Tryz.underlying3) (eqf_cons (by decide) ?_ ?_ (run_equalIn_string w 9998 _ _ _ Tryz.underlying9) (eqf_cons (by decide) ?_ ?_ (run_equalIn_bool' w 9998 _ _ _ Tryz.underlying4) (eqf_cons (by decide) ?_ ?_ (run_equalIn_string w 9998 _ _ _ Tryz.underlying9) (eqf_cons (by decide) ?_ ?_ (run_equalIn_string w 9998 _ _ _ Tryz.underlying9) (eqf_cons (by decide) ?_ ?_ (run_equalIn_int w 9998 _ .i64 _ _ _ Tryz.underlying2) (eqf_cons (by decide) ?_ ?_ (run_equalIn_int w 9998 _ .i64 _ _ _ Tryz.underlying3) (eqf_cons (by decide) ?_ ?_ (run_equalIn_int w 9998 _ .i64 _ _ _ Tryz.underlying2) (eqf_cons (by decide) ?_ ?_ hv eqf_nil)))))))) <;> kernel_rfl
theorem tl_eq {a b : ByteArray} : a.toList = b.toList ↔ a = b := by
  rw [ByteArray.toList_eq, ByteArray.toList_eq]
  constructor
  · intro h
    cases a; cases b
    simp only at h
    rw [Array.toList_inj.1 h]
  · intro h; rw [h]
theorem eqB_iff (x y : R) : eqB x y = true ↔ x = y := by
  obtain ⟨a0, a1, a2, a3, a4, a5, a6, a7, a8, a9, a10, a11, a12⟩ := x
  obtain ⟨b0, b1, b2, b3, b4, b5, b6, b7, b8, b9, b10, b11, b12⟩ := y
  simp [eqB, eqV, tl_eq]
theorem ne_run (x y : R) (w : World) : (binOp .neq 34 x.agg y.agg).run Tryz.prog w = .ok (.bool (!eqB x y)) w := by
  have h1 := run_eq x y w
  unfold R.agg at h1 ⊢
  rw [run_neq_struct, h1]
  rfl
end Go.Proofs.YtkihleecjgoipaaGreatDoor.Per
end
/- slices.Equal of two rows of homecoming/api.Person. Written by wip/tools/rowlib.py. -/
section
namespace Go.Proofs.YtkihleecjgoipaaGreatDoor.Per
open Go.RowKit Go.Maps Go.Proofs.YtkihleecjgoipaaGreatDoor Go.Proofs.YtkihleecjgoipaaGreatDoor.Rw

def eqL : List R → List R → Bool
  | [], [] => true
  | x :: l, y :: m => eqB x y && eqL l m
  | _, _ => false
theorem eqL_iff : ∀ L M : List R, eqL L M = true ↔ L = M
  | [], [] => by simp [eqL]
  | [], _ :: _ => by simp [eqL]
  | _ :: _, [] => by simp [eqL]
  | x :: l, y :: m => by
    unfold eqL
    rw [Bool.and_eq_true, eqB_iff, eqL_iff l m]
    simp
theorem eqL_ne {L M : List R} (h : L ≠ M) : eqL L M = false := by
  cases q : eqL L M
  · rfl
  · exact absurd ((eqL_iff L M).1 q) h
theorem eqB_ne {x y : R} (h : eqB x y = false) : x ≠ y := fun e => by
  rw [(eqB_iff x y).2 e] at h
  cases h
set_option maxHeartbeats 4000000 in
set_option maxRecDepth 100000 in
theorem equal_any {B1 B2 c1 c2 : Nat} {a1 a2 : Option Addr} {L M : List R} {w : World} (h1 : owns w B1 (.slice a1 L.length c1) L) (h2 : owns w B2 (.slice a2 M.length c2) M) (l1 : L.length ≤ 1000000) (l2 : M.length ≤ 1000000) :
    Calls Tryz.prog 22 #[.slice a1 L.length c1, .slice a2 M.length c2] w fun e w' => e = .returned (.bool (eqL L M)) ∧ Below w.heap.size w w' := by
  obtain ⟨n, hn⟩ : ∃ n, L.length = n := ⟨_, rfl⟩
  obtain ⟨m, hm⟩ : ∃ m, M.length = m := ⟨_, rfl⟩
  obtain ⟨r, hr⟩ : ∃ r, eqL L M = r := ⟨_, rfl⟩
  have O1 := Lib.hid h1
  have O2 := Lib.hid h2
  have HN := Lib.hid hn
  have HM := Lib.hid hm
  have HR := Lib.hid hr
  rw [hn, hm, hr]
  rw [hn] at l1
  rw [hm] at l2
  clear h1 h2 hn hm hr
  by_cases hnm : n = m
  · subst hnm
    go_enter Tryz.func22, Tryz.ntmps22
    go_wp2_with fail
    go_loopw [13] (fun i wr => ∃ k : Nat, k ≤ n ∧ i = .int .i64 k ∧ (∀ j, j < k → L[j]?.getD zero = M[j]?.getD zero) ∧ Below w.heap.size w wr) (fun i _ => n - (intOf i).toNat)
    case atStart => exact ⟨0, Nat.zero_le _, rfl, by simp, Below.refl _ _⟩
    case round =>
      obtain ⟨k, hk, rfl, hno, hb⟩ := hrel
      have HO := Lib.hid hno
      have WB := Lib.hid hb
      by_cases hkn : k < n
      · have hkn' : (k : Int) < n := by omega
        have hk0 : (0 : Int) ≤ k := by omega
        obtain ⟨g, rfl, _, _, m0, m1, m2, m3, m4, m5, m6, m7, m8, m9, m10, m11, m12⟩ := (O1.out.below hb).all k (by rw [HN.out]; exact hkn)
        obtain ⟨g2, rfl, _, _, d0, d1, d2, d3, d4, d5, d6, d7, d8, d9, d10, d11, d12⟩ := (O2.out.below hb).all k (by rw [HM.out]; exact hkn)
        obtain ⟨x, hx⟩ : ∃ x, L[k]?.getD zero = x := ⟨_, rfl⟩
        obtain ⟨y, hy⟩ : ∃ y, M[k]?.getD zero = y := ⟨_, rfl⟩
        rw [hx] at m0 m1 m2 m3 m4 m5 m6 m7 m8 m9 m10 m11 m12
        rw [hy] at d0 d1 d2 d3 d4 d5 d6 d7 d8 d9 d10 d11 d12
        obtain ⟨q, hq⟩ : ∃ q, eqB x y = q := ⟨_, rfl⟩
        have NE0 := fun w => ne_run x y w
        rw [hq] at NE0
        unfold R.agg at NE0
        have NE := NE0
        have HX := Lib.hid hx
        have HY := Lib.hid hy
        have HQ := Lib.hid hq
        clear hno hb hx hy hq NE0
        cases q
        · have hp : r = false := by
            rw [← HR.out]
            refine eqL_ne (fun e => eqB_ne HQ.out ?_)
            rw [← HX.out, ← HY.out, e]
          have HPP := Lib.hid hp
          clear hp
          go_wp2_with fail
          go_quiet (fail)
          go_wp2_with fail
          go_ret
          exact ⟨ret_bool HPP.out.symm, below_drewN WB.out _⟩
        · go_wp2_with fail
          go_quiet (fail)
          go_wp2_with fail
          go_roundw
          case rel => exact ⟨k + 1, by omega, by go_num, fun j hj => by
            rcases Nat.lt_or_ge j k with e | e
            · exact HO.out j e
            · obtain rfl : j = k := by omega
              rw [HX.out, HY.out]
              exact (eqB_iff x y).1 HQ.out, below_drewN WB.out _⟩
          case measure => simp [intOf]; omega
      · have hkn' : ¬ ((k : Int) < n) := by omega
        obtain rfl : k = n := by omega
        have hp : r = true := by
          rw [← HR.out, eqL_iff]
          refine List.ext_getElem (by rw [HN.out, HM.out]) (fun j h1 h2 => ?_)
          have := hno j (by rw [← HN.out]; exact h1)
          rw [List.getElem?_eq_getElem h1, List.getElem?_eq_getElem h2] at this
          exact this
        have HPP := Lib.hid hp
        clear hno hb hp
        go_wp2_with fail
        go_ret
        exact ⟨ret_bool HPP.out.symm, WB.out⟩
  · have hp : r = false := by
      rw [← HR.out]
      exact eqL_ne (fun e => hnm (by rw [← HN.out, ← HM.out, e]))
    have HPP := Lib.hid hp
    have hq : ((n : Int) == m) = false := by simp; omega
    clear hp
    go_enter Tryz.func22, Tryz.ntmps22
    go_wp2_with fail
    go_ret
    exact ⟨ret_bool HPP.out.symm, Below.refl _ _⟩
end Go.Proofs.YtkihleecjgoipaaGreatDoor.Per
end
/- '!=' of two homecoming/api.Session. Written by wip/tools/rowlib.py. -/
section
namespace Go.Proofs.YtkihleecjgoipaaGreatDoor.Ses
open Go.RowKit Go.Maps Go.Proofs.YtkihleecjgoipaaGreatDoor Go.Proofs.YtkihleecjgoipaaGreatDoor.Rw

section
variable {P : Program} {d : Nat} {xs ys : Array Value} {f : Field} {fs : List Field} {a b : Value} {r s : Bool} {w : World}
theorem eqf_cons (hn : (f.name == "_") = false) (ha : (part f.type xs f.offset).run P w = .ok a w) (hb : (part f.type ys f.offset).run P w = .ok b w) (he : (Op.equalIn d f.type a b).run P w = .ok r w) (hr : (Op.eqFields d xs ys fs).run P w = .ok s w) : (Op.eqFields d xs ys (f :: fs)).run P w = .ok (r && s) w := by
  have hn' : f.name ≠ "_" := by simpa using hn
  rw [Op.eqFields]
  simp only [if_pos hn', Sem.run_bind, ha, hb, he, Result.andThen_ok]
  cases r
  · simp
  · simpa using hr
theorem eqf_nil : (Op.eqFields d xs ys []).run P w = .ok true w := by simp [Op.eqFields]
theorem eqi_cons {e : TypeId} {n i : Nat} {is : List Nat} (ha : (part e xs (i * n)).run P w = .ok a w) (hb : (part e ys (i * n)).run P w = .ok b w) (he : (Op.equalIn d e a b).run P w = .ok r w) (hr : (Op.eqItems d e n xs ys is).run P w = .ok s w) : (Op.eqItems d e n xs ys (i :: is)).run P w = .ok (r && s) w := by
  rw [Op.eqItems]
  simp only [Sem.run_bind, ha, hb, he, Result.andThen_ok]
  cases r
  · simp
  · simpa using hr
theorem eqi_nil {e : TypeId} {n : Nat} : (Op.eqItems d e n xs ys []).run P w = .ok true w := by simp [Op.eqItems]
end
def eqB (x y : R) : Bool := (x.dig.toList == y.dig.toList) && ((x.acc == y.acc) && ((x.exp == y.exp) && true))
theorem stood : Tryz.prog.stoodInHeld 37 = false := by kernel_rfl
theorem run_eq (x y : R) (w : World) : (Op.equalIn 10000 37 x.agg y.agg).run Tryz.prog w = .ok (eqB x y) w := by
  have h0 := Tryz.underlying37
  have hu : Tryz.prog.underlying 37 = some (.struct (Tryz.prog.fieldsOf 37)) := by unfold Program.fieldsOf; rw [h0]
  unfold R.agg
  rw [show (10000 : Nat) = 9997 + 2 + 1 from rfl, run_equalIn_struct w _ _ _ _ hu stood]
  unfold Program.fieldsOf
  rw [h0]
  dsimp only
  unfold eqB
  refine eqf_cons (by decide) ?_ ?_ (run_equalIn_string w 9998 _ _ _ Tryz.underlying9) (eqf_cons (by decide) ?_ ?_ (run_equalIn_int w 9998 _ .i64 _ _ _ Tryz.underlying3) (eqf_cons (by decide) ?_ ?_ (run_equalIn_int w 9998 _ .i64 _ _ _ Tryz.underlying2) eqf_nil)) <;> kernel_rfl
theorem tl_eq {a b : ByteArray} : a.toList = b.toList ↔ a = b := by
  rw [ByteArray.toList_eq, ByteArray.toList_eq]
  constructor
  · intro h
    cases a; cases b
    simp only at h
    rw [Array.toList_inj.1 h]
  · intro h; rw [h]
theorem eqB_iff (x y : R) : eqB x y = true ↔ x = y := by
  obtain ⟨a0, a1, a2⟩ := x
  obtain ⟨b0, b1, b2⟩ := y
  simp [eqB, tl_eq]
theorem ne_run (x y : R) (w : World) : (binOp .neq 37 x.agg y.agg).run Tryz.prog w = .ok (.bool (!eqB x y)) w := by
  have h1 := run_eq x y w
  unfold R.agg at h1 ⊢
  rw [run_neq_struct, h1]
  rfl
end Go.Proofs.YtkihleecjgoipaaGreatDoor.Ses
end
/- slices.Equal of two rows of homecoming/api.Session. Written by wip/tools/rowlib.py. -/
section
namespace Go.Proofs.YtkihleecjgoipaaGreatDoor.Ses
open Go.RowKit Go.Maps Go.Proofs.YtkihleecjgoipaaGreatDoor Go.Proofs.YtkihleecjgoipaaGreatDoor.Rw

def eqL : List R → List R → Bool
  | [], [] => true
  | x :: l, y :: m => eqB x y && eqL l m
  | _, _ => false
theorem eqL_iff : ∀ L M : List R, eqL L M = true ↔ L = M
  | [], [] => by simp [eqL]
  | [], _ :: _ => by simp [eqL]
  | _ :: _, [] => by simp [eqL]
  | x :: l, y :: m => by
    unfold eqL
    rw [Bool.and_eq_true, eqB_iff, eqL_iff l m]
    simp
theorem eqL_ne {L M : List R} (h : L ≠ M) : eqL L M = false := by
  cases q : eqL L M
  · rfl
  · exact absurd ((eqL_iff L M).1 q) h
theorem eqB_ne {x y : R} (h : eqB x y = false) : x ≠ y := fun e => by
  rw [(eqB_iff x y).2 e] at h
  cases h
set_option maxHeartbeats 4000000 in
set_option maxRecDepth 100000 in
theorem equal_any {B1 B2 c1 c2 : Nat} {a1 a2 : Option Addr} {L M : List R} {w : World} (h1 : owns w B1 (.slice a1 L.length c1) L) (h2 : owns w B2 (.slice a2 M.length c2) M) (l1 : L.length ≤ 1000000) (l2 : M.length ≤ 1000000) :
    Calls Tryz.prog 23 #[.slice a1 L.length c1, .slice a2 M.length c2] w fun e w' => e = .returned (.bool (eqL L M)) ∧ Below w.heap.size w w' := by
  obtain ⟨n, hn⟩ : ∃ n, L.length = n := ⟨_, rfl⟩
  obtain ⟨m, hm⟩ : ∃ m, M.length = m := ⟨_, rfl⟩
  obtain ⟨r, hr⟩ : ∃ r, eqL L M = r := ⟨_, rfl⟩
  have O1 := Lib.hid h1
  have O2 := Lib.hid h2
  have HN := Lib.hid hn
  have HM := Lib.hid hm
  have HR := Lib.hid hr
  rw [hn, hm, hr]
  rw [hn] at l1
  rw [hm] at l2
  clear h1 h2 hn hm hr
  by_cases hnm : n = m
  · subst hnm
    go_enter Tryz.func23, Tryz.ntmps23
    go_wp2_with fail
    go_loopw [13] (fun i wr => ∃ k : Nat, k ≤ n ∧ i = .int .i64 k ∧ (∀ j, j < k → L[j]?.getD zero = M[j]?.getD zero) ∧ Below w.heap.size w wr) (fun i _ => n - (intOf i).toNat)
    case atStart => exact ⟨0, Nat.zero_le _, rfl, by simp, Below.refl _ _⟩
    case round =>
      obtain ⟨k, hk, rfl, hno, hb⟩ := hrel
      have HO := Lib.hid hno
      have WB := Lib.hid hb
      by_cases hkn : k < n
      · have hkn' : (k : Int) < n := by omega
        have hk0 : (0 : Int) ≤ k := by omega
        obtain ⟨g, rfl, _, _, m0, m1, m2⟩ := (O1.out.below hb).all k (by rw [HN.out]; exact hkn)
        obtain ⟨g2, rfl, _, _, d0, d1, d2⟩ := (O2.out.below hb).all k (by rw [HM.out]; exact hkn)
        obtain ⟨x, hx⟩ : ∃ x, L[k]?.getD zero = x := ⟨_, rfl⟩
        obtain ⟨y, hy⟩ : ∃ y, M[k]?.getD zero = y := ⟨_, rfl⟩
        rw [hx] at m0 m1 m2
        rw [hy] at d0 d1 d2
        obtain ⟨q, hq⟩ : ∃ q, eqB x y = q := ⟨_, rfl⟩
        have NE0 := fun w => ne_run x y w
        rw [hq] at NE0
        unfold R.agg at NE0
        have NE := NE0
        have HX := Lib.hid hx
        have HY := Lib.hid hy
        have HQ := Lib.hid hq
        clear hno hb hx hy hq NE0
        cases q
        · have hp : r = false := by
            rw [← HR.out]
            refine eqL_ne (fun e => eqB_ne HQ.out ?_)
            rw [← HX.out, ← HY.out, e]
          have HPP := Lib.hid hp
          clear hp
          go_wp2_with fail
          go_quiet (fail)
          go_wp2_with fail
          go_ret
          exact ⟨ret_bool HPP.out.symm, below_drewN WB.out _⟩
        · go_wp2_with fail
          go_quiet (fail)
          go_wp2_with fail
          go_roundw
          case rel => exact ⟨k + 1, by omega, by go_num, fun j hj => by
            rcases Nat.lt_or_ge j k with e | e
            · exact HO.out j e
            · obtain rfl : j = k := by omega
              rw [HX.out, HY.out]
              exact (eqB_iff x y).1 HQ.out, below_drewN WB.out _⟩
          case measure => simp [intOf]; omega
      · have hkn' : ¬ ((k : Int) < n) := by omega
        obtain rfl : k = n := by omega
        have hp : r = true := by
          rw [← HR.out, eqL_iff]
          refine List.ext_getElem (by rw [HN.out, HM.out]) (fun j h1 h2 => ?_)
          have := hno j (by rw [← HN.out]; exact h1)
          rw [List.getElem?_eq_getElem h1, List.getElem?_eq_getElem h2] at this
          exact this
        have HPP := Lib.hid hp
        clear hno hb hp
        go_wp2_with fail
        go_ret
        exact ⟨ret_bool HPP.out.symm, WB.out⟩
  · have hp : r = false := by
      rw [← HR.out]
      exact eqL_ne (fun e => hnm (by rw [← HN.out, ← HM.out, e]))
    have HPP := Lib.hid hp
    have hq : ((n : Int) == m) = false := by simp; omega
    clear hp
    go_enter Tryz.func23, Tryz.ntmps23
    go_wp2_with fail
    go_ret
    exact ⟨ret_bool HPP.out.symm, Below.refl _ _⟩
end Go.Proofs.YtkihleecjgoipaaGreatDoor.Ses
end
/- people.Same. -/
section
namespace Go.Proofs.YtkihleecjgoipaaGreatDoor
open Go.RowKit Go.Maps Go.Proofs.YtkihleecjgoipaaGreatDoor.Rw

def sameB (p q : Ppl) : Bool := Per.eqL p.ps q.ps && Ses.eqL p.ss q.ss
theorem sameB_iff (p q : Ppl) : sameB p q = true ↔ p = q := by
  unfold sameB
  rw [Bool.and_eq_true, Per.eqL_iff, Ses.eqL_iff]
  constructor
  · rintro ⟨h1, h2⟩
    cases p; cases q
    simp only at h1 h2
    rw [h1, h2]
  · rintro rfl
    exact ⟨rfl, rfl⟩
set_option maxHeartbeats 4000000 in
set_option maxRecDepth 100000 in
theorem same_any {B1 B2 : Nat} {v1 v2 : Value} {p q : Ppl} {w : World} (h1 : pown w B1 v1 p) (h2 : pown w B2 v2 q) (l1 : few p) (l2 : few q) :
    Calls Tryz.prog 10 #[v1, v2] w fun e w' => e = .returned (.bool (sameB p q)) ∧ Below w.heap.size w w' := by
  obtain ⟨a, c, a', c', rfl, o1, o2⟩ := h1
  obtain ⟨d, f, d', f', rfl, r1, r2⟩ := h2
  have hb : Below w.heap.size w ((w.alloc (pobj (.slice a p.ps.length c) (.slice a' p.ss.length c'))).alloc (pobj (.slice d q.ps.length f) (.slice d' q.ss.length f'))) := ((Below.refl _ _).alloc (Nat.le_refl _) _).alloc (by simp) _
  have z1 : (w.alloc (pobj (.slice a p.ps.length c) (.slice a' p.ss.length c'))).heap.size = w.heap.size + 1 := by simp
  have PA := fun w2 b => pbox_later (w := w) (w2 := w2) (.slice a p.ps.length c) (.slice a' p.ss.length c') (B := w.heap.size + 1) (Nat.lt_succ_self _) b
  have PB := fun w2 b => pbox_later (w := w.alloc (pobj (.slice a p.ps.length c) (.slice a' p.ss.length c'))) (w2 := w2) (.slice d q.ps.length f) (.slice d' q.ss.length f') (B := w.heap.size + 2) (by omega) b
  rw [z1] at PB
  have z2 : ((w.alloc (pobj (.slice a p.ps.length c) (.slice a' p.ss.length c'))).alloc (pobj (.slice d q.ps.length f) (.slice d' q.ss.length f'))).heap.size = w.heap.size + 2 := by simp
  have CX : Hid (∀ w2, Below (w.heap.size + 2) ((w.alloc (pobj (.slice a p.ps.length c) (.slice a' p.ss.length c'))).alloc (pobj (.slice d q.ps.length f) (.slice d' q.ss.length f'))) w2 → ((w2.cell? ⟨w.heap.size, 0, none⟩ = some (.slice a p.ps.length c) ∧ w2.cell? ⟨w.heap.size, 1, none⟩ = some (.slice a' p.ss.length c')) ∧ (w2.cell? ⟨w.heap.size + 1, 0, none⟩ = some (.slice d q.ps.length f) ∧ w2.cell? ⟨w.heap.size + 1, 1, none⟩ = some (.slice d' q.ss.length f'))) ∧ Below w.heap.size w w2) := Lib.hid (fun w2 b =>
    ⟨⟨PA w2 (((Below.refl _ _).alloc (by omega) _).trans (b.mono (by omega))), PB w2 b⟩, hb.trans (b.mono (by omega))⟩)
  have EP := Lib.hid (Per.equal_any (o1.below hb) (r1.below hb) (by have := l1.1; omega) (by have := l2.1; omega))
  have ES : Hid (∀ w2, Below (w.heap.size + 2) ((w.alloc (pobj (.slice a p.ps.length c) (.slice a' p.ss.length c'))).alloc (pobj (.slice d q.ps.length f) (.slice d' q.ss.length f'))) w2 → Calls Tryz.prog 23 #[.slice a' p.ss.length c', .slice d' q.ss.length f'] w2 fun e w' => e = .returned (.bool (Ses.eqL p.ss q.ss)) ∧ Below w2.heap.size w2 w') := Lib.hid (fun w2 b =>
    Ses.equal_any (o2.below (CX.out w2 b).2) (r2.below (CX.out w2 b).2) (by have := l1.2; omega) (by have := l2.2; omega))
  have SB : Hid (sameB p q = (Per.eqL p.ps q.ps && Ses.eqL p.ss q.ss)) := Lib.hid rfl
  have Z2 := Lib.hid z2
  obtain ⟨⟨⟨x0, x1⟩, ⟨y0, y1⟩⟩, _⟩ := CX.out _ (Below.refl _ _)
  generalize sameB p q = r at *
  generalize Per.eqL p.ps q.ps = q1 at *
  generalize Ses.eqL p.ss q.ss = q2 at *
  clear o1 o2 r1 r2 hb z1 z2 PA PB l1 l2
  unfold pobj at *
  cases q1
  · go_enter Tryz.func10, Tryz.ntmps10
    go_wp2_with (go_at_call 22; (with_reducible refine (EP.out).mono ?_); rintro z w3 ⟨rfl, b3⟩; rw [Z2.out] at b3; have B3 := Lib.hid b3; clear b3)
    go_ret
    exact ⟨ret_bool (by rw [SB.out]; rfl), (CX.out _ B3.out).2⟩
  · go_enter Tryz.func10, Tryz.ntmps10
    go_wp2_with (first
      | (go_at_call 22; (with_reducible refine (EP.out).mono ?_); rintro z w3 ⟨rfl, b3⟩; rw [Z2.out] at b3; have B3 := Lib.hid b3; clear b3; obtain ⟨⟨⟨g0, g1⟩, ⟨k0, k1⟩⟩, _⟩ := CX.out _ B3.out)
      | (go_at_call 23; (with_reducible refine (ES.out _ B3.out).mono ?_); rintro z w4 ⟨rfl, b4⟩; have B4 := Lib.hid (B3.out.trans (b4.mono (by have := B3.out.size; have := Z2.out; omega))); clear b4))
    go_ret
    exact ⟨ret_bool (by rw [SB.out]; rfl), (CX.out _ B4.out).2⟩
end Go.Proofs.YtkihleecjgoipaaGreatDoor
end
