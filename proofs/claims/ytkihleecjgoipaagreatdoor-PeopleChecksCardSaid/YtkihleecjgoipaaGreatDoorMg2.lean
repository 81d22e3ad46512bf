/- api.Event by value: what its cells hold. -/
import Derived.Test.YtkihleecjgoipaaGreatDoorSmall
import Derived.Test.YtkihleecjgoipaaGreatDoorMg1
import Derived.Test.YtkihleecjgoipaaGreatDoorSesF
import Derived.Test.YtkihleecjgoipaaGreatDoorAddr3
import Derived.BigQuiet
section
namespace Go.Proofs.YtkihleecjgoipaaGreatDoor
open Go.RowKit Go.Maps

structure Evn where
  kind : Int
  acc : Int
  pur : Int
  at_ : Int
  num : Int
  a : ByteArray
  b : ByteArray
  c : ByteArray
def Evn.agg (e : Evn) : Value := .agg #[.int .i64 e.kind, .int .i64 e.acc, .int .i64 e.pur, .int .i64 e.at_, .int .i64 e.num, .string e.a, .string e.b, .string e.c]
def Evn.obj (e : Evn) : Obj := .cells #[.int .i64 e.kind, .int .i64 e.acc, .int .i64 e.pur, .int .i64 e.at_, .int .i64 e.num, .string e.a, .string e.b, .string e.c] 46
/-- The block g holds the event. -/
def EvAt (w : World) (g : Nat) (e : Evn) : Prop := w.cell? ⟨g, 0, none⟩ = some (.int .i64 e.kind) ∧ w.cell? ⟨g, 1, none⟩ = some (.int .i64 e.acc) ∧ w.cell? ⟨g, 2, none⟩ = some (.int .i64 e.pur) ∧ w.cell? ⟨g, 3, none⟩ = some (.int .i64 e.at_) ∧
    w.cell? ⟨g, 4, none⟩ = some (.int .i64 e.num) ∧ w.cell? ⟨g, 5, none⟩ = some (.string e.a) ∧ w.cell? ⟨g, 6, none⟩ = some (.string e.b) ∧ w.cell? ⟨g, 7, none⟩ = some (.string e.c)
theorem EvAt.of {w : World} {g : Nat} {e : Evn} (h : w.heap[g]? = some e.obj) : EvAt w g e := by
  refine ⟨?_, ?_, ?_, ?_, ?_, ?_, ?_, ?_⟩ <;> rw [Lib.cell_of_heap h] <;> rfl
theorem EvAt.new (w : World) (e : Evn) : EvAt (w.alloc e.obj) w.heap.size e := EvAt.of (heap_new w e.obj)
theorem EvAt.below {w w2 : World} {g : Nat} {e : Evn} (h : EvAt w g e) {B : Nat} (b : Below B w w2) (hl : g < B) : EvAt w2 g e := by
  obtain ⟨z0, z1, z2, z3, z4, z5, z6, z7⟩ := h
  exact ⟨(b.cell (p := ⟨g, 0, none⟩) hl).trans z0, (b.cell (p := ⟨g, 1, none⟩) hl).trans z1, (b.cell (p := ⟨g, 2, none⟩) hl).trans z2, (b.cell (p := ⟨g, 3, none⟩) hl).trans z3, (b.cell (p := ⟨g, 4, none⟩) hl).trans z4, (b.cell (p := ⟨g, 5, none⟩) hl).trans z5, (b.cell (p := ⟨g, 6, none⟩) hl).trans z6, (b.cell (p := ⟨g, 7, none⟩) hl).trans z7⟩
end Go.Proofs.YtkihleecjgoipaaGreatDoor
end
/- mint.Clock alone: for a seat that holds it and not the rest of mint. -/
section
namespace Go.Proofs.YtkihleecjgoipaaGreatDoor
open Go.RowKit

/-- A time, so many ticks on. -/
def clk (n t : Int) : Int := if n < 0 ∨ t < 0 then 0 else min (min n 1099511627776 + min t 1099511627776) 1099511627776
set_option maxHeartbeats 1000000 in
set_option maxRecDepth 100000 in
theorem clock_any (n t : Int) (w : World) :
    Calls Tryz.prog 67 #[.int .i64 n, .int .i64 t] w fun e w' => e = .returned (.int .i64 (clk n t)) ∧ w' = w := by
  have HC : Hid (clk n t = if n < 0 ∨ t < 0 then 0 else min (min n 1099511627776 + min t 1099511627776) 1099511627776) := rfl
  by_cases h1 : n < 0 <;> by_cases h2 : t < 0 <;> by_cases h3 : 1099511627776 < n <;> by_cases h4 : 1099511627776 < t
  all_goals try omega
  all_goals
    go_enter Tryz.func67, Tryz.ntmps67
    go_wp2
  all_goals
    go_ret
    refine ⟨?_, rfl⟩
    rw [HC.out]
    first
      | rfl
      | (refine ret_int ?_; omega)
      | (refine ret_int ?_; simp only [Int.min_def]; (repeat' split) <;> omega)
end Go.Proofs.YtkihleecjgoipaaGreatDoor
end
/- What people's functions do, in plain words. -/
section
namespace Go.Proofs.YtkihleecjgoipaaGreatDoor
open Go.RowKit Go.Maps

theorem tl_inj {a b : ByteArray} : a.toList = b.toList ↔ a = b := by
  rw [Lib.toList_data, Lib.toList_data]
  constructor
  · intro h
    cases a; cases b
    simp only at h
    rw [Array.toList_inj.1 h]
  · intro h; rw [h]
theorem eqS_dec (a b : ByteArray) : (a.toList == b.toList) = decide (a = b) := by
  rw [Bool.eq_iff_iff, beq_iff_eq, decide_eq_true_eq, tl_inj]
theorem emp_dec (a : ByteArray) : a.toList.isEmpty = decide (a = ⟨#[]⟩) := by
  rw [← eqS_dec]
  have h : (⟨#[]⟩ : ByteArray).toList = [] := by rw [Lib.toList_data]
  rw [h]
  cases a.toList <;> rfl
structure Ppl where
  ps : List Per.R
  ss : List Ses.R
/-- People as a value: two rows, each of its own, from block B on. -/
def pown (w : World) (B : Nat) (v : Value) (p : Ppl) : Prop := ∃ a c a' c', v = .agg #[.slice a p.ps.length c, .slice a' p.ss.length c'] ∧ Per.owns w B (.slice a p.ps.length c) p.ps ∧ Ses.owns w B (.slice a' p.ss.length c') p.ss
theorem pown.below {w w' : World} {B : Nat} {v : Value} {p : Ppl} (h : pown w B v p) (b : Below w.heap.size w w') : pown w' B v p := by
  obtain ⟨a, c, a', c', e, h1, h2⟩ := h
  exact ⟨a, c, a', c', e, h1.below b, h2.below b⟩
theorem pown.mono {w : World} {B B' : Nat} {v : Value} {p : Ppl} (h : pown w B v p) (hB : B' ≤ B) : pown w B' v p := by
  obtain ⟨a, c, a', c', e, h1, h2⟩ := h
  exact ⟨a, c, a', c', e, h1.mono hB, h2.mono hB⟩
theorem pown.nil (w : World) (B : Nat) : pown w B (.agg #[.slice none 0 0, .slice none 0 0]) ⟨[], []⟩ := ⟨none, 0, none, 0, rfl, Per.owns.nil _ _, Ses.owns.nil _ _⟩
def few (p : Ppl) : Prop := p.ps.length ≤ 100000 ∧ p.ss.length ≤ 100000
def onesB (s : ByteArray) : Bool := decide (kindOf s = 1)
def keyB (s c : ByteArray) : Bool := decide (1 ≤ s.size) && decide (s.size ≤ 16) && decide (c.size = 32)
def Per.R.cs (x : Per.R) : List ByteArray := [x.c0, x.c1, x.c2, x.c3, x.c4]
def hasB (x : Per.R) (m : ByteArray) : Bool := !decide (m = ⟨#[]⟩) && x.cs.any (fun c => decide (c = m))
def freeE (x : Per.R) (m : ByteArray) (there : Bool) : Int := if onesB m = false then 1 else if (there || hasB x m) = true then 14 else 0
def missF (x : Per.R) (now : Int) : Per.R := if 5 ≤ x.miss + 1 then { x with miss := 0, lock := clk now 100 } else { x with miss := x.miss + 1 }
def putC (x : Per.R) (k : Nat) (m : ByteArray) : Per.R := if k = 0 then { x with c0 := m } else if k = 1 then { x with c1 := m } else if k = 2 then { x with c2 := m } else if k = 3 then { x with c3 := m } else { x with c4 := m }
/-- The place of the first contact that is empty. -/
def gap (x : Per.R) : Nat := x.cs.findIdx (fun c => decide (c = ⟨#[]⟩))
def contE (x : Per.R) (m : ByteArray) : Int := if freeE x m (decide (x.mail = m)) ≠ 0 then freeE x m (decide (x.mail = m)) else if 5 ≤ gap x then 15 else 0
def contF (x : Per.R) (m : ByteArray) : Per.R := if contE x m = 0 then putC x (gap x) m else x
def byB (p : Ppl) (m : ByteArray) : Bool := p.ps.any (fun x => decide (x.mail = m))
def movE (p : Ppl) (x : Per.R) (m : ByteArray) : Int := freeE x m (byB p m)
def movF (p : Ppl) (x : Per.R) (m : ByteArray) : Per.R := if movE p x m = 0 then { x with mail := m, ver := true } else x
def pasE (s c : ByteArray) : Int := if keyB s c = true then 0 else 1
def pasF (x : Per.R) (s c : ByteArray) : Per.R := if keyB s c = true then { x with salt := s, chk := c, vers := min (x.vers + 1) 1099511627776, miss := 0, lock := 0 } else x
def doesE (p : Ppl) (x : Per.R) (e : Evn) : Int := if e.kind = 3 then pasE e.b e.c else if e.kind = 6 then movE p x e.a else if e.kind = 7 then contE x e.a else 0
def doesF (p : Ppl) (x : Per.R) (e : Evn) : Per.R := if e.kind = 2 then { x with ver := true } else if e.kind = 3 then pasF x e.b e.c else if e.kind = 4 then missF x e.at_ else if e.kind = 5 then { x with miss := 0 } else if e.kind = 6 then movF p x e.a else if e.kind = 7 then contF x e.a else x
def nextN (p : Ppl) : Int := if p.ps.length = 0 then 1 else (p.ps[p.ps.length - 1]?.getD Per.zero).id + 1
def newP (e : Evn) : Per.R := ⟨e.acc, e.a, false, e.b, e.c, 1, 0, 0, ⟨#[]⟩, ⟨#[]⟩, ⟨#[]⟩, ⟨#[]⟩, ⟨#[]⟩⟩
def sgnE (p : Ppl) (e : Evn) : Int := if onesB e.a = false ∨ keyB e.b e.c = false ∨ e.acc ≠ nextN p ∨ 99 < e.acc then 1 else if byB p e.a = true then 14 else if 12 ≤ p.ps.length then 15 else 0
def sgnR (p : Ppl) (e : Evn) : Ppl := if sgnE p e = 0 then ⟨p.ps ++ [newP e], p.ss⟩ else p
def lasts (p : Ppl) (now : Int) : List Ses.R := p.ss.filter (fun s => !decide (s.exp ≤ now))
def sesE (p : Ppl) (e : Evn) : Int := if e.c.size ≠ 32 then 1 else if p.ss.any (fun s => decide (s.dig = e.c)) = true then 14 else if 16 ≤ (lasts p e.at_).length then 15 else 0
def sesR (p : Ppl) (e : Evn) : Ppl := if sesE p e = 0 then ⟨p.ps, lasts p e.at_ ++ [⟨e.c, e.acc, e.num⟩]⟩ else p
def revR (p : Ppl) (acc : Int) : Ppl := ⟨p.ps, p.ss.filter (fun s => !decide (s.acc = acc))⟩
def at_ (p : Ppl) (id : Int) : Nat := p.ps.findIdx (fun x => decide (x.id = id))
def appE (p : Ppl) (e : Evn) : Int := if e.kind = 1 then sgnE p e else if e.kind < 1 ∨ 9 < e.kind then 1 else if p.ps.length ≤ at_ p e.acc then 12 else if e.kind = 8 then sesE p e else if e.kind = 9 then 0 else doesE p (p.ps[at_ p e.acc]?.getD Per.zero) e
def appR (p : Ppl) (e : Evn) : Ppl := if e.kind = 1 then sgnR p e else if e.kind < 1 ∨ 9 < e.kind then p else if p.ps.length ≤ at_ p e.acc then p else if e.kind = 8 then sesR p e else if e.kind = 9 then revR p e.acc else if doesE p (p.ps[at_ p e.acc]?.getD Per.zero) e = 0 then ⟨p.ps.set (at_ p e.acc) (doesF p (p.ps[at_ p e.acc]?.getD Per.zero) e), p.ss⟩ else p
end Go.Proofs.YtkihleecjgoipaaGreatDoor
end
/- people's small functions: ones, within, key, has, free. -/
section
namespace Go.Proofs.YtkihleecjgoipaaGreatDoor
open Go.RowKit Go.Maps

set_option maxRecDepth 100000 in
theorem ones_any (s : ByteArray) (hs : s.size ≤ 4000000000) (w : World) (hm : ML w) : Calls Tryz.prog 45 #[.string s] w fun e w' => e = .returned (.bool (onesB s)) ∧ Below w.heap.size w w' := by
  have K := Lib.hid (kind_any s hs w hm)
  have O : Hid (onesB s = decide (kindOf s = 1)) := Lib.hid rfl
  generalize onesB s = b at *
  generalize kindOf s = k at *
  clear hm
  go_enter Tryz.func45, Tryz.ntmps45
  go_wp2_with (go_at_call 63; (with_reducible refine (K.out).mono ?_); rintro e w2 ⟨rfl, b2⟩)
  go_ret
  exact ⟨ret_bool (by rw [O.out, Bool.eq_iff_iff, beq_iff_eq, decide_eq_true_eq]; omega), b2⟩
set_option maxRecDepth 100000 in
theorem within_any (a b n : Int) (w : World) : Calls Tryz.prog 18 #[.int .i64 a, .int .i64 b, .int .i64 n] w fun e w' => e = .returned (.bool (decide (a ≤ n) && decide (n ≤ b))) ∧ w' = w := by
  by_cases h1 : a ≤ n <;> by_cases h2 : n ≤ b
  all_goals
    go_enter Tryz.func18, Tryz.ntmps18
    go_wp2_with fail
    go_ret
    exact ⟨ret_bool (by simp [h1, h2]), rfl⟩
set_option maxRecDepth 100000 in
theorem key_any (s c : ByteArray) (w : World) : Calls Tryz.prog 46 #[.string s, .string c] w fun e w' => e = .returned (.bool (keyB s c)) ∧ w' = w := by
  have W := Lib.hid (within_any 1 16 s.size w)
  have O : Hid (keyB s c = ((decide ((1 : Int) ≤ s.size) && decide ((s.size : Int) ≤ 16)) && decide (c.size = 32))) := Lib.hid (by
    have e1 : decide ((1 : Int) ≤ s.size) = decide (1 ≤ s.size) := by rw [decide_eq_decide]; omega
    have e2 : decide ((s.size : Int) ≤ 16) = decide (s.size ≤ 16) := by rw [decide_eq_decide]; omega
    rw [e1, e2]
    rfl)
  generalize keyB s c = b at *
  obtain ⟨b1, hb1⟩ : ∃ b1, (decide ((1 : Int) ≤ s.size) && decide ((s.size : Int) ≤ 16)) = b1 := ⟨_, rfl⟩
  rw [hb1] at W O
  clear hb1
  cases b1
  · go_enter Tryz.func46, Tryz.ntmps46
    go_wp2_with (go_at_call 18; (with_reducible refine (W.out).mono ?_); rintro e w2 ⟨rfl, rfl⟩)
    go_ret
    exact ⟨ret_bool (by rw [O.out]; simp), rfl⟩
  · go_enter Tryz.func46, Tryz.ntmps46
    go_wp2_with (go_at_call 18; (with_reducible refine (W.out).mono ?_); rintro e w2 ⟨rfl, rfl⟩)
    go_ret
    exact ⟨ret_bool (by rw [O.out, Bool.true_and, Bool.eq_iff_iff, beq_iff_eq, decide_eq_true_eq]; omega), rfl⟩
/-- The contacts of a person that lies in a block. -/
def CsAt (w : World) (g o : Nat) (x : Per.R) : Prop := ∀ j, j < x.cs.length → w.cell? ⟨g, o + j, none⟩ = some (.string (x.cs.getD j ByteArray.empty))
theorem CsAt.of {w : World} {g o : Nat} {x : Per.R} (h0 : w.cell? ⟨g, o, none⟩ = some (.string x.c0)) (h1 : w.cell? ⟨g, o + 1, none⟩ = some (.string x.c1)) (h2 : w.cell? ⟨g, o + 2, none⟩ = some (.string x.c2)) (h3 : w.cell? ⟨g, o + 3, none⟩ = some (.string x.c3)) (h4 : w.cell? ⟨g, o + 4, none⟩ = some (.string x.c4)) : CsAt w g o x := fun j hj => by
  have hj5 : j < 5 := hj
  have hc : j = 0 ∨ j = 1 ∨ j = 2 ∨ j = 3 ∨ j = 4 := by omega
  rcases hc with rfl | rfl | rfl | rfl | rfl
  · exact h0
  · exact h1
  · exact h2
  · exact h3
  · exact h4
theorem cont_dec (zs : List ByteArray) (x : ByteArray) : Lib.containsS zs x = zs.any (fun c => decide (c = x)) := by
  rw [Bool.eq_iff_iff, Lib.containsS_iff, List.any_eq_true]
  constructor
  · intro h
    exact ⟨x, h, decide_eq_true rfl⟩
  · rintro ⟨c, h1, h2⟩
    rw [← of_decide_eq_true h2]
    exact h1
set_option maxRecDepth 100000 in
set_option maxHeartbeats 4000000 in
theorem has_any (x : Per.R) (m : ByteArray) (w : World) : Calls Tryz.prog 77 #[x.agg, .string m] w fun e w' => e = .returned (.bool (hasB x m)) ∧ Below w.heap.size w w' := by
  have hb : Below w.heap.size w (w.alloc x.obj) := (Below.refl _ _).alloc (Nat.le_refl _) _
  obtain ⟨c0, c1, c2, c3, c4, c5, c6, c7, c8, c9, c10, c11, c12⟩ := Per.box w x
  have HB := Lib.hid hb
  have CO := Lib.hid (Tryz.slices_Contains_string w.heap.size 8 5 5 x.cs m (w.alloc x.obj) (Nat.le_refl 5) (by omega) (CsAt.of c8 c9 c10 c11 c12))
  have e5 : x.cs.take 5 = x.cs := rfl
  rw [e5, cont_dec] at CO
  have HH : Hid (hasB x m = (!m.toList.isEmpty && x.cs.any (fun c => decide (c = m)))) := Lib.hid (by rw [emp_dec]; rfl)
  generalize hasB x m = hb2 at *
  generalize x.cs.any (fun c => decide (c = m)) = b at *
  clear hb e5
  unfold Per.R.obj at *
  unfold Per.R.agg
  cases hv : m.toList.isEmpty
  · rw [hv] at HH
    go_enter Tryz.func77, Tryz.ntmps77
    go_wp2_with ((go_at_call 88; (with_reducible refine (CO.out).mono ?_); rintro e w3 ⟨rfl, rfl⟩))
    go_ret
    exact ⟨by rw [HH.out]; rfl, HB.out⟩
  · rw [hv] at HH
    go_enter Tryz.func77, Tryz.ntmps77
    go_wp2_with fail
    go_ret
    exact ⟨by rw [HH.out]; rfl, HB.out⟩
set_option maxRecDepth 100000 in
set_option maxHeartbeats 4000000 in
theorem free_any (x : Per.R) (m : ByteArray) (hs : m.size ≤ 4000000000) (t : Bool) (w : World) (hm : ML w) : Calls Tryz.prog 68 #[x.agg, .string m, .bool t] w fun e w' => e = .returned (.int .i64 (freeE x m t)) ∧ Below w.heap.size w w' := by
  have hb : Below w.heap.size w (w.alloc x.obj) := (Below.refl _ _).alloc (Nat.le_refl _) _
  have ON := Lib.hid (ones_any m hs (w.alloc x.obj) (hm.below hb))
  have HA := Lib.hid (fun w2 => has_any x m w2)
  have BX := Lib.hid (fun w2 b => (Per.box_later (w := w) (w2 := w2) x b).1)
  have HB := Lib.hid hb
  have F : Hid (freeE x m t = if onesB m = false then 1 else if (t || hasB x m) = true then 14 else 0) := Lib.hid rfl
  generalize freeE x m t = r at *
  generalize hasB x m = h at *
  generalize onesB m = o at *
  clear hb hm
  unfold Per.R.obj at *
  unfold Per.R.agg at *
  cases o
  · go_enter Tryz.func68, Tryz.ntmps68
    go_wp2_with (go_at_call 45; (with_reducible refine (ON.out).mono ?_); rintro e w2 ⟨rfl, b2⟩; obtain ⟨k0, k1, k2, k3, k4, k5, k6, k7, k8, k9, k10, k11, k12⟩ := BX.out w2 b2; have B2 := Lib.hid (HB.out.trans (b2.mono HB.out.size)); clear b2)
    go_ret
    exact ⟨ret_int (by rw [F.out]; rfl), B2.out⟩
  · cases t
    · go_enter Tryz.func68, Tryz.ntmps68
      go_wp2_with (first
        | (go_at_call 45; (with_reducible refine (ON.out).mono ?_); rintro e w2 ⟨rfl, b2⟩; obtain ⟨k0, k1, k2, k3, k4, k5, k6, k7, k8, k9, k10, k11, k12⟩ := BX.out w2 b2; have B2 := Lib.hid (HB.out.trans (b2.mono HB.out.size)); clear b2)
        | (go_at_call 77; (with_reducible refine (HA.out _).mono ?_); rintro e w3 ⟨rfl, b3⟩; have B3 := Lib.hid (B2.out.trans (b3.mono B2.out.size)); clear b3))
      all_goals go_ret
      all_goals exact ⟨ret_int (by rw [F.out]; simp_all), B3.out⟩
    · go_enter Tryz.func68, Tryz.ntmps68
      go_wp2_with (first
        | (go_at_call 45; (with_reducible refine (ON.out).mono ?_); rintro e w2 ⟨rfl, b2⟩; obtain ⟨k0, k1, k2, k3, k4, k5, k6, k7, k8, k9, k10, k11, k12⟩ := BX.out w2 b2; have B2 := Lib.hid (HB.out.trans (b2.mono HB.out.size)); clear b2))
      go_ret
      exact ⟨ret_int (by rw [F.out]; rfl), B2.out⟩
end Go.Proofs.YtkihleecjgoipaaGreatDoor
end
/- people.one, Find, By, Next. -/
section
namespace Go.Proofs.YtkihleecjgoipaaGreatDoor
open Go.RowKit Go.Maps Go.Proofs.YtkihleecjgoipaaGreatDoor.Rw

/-- The first that P answers; the zero person, if there is none. -/
def pick (L : List Per.R) (P : Per.R → Bool) : Per.R := L[L.findIdx P]?.getD Per.zero
theorem pick_none {L : List Per.R} {P : Per.R → Bool} (h : ¬ L.findIdx P < L.length) : pick L P = Per.zero := by
  unfold pick
  rw [List.getElem?_eq_none (by omega)]
  rfl
theorem any_pos (L : List Per.R) (P : Per.R → Bool) : L.any P = decide (L.findIdx P < L.length) := by
  rw [any_idx]
  unfold idx
  by_cases h : L.findIdx P < L.length
  · rw [if_pos h, decide_eq_true h, decide_eq_true (by omega)]
  · rw [if_neg h, decide_eq_false h, decide_eq_false (by omega)]
def pobj (v1 v2 : Value) : Obj := .cells #[v1, v2] 25
theorem pbox (w : World) (v1 v2 : Value) : (w.alloc (pobj v1 v2)).cell? ⟨w.heap.size, 0, none⟩ = some v1 ∧ (w.alloc (pobj v1 v2)).cell? ⟨w.heap.size, 1, none⟩ = some v2 := by
  constructor <;> rw [Lib.cell_of_heap (heap_new w (pobj v1 v2))] <;> rfl
theorem pbox_later {w w2 : World} (v1 v2 : Value) {B : Nat} (hB : w.heap.size < B) (b : Below B (w.alloc (pobj v1 v2)) w2) : w2.cell? ⟨w.heap.size, 0, none⟩ = some v1 ∧ w2.cell? ⟨w.heap.size, 1, none⟩ = some v2 := by
  obtain ⟨h1, h2⟩ := pbox w v1 v2
  exact ⟨(b.cell (p := ⟨w.heap.size, 0, none⟩) hB).trans h1, (b.cell (p := ⟨w.heap.size, 1, none⟩) hB).trans h2⟩
set_option maxHeartbeats 4000000 in
set_option maxRecDepth 100000 in
theorem one_any {B : Nat} {v : Value} {p : Ppl} {w : World} (hown : pown w B v p) (lim : few p) (P : Per.R → Bool) (f : Nat) (cp : Value) (hf : ∀ (args : Array Value) (w : World), (callFunc f args).run Tryz.prog w = .ok (.enter f args) w)
    (hP : ∀ (x : Per.R) (w2 : World), Below w.heap.size w w2 → Calls Tryz.prog f #[x.agg, cp] w2 fun e w' => e = .returned (.bool (P x)) ∧ Below w2.heap.size w2 w') :
    Calls Tryz.prog 32 #[v, .func (.func f) #[] #[cp]] w fun e w' => e = .returned (.tuple #[(pick p.ps P).agg, .bool (p.ps.any P)]) ∧ Below w.heap.size w w' := by
  obtain ⟨a, c, a', c', rfl, o1, o2⟩ := hown
  obtain ⟨lim1, lim2⟩ := lim
  obtain ⟨L, S⟩ := p
  simp only at *
  have hb1 : Below w.heap.size w (w.alloc (pobj (.slice a L.length c) (.slice a' S.length c'))) := (Below.refl _ _).alloc (Nat.le_refl _) _
  have hb2 : Below w.heap.size w ((w.alloc (pobj (.slice a L.length c) (.slice a' S.length c'))).alloc Per.zero.obj) := hb1.alloc (by simp) _
  have hz : (w.alloc (pobj (.slice a L.length c) (.slice a' S.length c'))).heap.size = w.heap.size + 1 := by simp
  have hz2 : ((w.alloc (pobj (.slice a L.length c) (.slice a' S.length c'))).alloc Per.zero.obj).heap.size = w.heap.size + 1 + 1 := by simp
  have IX := Lib.hid (Per.idx_any1 (o1.below hb2) (by omega) P f cp hf (fun x w2 b => hP x w2 (hb2.trans (b.mono hb2.size))))
  have HB := Lib.hid hb2
  have BX0 := fun w2 b => Per.box_later (w := w.alloc (pobj (.slice a L.length c) (.slice a' S.length c'))) (w2 := w2) Per.zero b
  simp only [hz] at BX0
  have BX := Lib.hid BX0
  clear BX0
  have PX : Hid (∀ w2, Below ((w.alloc (pobj (.slice a L.length c) (.slice a' S.length c'))).alloc Per.zero.obj).heap.size ((w.alloc (pobj (.slice a L.length c) (.slice a' S.length c'))).alloc Per.zero.obj) w2 → w2.cell? ⟨w.heap.size, 0, none⟩ = some (.slice a L.length c) ∧ w2.cell? ⟨w.heap.size, 1, none⟩ = some (.slice a' S.length c')) := Lib.hid (fun w2 b =>
    pbox_later _ _ (B := w.heap.size + 1) (Nat.lt_succ_self _) (((Below.refl _ _).alloc (by omega) Per.zero.obj).trans (b.mono (by omega))))
  have OW := Lib.hid (fun w2 b => (o1.below hb2).below (w' := w2) b)
  have AP := Lib.hid (any_pos L P)
  have PK : Hid (pick L P = L[L.findIdx P]?.getD Per.zero) := Lib.hid rfl
  have PN := Lib.hid (fun h => pick_none (L := L) (P := P) h)
  obtain ⟨i0, i1⟩ := PX.out _ (Below.refl _ _)
  unfold pobj at *
  unfold Per.zero Per.R.obj at IX HB BX PX OW hb2 hz2 i0 i1
  simp only at IX HB BX PX OW hb2 hz2 i0 i1
  clear o1 o2 hP hb1 hb2
  by_cases hq : L.findIdx P < L.length
  · have hi : idx L P = (L.findIdx P : Nat) := by unfold idx; rw [if_pos hq]
    rw [hi] at IX
    have HA : Hid (L.any P = true) := Lib.hid (by rw [AP.out, decide_eq_true hq])
    rw [HA.out, PK.out]
    clear AP hi PN PK HA
    generalize L.findIdx P = k at *
    obtain ⟨x, hx⟩ : ∃ x, L[k]?.getD Per.zero = x := ⟨_, rfl⟩
    have MM := Lib.hid (fun w2 b => (OW.out w2 b).all k hq)
    rw [hx] at MM ⊢
    have hkn : (k : Int) < L.length := by omega
    clear hx
    go_enter Tryz.func32, Tryz.ntmps32
    go_wp2_with (go_at_call 24; (with_reducible refine (IX.out).mono ?_); rintro e w2 ⟨rfl, b2⟩; obtain ⟨⟨y0, y1, y2, y3, y4, y5, y6, y7, y8, y9, y10, y11, y12⟩, yf⟩ := BX.out w2 b2; obtain ⟨x0, x1⟩ := PX.out w2 b2; obtain ⟨g, rfl, _, _, m0, m1, m2, m3, m4, m5, m6, m7, m8, m9, m10, m11, m12⟩ := MM.out w2 b2; have B2 := Lib.hid (HB.out.trans (b2.mono HB.out.size)); clear b2)
    refine bodyPost_ret (v := .tuple #[x.agg, .bool true]) ?_ rfl ⟨rfl, ?_⟩
    · simp [results, Tryz.f32, go_sem, Per.R.agg, y0, y1, y2, y3, y4, y5, y6, y7, y8, y9, y10, y11, y12]
    · exact Per.below_put (o := 0) B2.out (by simp) _ _ _ _ _ _ _ _ _ _ _ _ _
  · have hi : idx L P = -1 := by unfold idx; rw [if_neg hq]
    rw [hi] at IX
    have HA : Hid (L.any P = false) := Lib.hid (by rw [AP.out, decide_eq_false hq])
    rw [HA.out, PN.out hq]
    clear AP hi PN PK HA OW
    generalize L.findIdx P = k at *
    go_enter Tryz.func32, Tryz.ntmps32
    go_wp2_with (go_at_call 24; (with_reducible refine (IX.out).mono ?_); rintro e w2 ⟨rfl, b2⟩; obtain ⟨⟨y0, y1, y2, y3, y4, y5, y6, y7, y8, y9, y10, y11, y12⟩, yf⟩ := BX.out w2 b2; obtain ⟨x0, x1⟩ := PX.out w2 b2; have B2 := Lib.hid (HB.out.trans (b2.mono HB.out.size)); clear b2)
    refine bodyPost_ret (v := .tuple #[Per.zero.agg, .bool false]) ?_ rfl ⟨rfl, ?_⟩
    · simp [results, Tryz.f32, go_sem, Per.R.agg, Per.zero, y0, y1, y2, y3, y4, y5, y6, y7, y8, y9, y10, y11, y12]
    · exact Per.below_put (o := 0) B2.out (by simp) _ _ _ _ _ _ _ _ _ _ _ _ _
end Go.Proofs.YtkihleecjgoipaaGreatDoor
end
