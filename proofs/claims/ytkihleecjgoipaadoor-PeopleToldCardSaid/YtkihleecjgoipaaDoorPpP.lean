/- What people's functions do, in plain words. -/
import Derived.Test.YtkihleecjgoipaaDoorPerF
import Derived.Test.YtkihleecjgoipaaDoorSesF
import Derived.Test.YtkihleecjgoipaaDoorEvn
import Derived.Test.YtkihleecjgoipaaDoorAddr3
import Derived.Test.YtkihleecjgoipaaDoorClk
namespace Go.Proofs.YtkihleecjgoipaaDoor
open Go.RowKit Go.Maps

theorem tl_inj {a b : ByteArray} : a.toList = b.toList ↔ a = b := by
  rw [Lib.toList_data, Lib.toList_data]
  constructor
  · intro h
    cases a; cases b
    simp only at h
    rw [Array.toList_inj.1 h]
  · intro h; rw [h]
theorem eqS_dec (a b : ByteArray) : (a.toList == b.toList) = decide (a = b) := by
  rw [Bool.eq_iff_iff, beq_iff_eq, decide_eq_true_eq, tl_inj]
theorem emp_dec (a : ByteArray) : a.toList.isEmpty = decide (a = ⟨#[]⟩) := by
  rw [← eqS_dec]
  have h : (⟨#[]⟩ : ByteArray).toList = [] := by rw [Lib.toList_data]
  rw [h]
  cases a.toList <;> rfl
structure Ppl where
  ps : List Per.R
  ss : List Ses.R
/-- People as a value: two rows, each of its own, from block B on. -/
def pown (w : World) (B : Nat) (v : Value) (p : Ppl) : Prop := ∃ a c a' c', v = .agg #[.slice a p.ps.length c, .slice a' p.ss.length c'] ∧ Per.owns w B (.slice a p.ps.length c) p.ps ∧ Ses.owns w B (.slice a' p.ss.length c') p.ss
theorem pown.below {w w' : World} {B : Nat} {v : Value} {p : Ppl} (h : pown w B v p) (b : Below w.heap.size w w') : pown w' B v p := by
  obtain ⟨a, c, a', c', e, h1, h2⟩ := h
  exact ⟨a, c, a', c', e, h1.below b, h2.below b⟩
theorem pown.mono {w : World} {B B' : Nat} {v : Value} {p : Ppl} (h : pown w B v p) (hB : B' ≤ B) : pown w B' v p := by
  obtain ⟨a, c, a', c', e, h1, h2⟩ := h
  exact ⟨a, c, a', c', e, h1.mono hB, h2.mono hB⟩
theorem pown.nil (w : World) (B : Nat) : pown w B (.agg #[.slice none 0 0, .slice none 0 0]) ⟨[], []⟩ := ⟨none, 0, none, 0, rfl, Per.owns.nil _ _, Ses.owns.nil _ _⟩
def few (p : Ppl) : Prop := p.ps.length ≤ 100000 ∧ p.ss.length ≤ 100000
def onesB (s : ByteArray) : Bool := decide (kindOf s = 1)
def keyB (s c : ByteArray) : Bool := decide (1 ≤ s.size) && decide (s.size ≤ 16) && decide (c.size = 32)
def Per.R.cs (x : Per.R) : List ByteArray := [x.c0, x.c1, x.c2, x.c3, x.c4]
def hasB (x : Per.R) (m : ByteArray) : Bool := !decide (m = ⟨#[]⟩) && x.cs.any (fun c => decide (c = m))
def freeE (x : Per.R) (m : ByteArray) (there : Bool) : Int := if onesB m = false then 1 else if (there || hasB x m) = true then 14 else 0
def missF (x : Per.R) (now : Int) : Per.R := if 5 ≤ x.miss + 1 then { x with miss := 0, lock := clk now 100 } else { x with miss := x.miss + 1 }
def putC (x : Per.R) (k : Nat) (m : ByteArray) : Per.R := if k = 0 then { x with c0 := m } else if k = 1 then { x with c1 := m } else if k = 2 then { x with c2 := m } else if k = 3 then { x with c3 := m } else { x with c4 := m }
/-- The place of the first contact that is empty. -/
def gap (x : Per.R) : Nat := x.cs.findIdx (fun c => decide (c = ⟨#[]⟩))
def contE (x : Per.R) (m : ByteArray) : Int := if freeE x m (decide (x.mail = m)) ≠ 0 then freeE x m (decide (x.mail = m)) else if 5 ≤ gap x then 15 else 0
def contF (x : Per.R) (m : ByteArray) : Per.R := if contE x m = 0 then putC x (gap x) m else x
def byB (p : Ppl) (m : ByteArray) : Bool := p.ps.any (fun x => decide (x.mail = m))
def movE (p : Ppl) (x : Per.R) (m : ByteArray) : Int := freeE x m (byB p m)
def movF (p : Ppl) (x : Per.R) (m : ByteArray) : Per.R := if movE p x m = 0 then { x with mail := m, ver := true } else x
def pasE (s c : ByteArray) : Int := if keyB s c = true then 0 else 1
def pasF (x : Per.R) (s c : ByteArray) : Per.R := if keyB s c = true then { x with salt := s, chk := c, vers := min (x.vers + 1) 1099511627776, miss := 0, lock := 0 } else x
def doesE (p : Ppl) (x : Per.R) (e : Evn) : Int := if e.kind = 3 then pasE e.b e.c else if e.kind = 6 then movE p x e.a else if e.kind = 7 then contE x e.a else 0
def doesF (p : Ppl) (x : Per.R) (e : Evn) : Per.R := if e.kind = 2 then { x with ver := true } else if e.kind = 3 then pasF x e.b e.c else if e.kind = 4 then missF x e.at_ else if e.kind = 5 then { x with miss := 0 } else if e.kind = 6 then movF p x e.a else if e.kind = 7 then contF x e.a else x
def nextN (p : Ppl) : Int := if p.ps.length = 0 then 1 else (p.ps[p.ps.length - 1]?.getD Per.zero).id + 1
def newP (e : Evn) : Per.R := ⟨e.acc, e.a, false, e.b, e.c, 1, 0, 0, ⟨#[]⟩, ⟨#[]⟩, ⟨#[]⟩, ⟨#[]⟩, ⟨#[]⟩⟩
def sgnE (p : Ppl) (e : Evn) : Int := if onesB e.a = false ∨ keyB e.b e.c = false ∨ e.acc ≠ nextN p ∨ 99 < e.acc then 1 else if byB p e.a = true then 14 else if 12 ≤ p.ps.length then 15 else 0
def sgnR (p : Ppl) (e : Evn) : Ppl := if sgnE p e = 0 then ⟨p.ps ++ [newP e], p.ss⟩ else p
def lasts (p : Ppl) (now : Int) : List Ses.R := p.ss.filter (fun s => !decide (s.exp ≤ now))
def sesE (p : Ppl) (e : Evn) : Int := if e.c.size ≠ 32 then 1 else if p.ss.any (fun s => decide (s.dig = e.c)) = true then 14 else if 16 ≤ (lasts p e.at_).length then 15 else 0
def sesR (p : Ppl) (e : Evn) : Ppl := if sesE p e = 0 then ⟨p.ps, lasts p e.at_ ++ [⟨e.c, e.acc, e.num⟩]⟩ else p
def revR (p : Ppl) (acc : Int) : Ppl := ⟨p.ps, p.ss.filter (fun s => !decide (s.acc = acc))⟩
def at_ (p : Ppl) (id : Int) : Nat := p.ps.findIdx (fun x => decide (x.id = id))
def appE (p : Ppl) (e : Evn) : Int := if e.kind = 1 then sgnE p e else if e.kind < 1 ∨ 9 < e.kind then 1 else if p.ps.length ≤ at_ p e.acc then 12 else if e.kind = 8 then sesE p e else if e.kind = 9 then 0 else doesE p (p.ps[at_ p e.acc]?.getD Per.zero) e
def appR (p : Ppl) (e : Evn) : Ppl := if e.kind = 1 then sgnR p e else if e.kind < 1 ∨ 9 < e.kind then p else if p.ps.length ≤ at_ p e.acc then p else if e.kind = 8 then sesR p e else if e.kind = 9 then revR p e.acc else if doesE p (p.ps[at_ p e.acc]?.getD Per.zero) e = 0 then ⟨p.ps.set (at_ p e.acc) (doesF p (p.ps[at_ p e.acc]?.getD Per.zero) e), p.ss⟩ else p
end Go.Proofs.YtkihleecjgoipaaDoor
