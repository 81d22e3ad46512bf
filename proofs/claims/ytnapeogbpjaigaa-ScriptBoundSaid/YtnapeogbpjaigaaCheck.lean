/- Whether a request may be (wire.Check). -/
import Derived.Test.YtnapeogbpjaigaaWire
namespace Go.Proofs.Ytnapeogbpjaigaa
open Go.RowKit

/-- One text's turn: is it there just if its kind has it, and not too long? -/
def tx (s : ByteArray) (has ok : Bool) : Bool := ok && (has == !s.toList.isEmpty) && decide ((s.size : Int) ≤ 64)

theorem Hid.out' {p : Prop} (h : Hid p) : p := h
set_option maxHeartbeats 1000000 in
set_option maxRecDepth 100000 in
theorem wtext_any (s : ByteArray) (has ok : Bool) (B : Nat) (w : World) (hc : w.cell? ⟨B, 0, none⟩ = some (.bool ok)) (hf : w.frozen? ⟨B, 0, none⟩ = false) :
    Calls Try.prog 28 #[.string s, .bool has, .pointer (some ⟨B, 0, none⟩)] w fun e w' => e = .returned (.tuple #[]) ∧ w' = w.setCell ⟨B, 0, none⟩ (.bool (tx s has ok)) := by
  cases ok <;> cases has <;> cases he : s.toList.isEmpty
  all_goals
    have Hv : ∀ a b, Hid (tx s a b = (b && (a == !s.toList.isEmpty) && decide ((s.size : Int) ≤ 64))) := fun a b => rfl
    go_enter Try.func28, Try.ntmps28
    go_wp2
    all_goals
      go_end0
      refine ⟨rfl, ?_⟩
      rw [(Hv _ _).out]
      clear Hv
      first | rfl | (simp only [he]; rfl)

/-- A request's fields, as a value. -/
def reqV (kind purpose : Int) (source mail other secret password : ByteArray) : Value := .agg #[.int .i64 kind, .int .i64 purpose, .string source, .string mail, .string other, .string secret, .string password]
/-- Whether a request may be, of a kind with these parts. -/
def chk (a b c d e : Bool) (purpose : Int) (source mail other secret password : ByteArray) : Bool :=
  tx password d (tx secret c (tx other b (tx mail a true))) && decide (purpose ≥ (if e then 2 else 0)) && decide (purpose ≤ (if e then 4 else 0)) && !source.toList.isEmpty && decide ((source.size : Int) ≤ 20)

set_option maxHeartbeats 4000000 in
set_option maxRecDepth 100000 in
theorem check_some (k : Nat) (hk : 1 ≤ k ∧ k ≤ 16) (a b c d e : Bool) (h0 : kindCells[k * 5]? = some (.bool a)) (h1 : kindCells[k * 5 + 1]? = some (.bool b)) (h2 : kindCells[k * 5 + 2]? = some (.bool c)) (h3 : kindCells[k * 5 + 3]? = some (.bool d)) (h4 : kindCells[k * 5 + 4]? = some (.bool e))
    (purpose : Int) (source mail other secret password : ByteArray) (w : World) :
    Calls Try.prog 19 #[.agg #[.int .i64 k, .int .i64 purpose, .string source, .string mail, .string other, .string secret, .string password]] w fun e' w' => e' = .returned (.bool (chk a b c d e purpose source mail other secret password)) ∧ Below w.heap.size w w' := by
  have hof := of_some k hk a b c d e h0 h1 h2 h3 h4
  have Hof := Lib.hid hof
  clear hof h0 h1 h2 h3 h4
  go_enter Try.func19, Try.ntmps19
  go_wp2_with fail
  refine (Hof.out _).mono ?_
  rintro e' w1 ⟨rfl, hb1⟩
  simp only [b5]
  have c0 : w1.cell? ⟨w.heap.size, 0, none⟩ = some (.int .i64 k) := (hb1.cell (p := ⟨w.heap.size, 0, none⟩) (by simp)).trans (by go_simp)
  have c1 : w1.cell? ⟨w.heap.size, 1, none⟩ = some (.int .i64 purpose) := (hb1.cell (p := ⟨w.heap.size, 1, none⟩) (by simp)).trans (by go_simp)
  have c2 : w1.cell? ⟨w.heap.size, 2, none⟩ = some (.string source) := (hb1.cell (p := ⟨w.heap.size, 2, none⟩) (by simp)).trans (by go_simp)
  have c3 : w1.cell? ⟨w.heap.size, 3, none⟩ = some (.string mail) := (hb1.cell (p := ⟨w.heap.size, 3, none⟩) (by simp)).trans (by go_simp)
  have c4 : w1.cell? ⟨w.heap.size, 4, none⟩ = some (.string other) := (hb1.cell (p := ⟨w.heap.size, 4, none⟩) (by simp)).trans (by go_simp)
  have c5 : w1.cell? ⟨w.heap.size, 5, none⟩ = some (.string secret) := (hb1.cell (p := ⟨w.heap.size, 5, none⟩) (by simp)).trans (by go_simp)
  have c6 : w1.cell? ⟨w.heap.size, 6, none⟩ = some (.string password) := (hb1.cell (p := ⟨w.heap.size, 6, none⟩) (by simp)).trans (by go_simp)
  have hlt : w.heap.size < w1.heap.size := by have := hb1.size; simp at this; omega
  have HB := Lib.hid hb1
  clear hb1
  go_wp2_with fail
  refine (wtext_any _ _ true _ _ (by go_simp) (by go_simp)).mono ?_
  rintro e' w2 ⟨rfl, rfl⟩
  go_wp2_with fail
  refine (wtext_any _ _ (tx mail a true) _ _ (by go_simp) (by go_simp)).mono ?_
  rintro e' w2 ⟨rfl, rfl⟩
  go_wp2_with fail
  refine (wtext_any _ _ (tx other b (tx mail a true)) _ _ (by go_simp) (by go_simp)).mono ?_
  rintro e' w2 ⟨rfl, rfl⟩
  go_wp2_with fail
  refine (wtext_any _ _ (tx secret c (tx other b (tx mail a true))) _ _ (by go_simp) (by go_simp)).mono ?_
  rintro e' w2 ⟨rfl, rfl⟩
  have Hfin : Hid (chk a b c d e purpose source mail other secret password = (tx password d (tx secret c (tx other b (tx mail a true))) && decide (purpose ≥ (if e then 2 else 0)) && decide (purpose ≤ (if e then 4 else 0)) && !source.toList.isEmpty && decide ((source.size : Int) ≤ 20))) := rfl
  generalize tx password d (tx secret c (tx other b (tx mail a true))) = k4 at *
  cases k4 <;> cases e <;> cases he : source.toList.isEmpty
  all_goals
    go_wp2_with fail
  all_goals
    go_ret
    refine ⟨?_, below_alloc (below_alloc (Below.trans (below_alloc (Below.refl _ w) _) (HB.out.mono (by simp))) _) _⟩
    rw [Hfin.out]
    clear Hfin HB
    first | rfl | (simp_all; done) | (simp_all; omega)
end Go.Proofs.Ytnapeogbpjaigaa
