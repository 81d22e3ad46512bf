/- script.request: a step that asks for something, of any kind, where the request may be. -/
import Derived.Test.YtnapeogbpjaigaaBytes
namespace Go.Proofs.Ytnapeogbpjaigaa
open Go.RowKit

def kindB : List Bool :=
  [false, false, false, false, false,  true, false, false, true, false,  true, false, true, false, false,  true, false, false, false, true,
   true, false, true, false, false,  true, false, true, false, false,  true, false, true, true, false,  true, false, false, true, false,
   false, true, true, false, false,  true, true, true, false, false,  true, true, false, true, false,  false, true, true, false, false,
   true, false, false, false, false,  true, true, true, false, false,  false, false, true, false, false,  true, false, false, true, false,
   false, false, true, false, false]
theorem kindB_at (j : Nat) (h : j < 85) : kindCells[j]? = some (.bool (kindB.getD j false)) := by
  have e : kindCells = (kindB.map Value.bool).toArray := rfl
  have hl : kindB.length = 85 := rfl
  rw [e, List.getElem?_toArray, List.getElem?_map, List.getElem?_eq_getElem (by rw [hl]; exact h)]
  show some _ = _
  rw [List.getD_eq_getElem?_getD, List.getElem?_eq_getElem (by rw [hl]; exact h)]
  rfl

def chkK (k : Nat) (p : Int) (source mail other secret password : ByteArray) : Bool :=
  chk (kindB.getD (k * 5) false) (kindB.getD (k * 5 + 1) false) (kindB.getD (k * 5 + 2) false) (kindB.getD (k * 5 + 3) false) (kindB.getD (k * 5 + 4) false) p source mail other secret password
def asW : ByteArray := ⟨#[119]⟩
def asM : ByteArray := ⟨#[97, 64, 98, 46, 99, 100]⟩

set_option maxHeartbeats 2000000 in
set_option maxRecDepth 100000 in
theorem request_some (k p : Nat) (hk : 1 ≤ k ∧ k ≤ 16) (hp : p ≤ 4) (s0 m0 other secret password draws : ByteArray) (s3 : other.size ≤ 1000000) (s4 : secret.size ≤ 1000000) (s5 : password.size ≤ 1000000) (w : World) (hc : chkK k p asW asM other secret password = true) :
    Calls Try.prog 10 #[.agg #[.int .i64 k, .int .i64 p, .string s0, .string m0, .string other, .string secret, .string password], .string draws] w fun e' w' =>
      e' = .returned (.agg #[.int .i64 1, .string ⟨(reqBytes k p asW asM other secret password).toArray⟩, .string draws, .int .i64 0, .slice none 0 0, .int .i64 0]) ∧ Below w.heap.size w w' := by
  have hb := fun W => bytes_some k p hk hp _ _ _ _ _ (kindB_at (k * 5) (by omega)) (kindB_at (k * 5 + 1) (by omega)) (kindB_at (k * 5 + 2) (by omega)) (kindB_at (k * 5 + 3) (by omega)) (kindB_at (k * 5 + 4) (by omega)) asW asM other secret password (by decide) (by decide) s3 s4 s5 W hc
  have HBy := Lib.hid hb
  clear hb hc s3 s4 s5
  go_enter Try.func10, Try.ntmps10
  go_wp2_with fail
  refine (HBy.out _).mono ?_
  rintro e' w1 ⟨rfl, hbel⟩
  obtain ⟨out, ho⟩ : ∃ out, reqBytes k p asW asM other secret password = out := ⟨_, rfl⟩
  rw [ho]
  have HO := Lib.hid ho
  clear ho
  have r0 : w1.cell? ⟨w.heap.size + 1, 0, none⟩ = some (.int .i64 0) := (hbel.cell (p := ⟨w.heap.size + 1, 0, none⟩) (by simp)).trans (by go_simp)
  have r1 : w1.cell? ⟨w.heap.size + 1, 1, none⟩ = some (.string ⟨#[]⟩) := (hbel.cell (p := ⟨w.heap.size + 1, 1, none⟩) (by simp)).trans (by go_simp)
  have r2 : w1.cell? ⟨w.heap.size + 1, 2, none⟩ = some (.string ⟨#[]⟩) := (hbel.cell (p := ⟨w.heap.size + 1, 2, none⟩) (by simp)).trans (by go_simp)
  have r3 : w1.cell? ⟨w.heap.size + 1, 3, none⟩ = some (.int .i64 0) := (hbel.cell (p := ⟨w.heap.size + 1, 3, none⟩) (by simp)).trans (by go_simp)
  have r4 : w1.cell? ⟨w.heap.size + 1, 4, none⟩ = some (.slice none 0 0) := (hbel.cell (p := ⟨w.heap.size + 1, 4, none⟩) (by simp)).trans (by go_simp)
  have r5 : w1.cell? ⟨w.heap.size + 1, 5, none⟩ = some (.int .i64 0) := (hbel.cell (p := ⟨w.heap.size + 1, 5, none⟩) (by simp)).trans (by go_simp)
  have f0 : w1.frozen? ⟨w.heap.size + 1, 0, none⟩ = false := (hbel.frozen (p := ⟨w.heap.size + 1, 0, none⟩) (by simp)).trans (by go_simp)
  have f1 : w1.frozen? ⟨w.heap.size + 1, 1, none⟩ = false := (hbel.frozen (p := ⟨w.heap.size + 1, 1, none⟩) (by simp)).trans (by go_simp)
  have f2 : w1.frozen? ⟨w.heap.size + 1, 2, none⟩ = false := (hbel.frozen (p := ⟨w.heap.size + 1, 2, none⟩) (by simp)).trans (by go_simp)
  have f3 : w1.frozen? ⟨w.heap.size + 1, 3, none⟩ = false := (hbel.frozen (p := ⟨w.heap.size + 1, 3, none⟩) (by simp)).trans (by go_simp)
  have f4 : w1.frozen? ⟨w.heap.size + 1, 4, none⟩ = false := (hbel.frozen (p := ⟨w.heap.size + 1, 4, none⟩) (by simp)).trans (by go_simp)
  have f5 : w1.frozen? ⟨w.heap.size + 1, 5, none⟩ = false := (hbel.frozen (p := ⟨w.heap.size + 1, 5, none⟩) (by simp)).trans (by go_simp)
  have hbw : Below w.heap.size w w1 := by
    refine Below.trans ?_ (hbel.mono ?_)
    · exact below_alloc (below_alloc (Below.refl _ w) _) _
    · simp; omega
  have HB := Lib.hid hbw
  clear hbel hbw
  go_wp2_with fail
  refine bodyPost_ret (v := .agg #[.int .i64 1, .string ⟨out.toArray⟩, .string draws, .int .i64 0, .slice none 0 0, .int .i64 0]) (by simp [results, Try.results10, go_sem, r0, r1, r2, r3, r4, r5]) rfl ⟨by rw [HO.out], ?_⟩
  exact below_set (below_set (below_set (below_set (below_set (below_set HB.out _ 0 (Nat.le_succ _) _) _ 1 (Nat.le_succ _) _) _ 2 (Nat.le_succ _) _) _ 3 (Nat.le_succ _) _) _ 4 (Nat.le_succ _) _) _ 5 (Nat.le_succ _) _
end Go.Proofs.Ytnapeogbpjaigaa
