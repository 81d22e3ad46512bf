/- cases.at, Find, over a row of rising accounts. -/
import Derived.Test.YtcidllckmidkoaaDoorCbs
namespace Go.Proofs.YtcidllckmidkoaaDoor
open Go.RowKit Go.Maps

set_option maxRecDepth 100000 in
theorem at_any {Bs c : Nat} {a : Option Addr} {L : List Cas} {w : World} (hown : mowns w Bs (.slice a L.length c) L) (lim : L.length ≤ 1000000) (hr : Rise L) (id : Int) :
    Calls Tryd.prog 30 #[.slice a L.length c, .int .i64 id] w fun e w' => e = .returned (.tuple #[.int .i64 (plc L id : Nat), .bool (hasA L id)]) ∧ Below w.heap.size w w' := by
  have B := Lib.hid (bs_any hown lim hr id)
  generalize plc L id = p at *
  generalize hasA L id = q at *
  clear hown
  go_enter Tryd.func30, Tryd.ntmps30
  go_wp2_with ((go_at_call 38; (with_reducible refine (B.out).mono ?_); rintro e w2 ⟨rfl, b2⟩))
  go_ret2
  exact ⟨rfl, b2⟩

theorem box_later {w w2 : World} (m : Cas) (b : Below (w.alloc m.obj).heap.size (w.alloc m.obj) w2) : (w2.cell? ⟨w.heap.size, 0, none⟩ = some (.int .i64 m.acc) ∧ w2.cell? ⟨w.heap.size, 1, none⟩ = some (.int .i64 m.opened) ∧ w2.cell? ⟨w.heap.size, 2, none⟩ = some (.int .i64 m.ripe) ∧ w2.cell? ⟨w.heap.size, 3, none⟩ = some (.int .i64 m.quorum) ∧
    w2.cell? ⟨w.heap.size, 4, none⟩ = some (.string m.v0) ∧ w2.cell? ⟨w.heap.size, 5, none⟩ = some (.string m.v1) ∧ w2.cell? ⟨w.heap.size, 6, none⟩ = some (.string m.v2) ∧ w2.cell? ⟨w.heap.size, 7, none⟩ = some (.string m.v3) ∧ w2.cell? ⟨w.heap.size, 8, none⟩ = some (.string m.v4)) ∧ ∀ j, w2.frozen? ⟨w.heap.size, j, none⟩ = false := by
  have hl : w.heap.size < (w.alloc m.obj).heap.size := by simp
  obtain ⟨z0, z1, z2, z3, z4, z5, z6, z7, z8⟩ := cas_box w m
  exact ⟨⟨(b.cell (p := ⟨w.heap.size, 0, none⟩) hl).trans z0, (b.cell (p := ⟨w.heap.size, 1, none⟩) hl).trans z1, (b.cell (p := ⟨w.heap.size, 2, none⟩) hl).trans z2, (b.cell (p := ⟨w.heap.size, 3, none⟩) hl).trans z3, (b.cell (p := ⟨w.heap.size, 4, none⟩) hl).trans z4, (b.cell (p := ⟨w.heap.size, 5, none⟩) hl).trans z5, (b.cell (p := ⟨w.heap.size, 6, none⟩) hl).trans z6, (b.cell (p := ⟨w.heap.size, 7, none⟩) hl).trans z7, (b.cell (p := ⟨w.heap.size, 8, none⟩) hl).trans z8⟩, fun j => (b.frozen (p := ⟨w.heap.size, j, none⟩) hl).trans (frozen_of_row _ _ _ _ _ (heap_new w m.obj))⟩
theorem plc_lt {L : List Cas} {id : Int} (h : hasA L id = true) : plc L id < L.length ∧ accAt L (plc L id) = id := by
  unfold hasA at h
  simpa using h
set_option maxHeartbeats 2000000 in
set_option maxRecDepth 100000 in
theorem find_any {Bs c : Nat} {a : Option Addr} {L : List Cas} {w : World} (hown : mowns w Bs (.slice a L.length c) L) (lim : L.length ≤ 1000000) (hr : Rise L) (id : Int) :
    Calls Tryd.prog 23 #[.slice a L.length c, .int .i64 id] w fun e w' => e = .returned (.tuple #[(if hasA L id then L[plc L id]?.getD noCas else noCas).agg, .bool (hasA L id)]) ∧ Below w.heap.size w w' := by
  have hb0 : Below w.heap.size w (w.alloc noCas.obj) := (Below.refl _ _).alloc (Nat.le_refl _) _
  have B := Lib.hid (at_any (hown.below hb0) lim hr id)
  have OW := Lib.hid hown
  have BX := Lib.hid (fun w2 b => box_later (w := w) (w2 := w2) noCas b)
  unfold noCas Cas.obj at B BX
  simp only at BX
  clear hown
  cases hq : hasA L id
  · rw [hq] at B
    generalize plc L id = p at *
    clear hq
    go_enter Tryd.func23, Tryd.ntmps23
    go_wp2_with ((go_at_call 30; (with_reducible refine (B.out).mono ?_); rintro e w2 ⟨rfl, b2⟩; obtain ⟨⟨y0, y1, y2, y3, y4, y5, y6, y7, y8⟩, yf⟩ := BX.out w2 b2; have B2 := Lib.hid b2; clear b2))
    have b3 := hb0.trans (B2.out.mono hb0.size)
    refine bodyPost_ret (v := .tuple #[noCas.agg, .bool false]) ?_ rfl ⟨rfl, ?_⟩
    · simp [results, Tryd.f23, go_sem, noCas, Cas.agg, y0, y1, y2, y3, y4, y5, y6, y7, y8]
    · exact ((((((((b3.setCell (Nat.le_refl _) _).setCell (Nat.le_refl _) _).setCell (Nat.le_refl _) _).setCell (Nat.le_refl _) _).setCell (Nat.le_refl _) _).setCell (Nat.le_refl _) _).setCell (Nat.le_refl _) _).setCell (Nat.le_refl _) _).setCell (Nat.le_refl _) _
  · obtain ⟨hp, _⟩ := plc_lt hq
    rw [hq] at B
    have HX : Hid (L[plc L id]?.getD noCas = L[plc L id]?.getD noCas) := Lib.hid rfl
    generalize hpp : plc L id = p at *
    have NN := Lib.hid (fun w2 (b : Below w.heap.size w w2) => (OW.out.below b).nine p hp)
    have hpn : (p : Int) < L.length := by omega
    have HB0 := Lib.hid hb0
    obtain ⟨x, hx⟩ : ∃ x, L[p]?.getD noCas = x := ⟨_, rfl⟩
    rw [hx] at NN
    simp only [if_true, hx]
    clear hq HX hpp hx hb0
    go_enter Tryd.func23, Tryd.ntmps23
    go_wp2_with ((go_at_call 30; (with_reducible refine (B.out).mono ?_); rintro e w2 ⟨rfl, b2⟩; obtain ⟨⟨y0, y1, y2, y3, y4, y5, y6, y7, y8⟩, yf⟩ := BX.out w2 b2; obtain ⟨g, rfl, _, _, m0, m1, m2, m3, m4, m5, m6, m7, m8⟩ := NN.out w2 (HB0.out.trans (b2.mono HB0.out.size)); have B2 := Lib.hid b2; clear b2))
    have b3 := HB0.out.trans (B2.out.mono HB0.out.size)
    refine bodyPost_ret (v := .tuple #[x.agg, .bool true]) ?_ rfl ⟨rfl, ?_⟩
    · simp [results, Tryd.f23, go_sem, Cas.agg, y0, y1, y2, y3, y4, y5, y6, y7, y8]
    · exact ((((((((b3.setCell (Nat.le_refl _) _).setCell (Nat.le_refl _) _).setCell (Nat.le_refl _) _).setCell (Nat.le_refl _) _).setCell (Nat.le_refl _) _).setCell (Nat.le_refl _) _).setCell (Nat.le_refl _) _).setCell (Nat.le_refl _) _).setCell (Nat.le_refl _) _
end Go.Proofs.YtcidllckmidkoaaDoor
