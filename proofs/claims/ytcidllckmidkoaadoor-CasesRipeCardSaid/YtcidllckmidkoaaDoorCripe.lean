/- cases.Ripe, over a row of rising accounts. -/
import Derived.Test.YtcidllckmidkoaaDoorCcnt
namespace Go.Proofs.YtcidllckmidkoaaDoor
open Go.RowKit Go.Maps

def findC (L : List Cas) (id : Int) : Cas := if hasA L id then L[plc L id]?.getD noCas else noCas
def ripeB (L : List Cas) (id now : Int) : Bool := hasA L id && !overB (findC L id) now && decide ((findC L id).quorum ≤ (cntB (findC L id) : Int)) && decide ((findC L id).ripe ≤ now)
theorem nine_of {w : World} {b : Nat} {x : Cas} (h : w.heap[b]? = some x.obj) : w.cell? ⟨b, 0, none⟩ = some (.int .i64 x.acc) ∧ w.cell? ⟨b, 1, none⟩ = some (.int .i64 x.opened) ∧ w.cell? ⟨b, 2, none⟩ = some (.int .i64 x.ripe) ∧ w.cell? ⟨b, 3, none⟩ = some (.int .i64 x.quorum) ∧
    w.cell? ⟨b, 4, none⟩ = some (.string x.v0) ∧ w.cell? ⟨b, 5, none⟩ = some (.string x.v1) ∧ w.cell? ⟨b, 6, none⟩ = some (.string x.v2) ∧ w.cell? ⟨b, 7, none⟩ = some (.string x.v3) ∧ w.cell? ⟨b, 8, none⟩ = some (.string x.v4) := by
  refine ⟨?_, ?_, ?_, ?_, ?_, ?_, ?_, ?_, ?_⟩ <;> rw [Lib.cell_of_heap h] <;> rfl
set_option maxHeartbeats 8000000 in
set_option maxRecDepth 100000 in
theorem ripe_any {Bs c : Nat} {a : Option Addr} {L : List Cas} {w : World} (hown : mowns w Bs (.slice a L.length c) L) (lim : L.length ≤ 1000000) (hr : Rise L) (id now : Int) :
    Calls Tryd.prog 22 #[.slice a L.length c, .int .i64 id, .int .i64 now] w fun e w' => e = .returned (.bool (ripeB L id now)) ∧ Below w.heap.size w w' := by
  have F := find_any hown lim hr id
  have HR : Hid (ripeB L id now = (hasA L id && !overB (findC L id) now && decide ((findC L id).quorum ≤ (cntB (findC L id) : Int)) && decide ((findC L id).ripe ≤ now))) := Lib.hid rfl
  change Calls Tryd.prog 23 #[.slice a L.length c, .int .i64 id] w (fun e w' => e = .returned (.tuple #[(findC L id).agg, .bool (hasA L id)]) ∧ Below w.heap.size w w') at F
  generalize findC L id = x at F HR
  generalize hasA L id = q at F HR
  generalize ripeB L id now = r at HR ⊢
  have F := Lib.hid F
  have OV := Lib.hid (fun w => over_any x now w)
  have CT := Lib.hid (fun w => count_any x w)
  generalize overB x now = ov at OV HR
  generalize cntB x = ct at CT HR
  clear hown
  unfold Cas.agg at F OV CT
  cases q
  · have HR' : Hid (r = false) := Lib.hid (by rw [HR.out]; simp)
    clear HR OV CT
    go_enter Tryd.func22, Tryd.ntmps22
    go_wp2_with ((go_at_call 23; (with_reducible refine (F.out).mono ?_); rintro e w2 ⟨rfl, b2⟩; have B2 := Lib.hid b2; clear b2))
    refine wp_region_quiet_lit (by kernel_rfl) (by kernel_rfl) ?_
    repeat (with_reducible refine wpQuiet_step (fun K hK => ?_); go_simp; with_reducible refine hK _ ?_; clear hK K)
    refine wpQuiet_nil ?_
    intro _ hw'
    obtain ⟨nq, hw''⟩ := hw'
    subst hw''
    go_wp2_with fail
    go_ret
    exact ⟨by rw [HR'.out]; rfl, below_drewN (B2.out.trans (((Below.refl _ _).alloc (Nat.le_refl _) _).mono B2.out.size)) _⟩
  · by_cases hov : ov = true
    · subst hov
      have HR' : Hid (r = false) := Lib.hid (by rw [HR.out]; simp)
      clear HR
      go_enter Tryd.func22, Tryd.ntmps22
      go_wp2_with ((go_at_call 23; (with_reducible refine (F.out).mono ?_); rintro e w2 ⟨rfl, b2⟩; have B2 := Lib.hid b2; clear b2))
      have bx : Below w.heap.size w (w2.alloc x.obj) := B2.out.trans (((Below.refl _ _).alloc (Nat.le_refl _) _).mono B2.out.size)
      have hx0 := heap_new w2 x.obj
      have hlt : w2.heap.size < (w2.alloc x.obj).heap.size := by simp
      have BX := Lib.hid bx
      clear bx
      unfold Cas.obj at hx0 hlt
      first
      | (go_region_with (first
          | (go_at_call 14; (with_reducible refine (OV.out _).mono ?_); rintro e w3 ⟨rfl, hb3'⟩; have hx3 := (hb3'.block _ hlt).trans hx0; obtain ⟨y0, y1, y2, y3, y4, y5, y6, y7, y8⟩ := nine_of hx3)
          | (go_at_call 10; (with_reducible refine (CT.out _).mono ?_); rintro e w4 ⟨rfl, hb4'⟩; have hx4 := (hb4'.block _ (Nat.lt_of_lt_of_le hlt hb3'.size)).trans hx3; obtain ⟨z0, z1, z2, z3, z4, z5, z6, z7, z8⟩ := nine_of hx4)))
      | fail "none"
      all_goals
        go_wp2_with fail
        go_ret
        exact ⟨by rw [HR'.out]; rfl, BX.out.drew.trans (hb3'.mono BX.out.size)⟩
    · have hov' : ov = false := by simpa using hov
      subst hov'
      clear hov
      by_cases hq3 : x.quorum ≤ (ct : Int)
      · have HR' : Hid (r = decide (x.ripe ≤ now)) := Lib.hid (by rw [HR.out]; simp [hq3])
        clear HR
        go_enter Tryd.func22, Tryd.ntmps22
        go_wp2_with ((go_at_call 23; (with_reducible refine (F.out).mono ?_); rintro e w2 ⟨rfl, b2⟩; have B2 := Lib.hid b2; clear b2))
        have bx : Below w.heap.size w (w2.alloc x.obj) := B2.out.trans (((Below.refl _ _).alloc (Nat.le_refl _) _).mono B2.out.size)
        have hx0 := heap_new w2 x.obj
        have hlt : w2.heap.size < (w2.alloc x.obj).heap.size := by simp
        have BX := Lib.hid bx
        clear bx
        unfold Cas.obj at hx0 hlt
        go_region_held3 (fun w' => w'.cell? ⟨w2.heap.size, 0, none⟩ = some (.int .i64 x.acc) ∧ w'.cell? ⟨w2.heap.size, 1, none⟩ = some (.int .i64 x.opened) ∧ w'.cell? ⟨w2.heap.size, 2, none⟩ = some (.int .i64 x.ripe) ∧ w'.cell? ⟨w2.heap.size, 3, none⟩ = some (.int .i64 x.quorum) ∧
      w'.cell? ⟨w2.heap.size, 4, none⟩ = some (.string x.v0) ∧ w'.cell? ⟨w2.heap.size, 5, none⟩ = some (.string x.v1) ∧ w'.cell? ⟨w2.heap.size, 6, none⟩ = some (.string x.v2) ∧ w'.cell? ⟨w2.heap.size, 7, none⟩ = some (.string x.v3) ∧ w'.cell? ⟨w2.heap.size, 8, none⟩ = some (.string x.v4))
          (first
            | exact nine_of hx0
            | exact nine_of hx3
            | exact nine_of hx4
            | go_keep)
          (first
            | (go_at_call 14; (with_reducible refine (OV.out _).mono ?_); rintro e w3 ⟨rfl, hb3'⟩; have hx3 := (hb3'.block _ hlt).trans hx0)
            | (go_at_call 10; (with_reducible refine (CT.out _).mono ?_); rintro e w4 ⟨rfl, hb4'⟩; have hx4 := (hb4'.block _ (Nat.lt_of_lt_of_le hlt hb3'.size)).trans hx3))
        all_goals
          go_wp2_with fail
          go_ret
          exact ⟨by rw [HR'.out]; rfl, BX.out.drew.trans ((hb3'.trans (hb4'.mono hb3'.size)).mono BX.out.size)⟩
      · have hq3' : decide (x.quorum ≤ (ct : Int)) = false := by simpa using hq3
        have HR' : Hid (r = false) := Lib.hid (by rw [HR.out]; simp [hq3'])
        clear HR
        go_enter Tryd.func22, Tryd.ntmps22
        go_wp2_with ((go_at_call 23; (with_reducible refine (F.out).mono ?_); rintro e w2 ⟨rfl, b2⟩; have B2 := Lib.hid b2; clear b2))
        have bx : Below w.heap.size w (w2.alloc x.obj) := B2.out.trans (((Below.refl _ _).alloc (Nat.le_refl _) _).mono B2.out.size)
        have hx0 := heap_new w2 x.obj
        have hlt : w2.heap.size < (w2.alloc x.obj).heap.size := by simp
        have BX := Lib.hid bx
        clear bx
        unfold Cas.obj at hx0 hlt
        first
        | (go_region_with (first
          | (go_at_call 14; (with_reducible refine (OV.out _).mono ?_); rintro e w3 ⟨rfl, hb3'⟩; have hx3 := (hb3'.block _ hlt).trans hx0; obtain ⟨y0, y1, y2, y3, y4, y5, y6, y7, y8⟩ := nine_of hx3)
          | (go_at_call 10; (with_reducible refine (CT.out _).mono ?_); rintro e w4 ⟨rfl, hb4'⟩; have hx4 := (hb4'.block _ (Nat.lt_of_lt_of_le hlt hb3'.size)).trans hx3; obtain ⟨z0, z1, z2, z3, z4, z5, z6, z7, z8⟩ := nine_of hx4)))
        | fail "none"
        all_goals
          go_wp2_with fail
          go_ret
          exact ⟨by rw [HR'.out]; rfl, BX.out.drew.trans ((hb3'.trans (hb4'.mono hb3'.size)).mono BX.out.size)⟩
end Go.Proofs.YtcidllckmidkoaaDoor
