/- people.Next; the closures over sessions. Written by wip/tools/mkppd.py. -/
import Derived.Test.YtkihleecjgoipaaDoorPpC
namespace Go.Proofs.YtkihleecjgoipaaDoor
open Go.RowKit Go.Maps Go.Proofs.YtkihleecjgoipaaDoor.Rw

def small (p : Ppl) : Prop := ∀ x ∈ p.ps, 0 ≤ x.id ∧ x.id ≤ 1000 ∧ 0 ≤ x.miss ∧ x.miss ≤ 1000 ∧ 0 ≤ x.vers ∧ x.vers ≤ 1099511627776
theorem small.at {p : Ppl} (h : small p) {k : Nat} (hk : k < p.ps.length) : 0 ≤ (p.ps[k]?.getD Per.zero).id ∧ (p.ps[k]?.getD Per.zero).id ≤ 1000 ∧ 0 ≤ (p.ps[k]?.getD Per.zero).miss ∧ (p.ps[k]?.getD Per.zero).miss ≤ 1000 ∧ 0 ≤ (p.ps[k]?.getD Per.zero).vers ∧ (p.ps[k]?.getD Per.zero).vers ≤ 1099511627776 := by
  rw [List.getElem?_eq_getElem hk]
  exact h _ (List.getElem_mem hk)
set_option maxHeartbeats 2000000 in
set_option maxRecDepth 100000 in
theorem next_any {B : Nat} {v : Value} {p : Ppl} {w : World} (hown : pown w B v p) (lim : few p) (hs : small p) :
    Calls Tryd.prog 45 #[v] w fun e w' => e = .returned (.int .i64 (nextN p)) ∧ Below w.heap.size w w' := by
  obtain ⟨a, c, a', c', rfl, o1, o2⟩ := hown
  obtain ⟨lim1, lim2⟩ := lim
  have hb : Below w.heap.size w (w.alloc (pobj (.slice a p.ps.length c) (.slice a' p.ss.length c'))) := (Below.refl _ _).alloc (Nat.le_refl _) _
  obtain ⟨x0, x1⟩ := pbox w (.slice a p.ps.length c) (.slice a' p.ss.length c')
  by_cases h0 : p.ps.length = 0
  · have NN : Hid (nextN p = 1) := Lib.hid (by unfold nextN; rw [if_pos h0])
    have h0' : ((p.ps.length : Nat) : Int) = 0 := by omega
    generalize nextN p = r at *
    rw [h0] at hb x0 ⊢
    have HB := Lib.hid hb
    clear o1 o2 hb h0 h0'
    unfold pobj at *
    go_enter Tryd.func45, Tryd.ntmps45
    go_wp2_with fail
    go_ret
    exact ⟨ret_int NN.out.symm, HB.out⟩
  · have hk : p.ps.length - 1 < p.ps.length := by omega
    have hsm := hs.at hk
    obtain ⟨g, rfl, _, _, m0, m1, m2, m3, m4, m5, m6, m7, m8, m9, m10, m11, m12⟩ := (o1.below hb).all _ hk
    have NN : Hid (nextN p = (p.ps[p.ps.length - 1]?.getD Per.zero).id + 1) := Lib.hid (by unfold nextN; rw [if_neg h0])
    generalize p.ps[p.ps.length - 1]?.getD Per.zero = x at *
    generalize nextN p = r at *
    obtain ⟨n, hn⟩ : ∃ n, p.ps.length = n + 1 := ⟨p.ps.length - 1, by omega⟩
    rw [hn] at x0 m0 m1 m2 m3 m4 m5 m6 m7 m8 m9 m10 m11 m12 hb lim1 ⊢
    rw [Nat.add_sub_cancel] at m0
    have hz : ¬ ((n + 1 : Nat) : Int) = 0 := by omega
    have e1 : IntKind.i64.wrap (((n + 1 : Nat) : Int) - 1) = n := by rw [IntKind.wrap_i64] <;> omega
    have hw : IntKind.i64.wrap (x.id + 1) = x.id + 1 := by rw [IntKind.wrap_i64] <;> omega
    have hn0 : (0 : Int) ≤ n := by omega
    have hn1 : (n : Int) < ((n + 1 : Nat) : Int) := by omega
    have HB := Lib.hid hb
    clear o1 o2 hb h0 hn hk hs m1 m2 m3 m4 m5 m6 m7 m8 m9 m10 m11 m12
    unfold pobj at *
    go_enter Tryd.func45, Tryd.ntmps45
    go_wp2_with fail
    go_ret
    exact ⟨ret_int (by rw [NN.out]), HB.out⟩
set_option maxHeartbeats 2000000 in
set_option maxRecDepth 100000 in
theorem sesc1_any (x : Ses.R) (ev : Evn) (g : Nat) (w : World) (hc : EvAt w g ev) (hg : g < w.heap.size) :
    Calls Tryd.prog 48 #[x.agg, .pointer (some ⟨g, 0, none⟩)] w fun e w' => e = .returned (.bool (decide (x.dig = ev.c))) ∧ Below w.heap.size w w' := by
  have hb : Below w.heap.size w (w.alloc x.obj) := (Below.refl _ _).alloc (Nat.le_refl _) _
  obtain ⟨c0, c1, c2⟩ := Ses.box w x
  obtain ⟨z0, z1, z2, z3, z4, z5, z6, z7⟩ := hc.below hb hg
  have HB := Lib.hid hb
  clear hb
  unfold Ses.R.obj at *
  unfold Ses.R.agg
  go_enter Tryd.func48, Tryd.ntmps48
  go_wp2_with fail
  go_ret
  exact ⟨ret_bool (eqS_dec _ _), HB.out⟩
set_option maxHeartbeats 2000000 in
set_option maxRecDepth 100000 in
theorem sesc2_any (x : Ses.R) (ev : Evn) (g : Nat) (w : World) (hc : EvAt w g ev) (hg : g < w.heap.size) :
    Calls Tryd.prog 51 #[x.agg, .pointer (some ⟨g, 0, none⟩)] w fun e w' => e = .returned (.bool (decide (x.exp ≤ ev.at_))) ∧ Below w.heap.size w w' := by
  have hb : Below w.heap.size w (w.alloc x.obj) := (Below.refl _ _).alloc (Nat.le_refl _) _
  obtain ⟨c0, c1, c2⟩ := Ses.box w x
  obtain ⟨z0, z1, z2, z3, z4, z5, z6, z7⟩ := hc.below hb hg
  have HB := Lib.hid hb
  clear hb
  unfold Ses.R.obj at *
  unfold Ses.R.agg
  go_enter Tryd.func51, Tryd.ntmps51
  go_wp2_with fail
  go_ret
  exact ⟨ret_bool (rfl), HB.out⟩
set_option maxHeartbeats 2000000 in
set_option maxRecDepth 100000 in
theorem revc_any (x : Ses.R) (id : Int) (g : Nat) (w : World) (hc : w.cell? ⟨g, 0, none⟩ = some (.int .i64 id)) (hg : g < w.heap.size) :
    Calls Tryd.prog 52 #[x.agg, .pointer (some ⟨g, 0, none⟩)] w fun e w' => e = .returned (.bool (decide (x.acc = id))) ∧ Below w.heap.size w w' := by
  have hb : Below w.heap.size w (w.alloc x.obj) := (Below.refl _ _).alloc (Nat.le_refl _) _
  obtain ⟨c0, c1, c2⟩ := Ses.box w x
  have hc2 := (hb.cell (p := ⟨g, 0, none⟩) hg).trans hc
  have HB := Lib.hid hb
  clear hb
  unfold Ses.R.obj at *
  unfold Ses.R.agg
  go_enter Tryd.func52, Tryd.ntmps52
  go_wp2_with fail
  go_ret
  exact ⟨ret_bool (by rw [Bool.eq_iff_iff, beq_iff_eq, decide_eq_true_eq]), HB.out⟩
set_option maxHeartbeats 2000000 in
set_option maxRecDepth 100000 in
theorem Sesc_any (x : Ses.R) (d : ByteArray) (now : Int) (g1 g2 : Nat) (w : World) (h1 : w.cell? ⟨g1, 0, none⟩ = some (.string d)) (h2 : w.cell? ⟨g2, 0, none⟩ = some (.int .i64 now)) (hg1 : g1 < w.heap.size) (hg2 : g2 < w.heap.size) :
    Calls Tryd.prog 34 #[x.agg, .pointer (some ⟨g1, 0, none⟩), .pointer (some ⟨g2, 0, none⟩)] w fun e w' => e = .returned (.bool (decide (x.dig = d) && decide (now < x.exp))) ∧ Below w.heap.size w w' := by
  have hb : Below w.heap.size w (w.alloc x.obj) := (Below.refl _ _).alloc (Nat.le_refl _) _
  obtain ⟨c0, c1, c2⟩ := Ses.box w x
  have k1 := (hb.cell (p := ⟨g1, 0, none⟩) hg1).trans h1
  have k2 := (hb.cell (p := ⟨g2, 0, none⟩) hg2).trans h2
  have HB := Lib.hid hb
  have HQ : Hid (decide (x.dig = d) = (x.dig.toList == d.toList)) := Lib.hid (eqS_dec _ _).symm
  generalize decide (x.dig = d) = q at *
  clear hb
  unfold Ses.R.obj at *
  unfold Ses.R.agg
  cases hq : (x.dig.toList == d.toList)
  · rw [hq] at HQ
    have hq' : ¬ x.dig.toList = d.toList := by simpa using hq
    go_enter Tryd.func34, Tryd.ntmps34
    go_wp2_with fail
    go_ret
    exact ⟨ret_bool (by rw [HQ.out]; rfl), HB.out⟩
  · rw [hq] at HQ
    have hq' : x.dig.toList = d.toList := by simpa using hq
    go_enter Tryd.func34, Tryd.ntmps34
    go_wp2_with fail
    go_ret
    exact ⟨ret_bool (by rw [HQ.out]; rfl), HB.out⟩
end Go.Proofs.YtkihleecjgoipaaDoor
