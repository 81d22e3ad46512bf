/- PeopleChecks: the law's walk. -/
import Derived.Test.YtkihleecjgoipaaGreatDoorMg12
import Derived.Test.YtkihleecjgoipaaGreatDoorChkC
import Derived.Test.YtkihleecjgoipaaGreatDoorChkS
import Derived.Test.YtkihleecjgoipaaGreatDoorPld16
import Derived.Test.YtkihleecjgoipaaGreatDoorStaC
import Derived.Test.YtkihleecjgoipaaGreatDoorMg5
import Derived.Test.YtkihleecjgoipaaGreatDoorMg11
namespace Go.Proofs.YtkihleecjgoipaaGreatDoor
open Go.RowKit Go.Maps Go.Proofs.YtkihleecjgoipaaGreatDoor.Rw

def tobj (at' mi pl vs : Int) (ct : ByteArray) : Obj := .cells #[.int .i64 at', .int .i64 mi, .int .i64 pl, .int .i64 vs, .string ct] 28
set_option maxHeartbeats 8000000 in
set_option maxRecDepth 100000 in
theorem checks_walk (a0 a1 a2 : Option Addr) (len cap len' cap' ln cp : Nat) (at' mi pl vs : Int) (ct : ByteArray) (W : World) (hm : ML W)
    (hp : ∀ i, i < len → ∃ b off o, a0 = some ⟨b, off, none⟩ ∧ b < W.heap.size ∧ Per.In W b (off + i * 13) o)
    (hs : ∀ i, i < len' → ∃ b off o, a1 = some ⟨b, off, none⟩ ∧ b < W.heap.size ∧ Ses.In W b (off + i * 3) o)
    (hsl : ∀ i, i < ln → ∃ b off o, a2 = some ⟨b, off, none⟩ ∧ b < W.heap.size ∧ NumAt W b (off + i * 7) o) :
    Calls Tryz.prog 3 #[.agg #[.slice a0 len cap, .slice a1 len' cap'], .slice a2 ln cp, .agg #[.int .i64 at', .int .i64 mi, .int .i64 pl, .int .i64 vs, .string ct]] W fun e W' => e = .returned (.bool true) ∧ Below W.heap.size W W' := by
  have b1 : Below W.heap.size W (W.alloc (pobj (.slice a0 len cap) (.slice a1 len' cap'))) := (Below.refl _ _).alloc (Nat.le_refl _) _
  have z1 : (W.alloc (pobj (.slice a0 len cap) (.slice a1 len' cap'))).heap.size = W.heap.size + 1 := by simp
  have b2 : Below W.heap.size W ((W.alloc (pobj (.slice a0 len cap) (.slice a1 len' cap'))).alloc (tobj at' mi pl vs ct)) := b1.alloc (by omega) _
  have z2 : ((W.alloc (pobj (.slice a0 len cap) (.slice a1 len' cap'))).alloc (tobj at' mi pl vs ct)).heap.size = W.heap.size + 2 := by simp
  have h1 : ((W.alloc (pobj (.slice a0 len cap) (.slice a1 len' cap'))).alloc (tobj at' mi pl vs ct)).heap[W.heap.size]? = some (pobj (.slice a0 len cap) (.slice a1 len' cap')) := (Lib.alloc_old _ _ _ (by omega)).trans (heap_new _ _)
  have h2 : ((W.alloc (pobj (.slice a0 len cap) (.slice a1 len' cap'))).alloc (tobj at' mi pl vs ct)).heap[W.heap.size + 1]? = some (tobj at' mi pl vs ct) := by rw [← z1]; exact heap_new _ _
  have AW : Hid (∀ w2, Below W.heap.size W w2 → Calls Tryz.prog 4 #[] w2 fun e w' => e = .returned (.bool true) ∧ Below w2.heap.size w2 w') := Lib.hid (fun w2 b => awake_any w2 (hm.below b))
  have FW : Hid (∀ w2, Below W.heap.size W w2 → Calls Tryz.prog 5 #[.agg #[.slice a0 len cap, .slice a1 len' cap']] w2 fun e W' => ∃ a c a' c' x, e = .returned (.agg #[.slice a x.ps.length c, .slice a' x.ss.length c']) ∧ Sz x ∧ pown W' w2.heap.size (.agg #[.slice a x.ps.length c, .slice a' x.ss.length c']) x ∧ Below w2.heap.size w2 W') := Lib.hid (fun w2 b => by
    have hs2 := b.size
    refine (few_any a0 a1 len cap len' cap' w2 (fun i hi => ?_) (fun i hi => ?_)).mono fun r w' ⟨v, x, q1, q2, q3, q4⟩ => ?_
    · obtain ⟨bb, off, oo, g1, g2, g3⟩ := hp i hi
      exact ⟨bb, off, oo, g1, by omega, g3.below b g2⟩
    · obtain ⟨bb, off, oo, g1, g2, g3⟩ := hs i hi
      exact ⟨bb, off, oo, g1, by omega, g3.below b g2⟩
    · obtain ⟨a, c, a', c', rfl⟩ := q3.form
      exact ⟨a, c, a', c', x, q1, q2, q3, q4⟩)
  have PL : Hid (∀ w2, Below W.heap.size W w2 → Calls Tryz.prog 6 #[.slice a2 ln cp, .int .i64 60] w2 fun e W' => ∃ a c a' c' p, e = .returned (.agg #[.slice a p.ps.length c, .slice a' p.ss.length c']) ∧ PI 60 p ∧ PC p ∧ pown W' w2.heap.size (.agg #[.slice a p.ps.length c, .slice a' p.ss.length c']) p ∧ Below w2.heap.size w2 W') := Lib.hid (fun w2 b => by
    have hs2 := b.size
    refine (played_any a2 ln cp 60 (by omega) w2 (fun i hi => ?_)).mono fun r w' ⟨N, p, v, q1, q2, q3, q4, q5, q6⟩ => ?_
    · obtain ⟨bb, off, oo, g1, g2, g3⟩ := hsl i hi
      exact ⟨bb, off, oo, g1, by omega, g3.below b g2⟩
    · obtain ⟨a, c, a', c', rfl⟩ := q5.form
      exact ⟨a, c, a', c', p, q1, q3.upto q2, q4, q5, q6⟩)
  have B2 := Lib.hid b2
  have Z2 := Lib.hid z2
  have H1 := Lib.hid h1
  have H2 := Lib.hid h2
  have HM := Lib.hid hm
  clear hp hs hsl hm b1 z1 b2 z2 h1 h2
  unfold pobj tobj at B2 Z2 H1 H2
  go_enter Tryz.func3, Tryz.ntmps3
  go_upto_region 2 with ((go_at_call 4; (refine (AW.out _ B2.out).mono ?_); rintro e w1 ⟨rfl, q1⟩; have Q1 := Lib.hid q1; clear q1))
  have z1 : W.heap.size + 2 ≤ w1.heap.size := by have := Q1.out.size; have := Z2.out; omega
  have W1 := Lib.hid (B2.out.trans (Q1.out.mono B2.out.size))
  have T1 : Hid (w1.heap[W.heap.size + 1]? = some (tobj at' mi pl vs ct)) := Lib.hid ((Q1.out.block _ (by rw [Z2.out]; omega)).trans H2.out)
  have P1 : Hid (w1.heap[W.heap.size]? = some (pobj (.slice a0 len cap) (.slice a1 len' cap'))) := Lib.hid ((Q1.out.block _ (by rw [Z2.out]; omega)).trans H1.out)
  obtain ⟨⟨p0, p1⟩, pf⟩ := pcell_of P1.out
  clear Q1 B2 Z2 H1 H2 AW
  go_upto_region 3 with ((go_at_call 5; (refine (FW.out _ W1.out).mono ?_); rintro e w2 ⟨xa, xc, xa', xc', x, rfl, hsz, hox, q2⟩; have SZ := Lib.hid hsz; have OX := Lib.hid hox; have Q2 := Lib.hid q2; clear hsz hox q2))
  have W2 := Lib.hid (W1.out.trans (Q2.out.mono W1.out.size))
  have z2 : W.heap.size + 2 ≤ w2.heap.size := by have := Q2.out.size; omega
  have T2 : Hid (w2.heap[W.heap.size + 1]? = some (tobj at' mi pl vs ct)) := Lib.hid ((Q2.out.block _ (by omega)).trans T1.out)
  have OX2 := Lib.hid (OX.out.mono (show W.heap.size + 2 ≤ w1.heap.size from z1))
  obtain ⟨w3, hw3⟩ : ∃ w3, w2.alloc (pobj (.slice xa x.ps.length xc) (.slice xa' x.ss.length xc')) = w3 := ⟨_, rfl⟩
  have b3 : Below w2.heap.size w2 w3 := by rw [← hw3]; exact (Below.refl _ _).alloc (Nat.le_refl _) _
  have X3 : Hid (w3.heap[w2.heap.size]? = some (pobj (.slice xa x.ps.length xc) (.slice xa' x.ss.length xc'))) := Lib.hid (by rw [← hw3]; exact heap_new _ _)
  have z3 : w3.heap.size = w2.heap.size + 1 := by rw [← hw3]; simp
  have W3 := Lib.hid (W2.out.trans (b3.mono W2.out.size))
  have T3 : Hid (w3.heap[W.heap.size + 1]? = some (tobj at' mi pl vs ct)) := Lib.hid ((b3.block _ (by omega)).trans T2.out)
  have OX3 := Lib.hid (OX2.out.below b3)
  unfold pobj at hw3
  rw [hw3]
  have Z3 := Lib.hid z3
  clear hw3 Q2 W2 OX OX2 T1 T2 P1 p0 p1 pf b3 z3 FW W1
  go_upto_region 4 with ((go_at_call 6; (refine (PL.out _ W3.out).mono ?_); rintro e w4 ⟨pa, pc, pa', pc', p, rfl, hpi, hpc, hop, q4⟩; have HPI := Lib.hid hpi; have HPC := Lib.hid hpc; have OP := Lib.hid hop; have Q4 := Lib.hid q4; clear hpi hpc hop q4))
  have z4 : w3.heap.size ≤ w4.heap.size := Q4.out.size
  have W4 := Lib.hid (W3.out.trans (Q4.out.mono W3.out.size))
  have lt3 : W.heap.size + 3 ≤ w3.heap.size := by have := Z3.out; omega
  have T4 : Hid (w4.heap[W.heap.size + 1]? = some (tobj at' mi pl vs ct)) := Lib.hid ((Q4.out.block _ (by omega)).trans T3.out)
  have X4 : Hid (w4.heap[w2.heap.size]? = some (pobj (.slice xa x.ps.length xc) (.slice xa' x.ss.length xc'))) := Lib.hid ((Q4.out.block _ (by have := Z3.out; omega)).trans X3.out)
  have OX4 := Lib.hid (OX3.out.below Q4.out)
  have OP4 := Lib.hid (OP.out.mono (show W.heap.size + 2 ≤ w3.heap.size by omega))
  have x2 : w2.heap.size < w4.heap.size := by have := Z3.out; omega
  obtain ⟨w6, hw6⟩ : ∃ w6, (w4.alloc (pobj (.slice pa p.ps.length pc) (.slice pa' p.ss.length pc'))).alloc (pobj (.slice pa p.ps.length pc) (.slice pa' p.ss.length pc')) = w6 := ⟨_, rfl⟩
  have za : (w4.alloc (pobj (.slice pa p.ps.length pc) (.slice pa' p.ss.length pc'))).heap.size = w4.heap.size + 1 := by simp
  have b6 : Below w4.heap.size w4 w6 := by rw [← hw6]; exact ((Below.refl _ _).alloc (Nat.le_refl _) _).alloc (by omega) _
  have hP6 : w6.heap[w4.heap.size]? = some (pobj (.slice pa p.ps.length pc) (.slice pa' p.ss.length pc')) := by rw [← hw6]; exact (Lib.alloc_old _ _ _ (by omega)).trans (heap_new _ _)
  have hQ6 : w6.heap[w4.heap.size + 1]? = some (pobj (.slice pa p.ps.length pc) (.slice pa' p.ss.length pc')) := by rw [← hw6, ← za]; exact heap_new _ _
  have z6 : w6.heap.size = w4.heap.size + 2 := by rw [← hw6]; simp
  have B6 := Lib.hid b6
  have P6 := Lib.hid hP6
  have Q6 := Lib.hid hQ6
  have Z6 := Lib.hid z6
  obtain ⟨⟨p0, p1⟩, pf⟩ := pcell_of ((Lib.alloc_old (w4.alloc (pobj (.slice pa p.ps.length pc) (.slice pa' p.ss.length pc'))) (pobj (.slice none 0 0) (.slice none 0 0)) _ (by omega)).trans (heap_new w4 (pobj (.slice pa p.ps.length pc) (.slice pa' p.ss.length pc'))))
  obtain ⟨⟨p2, p3⟩, pf2⟩ := pcell_of (heap_new w4 (pobj (.slice pa p.ps.length pc) (.slice pa' p.ss.length pc')))
  clear b6 hP6 hQ6 z6 Q4 W3 T3 X3 OX3 OP PL za
  unfold pobj at hw6 p0 p1 p2 p3 pf pf2
  go_upto_region 5 with fail
  obtain ⟨⟨q0, q1⟩, qf⟩ := pcell_of Q6.out
  obtain ⟨⟨p0, p1⟩, pf⟩ := pcell_of P6.out
  clear hw6
  go_upto_if 22 with fail
  go_cut [11] (fun _ wx => Below w4.heap.size w4 wx ∧ w4.heap.size + 2 ≤ wx.heap.size ∧ wx.heap[w4.heap.size]? = some (pobj (.slice pa p.ps.length pc) (.slice pa' p.ss.length pc')) ∧ ∃ (L : List Per.R) (qa : Option Addr) (qc : Nat), wx.heap[w4.heap.size + 1]? = some (pobj (.slice qa L.length qc) (.slice pa' p.ss.length pc')) ∧ Per.owns wx (W.heap.size + 2) (.slice qa L.length qc) L ∧ L.length = p.ps.length ∧ ∀ y ∈ L, Sml y)
  case first =>
    by_cases hn : 0 < p.ps.length
    · have hn' : (0 : Int) < p.ps.length := by omega
      have lim := HPI.out.few.1
      have tl : (at'.tmod p.ps.length).natAbs < p.ps.length := by
        rw [Int.natAbs_tmod]; simp; exact Nat.mod_lt _ hn
      have t1 : -(p.ps.length : Int) < at'.tmod p.ps.length := by omega
      have t2 : at'.tmod p.ps.length < (p.ps.length : Int) := by omega
      obtain ⟨⟨⟨e0, e1, e2, e3, e4⟩⟩, _⟩ : ((w6.cell? ⟨W.heap.size + 1, 0, none⟩ = some (.int .i64 at') ∧ w6.cell? ⟨W.heap.size + 1, 1, none⟩ = some (.int .i64 mi) ∧ w6.cell? ⟨W.heap.size + 1, 2, none⟩ = some (.int .i64 pl) ∧ w6.cell? ⟨W.heap.size + 1, 3, none⟩ = some (.int .i64 vs) ∧ w6.cell? ⟨W.heap.size + 1, 4, none⟩ = some (.string ct)) ∧ True) ∧ True := by
        have h := (B6.out.block (W.heap.size + 1) (by omega)).trans T4.out
        exact ⟨⟨⟨by rw [Lib.cell_of_heap h]; rfl, by rw [Lib.cell_of_heap h]; rfl, by rw [Lib.cell_of_heap h]; rfl, by rw [Lib.cell_of_heap h]; rfl, by rw [Lib.cell_of_heap h]; rfl⟩, trivial⟩, trivial⟩
      go_wp2_with fail
      go_quiet ((fail))
      obtain ⟨k, hk, hkn⟩ : ∃ k : Nat, (at'.tmod p.ps.length + p.ps.length) % (p.ps.length : Int) = (k : Int) ∧ k < p.ps.length :=
        ⟨((at'.tmod p.ps.length + p.ps.length) % (p.ps.length : Int)).toNat, by have := Int.emod_nonneg (at'.tmod p.ps.length + p.ps.length) (show (p.ps.length : Int) ≠ 0 by omega); omega, by have := Int.emod_lt_of_pos (at'.tmod p.ps.length + p.ps.length) hn'; have := Int.emod_nonneg (at'.tmod p.ps.length + p.ps.length) (show (p.ps.length : Int) ≠ 0 by omega); omega⟩
      rw [hk]
      clear hk t1 t2 tl
      have F7 : Hid (Below w4.heap.size w4 (w6.drewN nq) ∧ (w6.drewN nq).heap.size = w4.heap.size + 2 ∧ (w6.drewN nq).heap[w4.heap.size]? = some (pobj (.slice pa p.ps.length pc) (.slice pa' p.ss.length pc')) ∧ (w6.drewN nq).heap[w4.heap.size + 1]? = some (pobj (.slice pa p.ps.length pc) (.slice pa' p.ss.length pc'))) := Lib.hid ⟨below_drewN B6.out nq, Z6.out, P6.out, Q6.out⟩
      generalize w6.drewN nq = w7 at *
      clear e0 e1 e2 e3 e4 q0 q1 qf p0 p1 pf
      obtain ⟨⟨p0, p1⟩, pf⟩ := pcell_of F7.out.2.2.1
      have b8 : Below w7.heap.size w7 (w7.alloc (.cells #[] 34)) := (Below.refl _ _).alloc (Nat.le_refl _) _
      obtain ⟨pa2, pc2, pa3, pc3, epv, op1, op2⟩ := (OP4.out.below F7.out.1)
      obtain ⟨rfl, rfl⟩ : pa2 = pa ∧ pc2 = pc := by simp at epv; exact ⟨epv.1.1.symm, epv.1.2.symm⟩
      obtain ⟨a8, c8, w8, ra, o8, g8⟩ := Per.onto (B := w4.heap.size + 2) (op1.below b8) (heap_new w7 (.cells #[] 34)) (by rw [F7.out.2.1]; exact Nat.le_refl _) (by omega) 22
      have hs7 : (w7.alloc (.cells #[] 34)).heap.size = w4.heap.size + 3 := by simp [F7.out.2.1]
      obtain ⟨g, rfl, _⟩ := o8.all 0 hn
      have Q8 : Hid (QSPer w4 w4.heap.size (pobj (.slice pa2 p.ps.length pc2) (.slice pa' p.ss.length pc')) (.slice pa' p.ss.length pc') g c8 p.ps (w8.setCell ⟨w4.heap.size + 1, 0, none⟩ (.slice (some ⟨g, 0, none⟩) p.ps.length c8))) := Lib.hid (by
        have b9 : Below w4.heap.size w4 w8 := (F7.out.1.trans (b8.mono (by rw [F7.out.2.1]; omega))).grown g8 (by rw [hs7]; omega) (fun k e => by cases e; rw [F7.out.2.1]; omega)
        have k8 := (g8.block (w4.heap.size) (by rw [hs7]; omega) (by rw [F7.out.2.1]; simp)).trans ((b8.block _ (by rw [F7.out.2.1]; omega)).trans F7.out.2.2.1)
        have k9 := (g8.block (w4.heap.size + 1) (by rw [hs7]; omega) (by rw [F7.out.2.1]; simp)).trans ((b8.block _ (by rw [F7.out.2.1]; omega)).trans F7.out.2.2.2)
        have z8 := g8.size
        rw [hs7] at z8
        exact ⟨b9.setCell (by show _ ≤ w4.heap.size + 1; omega) _, by simp; omega, (heap_setCell_other _ _ _ _ (by show _ ≠ w4.heap.size + 1; omega)).trans k8, pbox_fst k9 _, Per.owns.apart (b := w4.heap.size + 1) o8 (by omega) _⟩)
      obtain ⟨⟨i0, i1⟩, xf⟩ : (w8.cell? ⟨w4.heap.size + 1, 0, none⟩ = some (.slice pa2 p.ps.length pc2) ∧ w8.cell? ⟨w4.heap.size + 1, 1, none⟩ = some (.slice pa' p.ss.length pc')) ∧ ∀ j, w8.frozen? ⟨w4.heap.size + 1, j, none⟩ = false := pcell_of ((g8.block (w4.heap.size + 1) (by rw [hs7]; omega) (by rw [F7.out.2.1]; simp)).trans ((b8.block _ (by rw [F7.out.2.1]; omega)).trans F7.out.2.2.2))
      obtain ⟨⟨j0, j1⟩, jf⟩ : (((w7.alloc (.cells #[] 34)).cell? ⟨w4.heap.size, 0, none⟩ = some (.slice pa2 p.ps.length pc2)) ∧ ((w7.alloc (.cells #[] 34)).cell? ⟨w4.heap.size, 1, none⟩ = some (.slice pa' p.ss.length pc'))) ∧ _ := pcell_of ((b8.block _ (by rw [F7.out.2.1]; omega)).trans F7.out.2.2.1)
      have RA := Lib.hid ra
      have HS7 := Lib.hid hs7
      clear ra g8 o8 op1 op2 b8 hs7 epv
      go_upto_region 8 with (at_builtin; refine Lib.wpList_append_run _ rfl _ _ _ _ rfl _ _ rfl rfl _ _ RA.out ?_)
      clear i0 i1 xf j0 j1 jf p0 p1 pf RA F7
      generalize w8.setCell ⟨w4.heap.size + 1, 0, none⟩ (.slice (some ⟨g, 0, none⟩) p.ps.length c8) = wa at *
      have TC : Hid (∀ w2, Below w4.heap.size w4 w2 → w2.cell? ⟨W.heap.size + 1, 1, none⟩ = some (.int .i64 mi) ∧ w2.cell? ⟨W.heap.size + 1, 2, none⟩ = some (.int .i64 pl) ∧ w2.cell? ⟨W.heap.size + 1, 3, none⟩ = some (.int .i64 vs) ∧ w2.cell? ⟨W.heap.size + 1, 4, none⟩ = some (.string ct)) := Lib.hid (fun w2 b => by
        have h := (b.block (W.heap.size + 1) (by omega)).trans T4.out
        exact ⟨by rw [Lib.cell_of_heap h]; rfl, by rw [Lib.cell_of_heap h]; rfl, by rw [Lib.cell_of_heap h]; rfl, by rw [Lib.cell_of_heap h]; rfl⟩)
      obtain ⟨x0, hx0⟩ : ∃ x0, p.ps[k]?.getD Per.zero = x0 := ⟨_, rfl⟩
      have X0 := Lib.hid hx0
      have hk0 : (0 : Int) ≤ k := by omega
      have hkn' : (k : Int) < p.ps.length := by omega
      obtain ⟨e1, e2, e3, e4⟩ := TC.out _ Q8.out.bel
      obtain ⟨⟨q0, q1⟩, _⟩ := pcell_of Q8.out.box
      obtain ⟨g2, hg2, _, _, r0, r1, r2, r3, r4, r5, r6, r7, r8, r9, r10, r11, r12⟩ := Q8.out.row.all k hkn
      obtain rfl : g = g2 := by simpa using hg2
      clear hg2
      have rf := Q8.out.row.free (k * 13 + 5)
      rw [hx0] at r5
      clear hx0 r0 r1 r2 r3 r4 r6 r7 r8 r9 r10 r11 r12
      go_region
      generalize wrap64 (x0.vers + vs) = v1
      have Q9 : Hid (QSPer w4 w4.heap.size (pobj (.slice pa2 p.ps.length pc2) (.slice pa' p.ss.length pc')) (.slice pa' p.ss.length pc') g c8 (p.ps.set k { x0 with vers := v1 }) (wa.setCell ⟨g, k * 13 + 5, none⟩ (.int .i64 v1)).drew) := Lib.hid (Q8.out.put k 5 hkn (by omega) (.int .i64 v1) { x0 with vers := v1 } (by rw [X0.out]; rfl)).drew
      clear Q8 e1 e2 e3 e4 q0 q1 r5 rf
      generalize (wa.setCell ⟨g, k * 13 + 5, none⟩ (.int .i64 v1)).drew = wb at *
      obtain ⟨e1, e2, e3, e4⟩ := TC.out _ Q9.out.bel
      obtain ⟨⟨q0, q1⟩, _⟩ := pcell_of Q9.out.box
      obtain ⟨g2, hg2, _, _, r0, r1, r2, r3, r4, r5, r6, r7, r8, r9, r10, r11, r12⟩ := Q9.out.row.all k (by rw [List.length_set]; exact hkn)
      obtain rfl : g = g2 := by simpa using hg2
      have rf := Q9.out.row.free (k * 13 + 6)
      rw [List.length_set] at q0
      rw [Per.set_at _ _ _ hkn] at r6
      simp only at r6
      clear hg2 r0 r1 r2 r3 r4 r5 r7 r8 r9 r10 r11 r12
      go_upto_region 9 with fail
      go_region
      generalize wrap64 (x0.miss + mi) = v2
      have Q10 : Hid (QSPer w4 w4.heap.size (pobj (.slice pa2 p.ps.length pc2) (.slice pa' p.ss.length pc')) (.slice pa' p.ss.length pc') g c8 ((p.ps.set k { x0 with vers := v1 }).set k { x0 with vers := v1, miss := v2 }) (wb.setCell ⟨g, k * 13 + 6, none⟩ (.int .i64 v2)).drew) := Lib.hid (Q9.out.put k 6 (by rw [List.length_set]; exact hkn) (by omega) (.int .i64 v2) { x0 with vers := v1, miss := v2 } (by rw [Per.set_at _ _ _ hkn]; rfl)).drew
      clear Q9 e1 e2 e3 e4 q0 q1 r6 rf
      generalize (wb.setCell ⟨g, k * 13 + 6, none⟩ (.int .i64 v2)).drew = wd at *
      have hj0 := i64_mask pl 2 (by omega)
      obtain ⟨j, hj, hj4⟩ : ∃ j : Nat, bits BinOp.and IntKind.i64 pl 3 = (j : Int) ∧ j < 4 := ⟨(pl % 4).toNat, by rw [show bits BinOp.and IntKind.i64 pl 3 = pl % 4 from hj0]; omega, by omega⟩
      obtain ⟨e1, e2, e3, e4⟩ := TC.out _ Q10.out.bel
      obtain ⟨⟨q0, q1⟩, _⟩ := pcell_of Q10.out.box
      obtain ⟨g2, hg2, _, _, r0, r1, r2, r3, r4, r5, r6, r7, r8, r9, r10, r11, r12⟩ := Q10.out.row.all k (by rw [List.length_set, List.length_set]; exact hkn)
      obtain rfl : g = g2 := by simpa using hg2
      have rf := Q10.out.row.free (k * 13 + 8 + j)
      rw [List.length_set, List.length_set] at q0
      have rc := CsAt.of r8 r9 r10 r11 r12 j (show j < 5 by omega)
      rw [Per.set_at _ _ _ (by rw [List.length_set]; exact hkn)] at rc
      have SH := Lib.hid (short_any ct)
      have hj4' : (j : Int) < 4 := by omega
      have hj5' : (j : Int) < 5 := by omega
      have hj00 : (0 : Int) ≤ j := by omega
      clear hg2 r0 r1 r2 r3 r4 r5 r6 r7 r8 r9 r10 r11 r12 hj0
      go_upto_region 10 with fail
      have gge := Q10.out.ge
      have e2d : wd.drew.cell? ⟨W.heap.size + 1, 2, none⟩ = some (.int .i64 pl) := e2
      have e4d : wd.drew.cell? ⟨W.heap.size + 1, 4, none⟩ = some (.string ct) := e4
      have q0d : wd.drew.cell? ⟨w4.heap.size + 1, 0, none⟩ = some (.slice (some ⟨g, 0, none⟩) p.ps.length c8) := q0
      have rcd : wd.drew.cell? ⟨g, k * 13 + 8 + j, none⟩ = _ := rc
      have rfd : wd.drew.frozen? ⟨g, k * 13 + 8 + j, none⟩ = false := rf
      have Q10 := Lib.hid Q10.out.drew
      clear e1 e2 e3 e4 q0 q1 rc rf
      refine wp_region_held_drew (S := fun w' => w'.cell? ⟨W.heap.size + 1, 2, none⟩ = some (.int .i64 pl) ∧ w'.cell? ⟨W.heap.size + 1, 4, none⟩ = some (.string ct) ∧ w'.cell? ⟨w4.heap.size + 1, 0, none⟩ = some (.slice (some ⟨g, 0, none⟩) p.ps.length c8)) (by kernel_rfl) ?_ (fun hHeld0 => ?_)
      · exact ⟨e2d, e4d, q0d⟩
      generalize wd.drew = we at *
      refine wpAnyH_take (i := 0) (v := ?_) rfl (by kernel_rfl) (by kernel_rfl) (by kernel_rfl) (fun _ _ _ h => h) (Or.inl ⟨by rfl, ?_⟩) (by assumption) ?_
      rotate_left
      · intro w hSw; (try dsimp only at hSw); obtain ⟨s0, s1, s2⟩ := hSw; go_simp; (try with_reducible rfl)
      simp only [List.getElem_toArray, List.getElem_cons_zero, Act.put, List.setIfInBounds_toArray, List.set_cons_zero, List.set_cons_succ]
      refine wpAnyH_take (i := 1) (v := ?_) rfl (by kernel_rfl) (by kernel_rfl) (by kernel_rfl) (fun _ _ _ h => h) (Or.inl ⟨by rfl, ?_⟩) (by assumption) ?_
      rotate_left
      · intro w hSw; (try dsimp only at hSw); obtain ⟨s0, s1, s2⟩ := hSw; go_simp; (try with_reducible rfl)
      simp only [List.getElem_toArray, List.getElem_cons_succ, List.getElem_cons_zero, Act.put, List.setIfInBounds_toArray, List.set_cons_zero, List.set_cons_succ]
      refine wpAnyH_take (i := 2) (v := ?_) rfl (by kernel_rfl) (by kernel_rfl) (by kernel_rfl) (fun _ _ _ h => h) (Or.inl ⟨by rfl, ?_⟩) (by assumption) ?_
      rotate_left
      · intro w hSw; (try dsimp only at hSw); obtain ⟨s0, s1, s2⟩ := hSw; go_simp; (try with_reducible rfl)
      simp only [List.getElem_toArray, List.getElem_cons_succ, List.getElem_cons_zero, Act.put, List.setIfInBounds_toArray, List.set_cons_zero, List.set_cons_succ]
      refine wpAnyH_take (i := 3) (v := ?_) rfl (by kernel_rfl) (by kernel_rfl) (by kernel_rfl) (fun _ _ _ h => h) (Or.inl ⟨by rfl, ?_⟩) (by assumption) ?_
      rotate_left
      · intro w hSw; (try dsimp only at hSw); obtain ⟨s0, s1, s2⟩ := hSw; go_simp; (try with_reducible rfl)
      simp only [List.getElem_toArray, List.getElem_cons_succ, List.getElem_cons_zero, Act.put, List.setIfInBounds_toArray, List.set_cons_zero, List.set_cons_succ]
      refine wpAnyH_take (i := 4) (v := ?_) rfl (by kernel_rfl) (by kernel_rfl) (by kernel_rfl) (fun _ _ _ h => h) (Or.inl ⟨by rfl, ?_⟩) (by assumption) ?_
      rotate_left
      · intro w hSw; (try dsimp only at hSw); obtain ⟨s0, s1, s2⟩ := hSw; go_simp; (try with_reducible rfl)
      simp only [List.getElem_toArray, List.getElem_cons_succ, List.getElem_cons_zero, Act.put, List.setIfInBounds_toArray, List.set_cons_zero, List.set_cons_succ]
      refine wpAnyH_take (i := 5) (v := ?_) rfl (by kernel_rfl) (by kernel_rfl) (by kernel_rfl) (fun _ _ _ h => h) (Or.inl ⟨by rfl, ?_⟩) (by assumption) ?_
      rotate_left
      · intro w hSw; (try dsimp only at hSw); obtain ⟨s0, s1, s2⟩ := hSw; go_simp; (try with_reducible rfl)
      simp only [List.getElem_toArray, List.getElem_cons_succ, List.getElem_cons_zero, Act.put, List.setIfInBounds_toArray, List.set_cons_zero, List.set_cons_succ]
      refine wpAnyH_take (i := 6) (v := ?_) rfl (by kernel_rfl) (by kernel_rfl) (by kernel_rfl) (fun _ _ _ h => h) (Or.inl ⟨by rfl, ?_⟩) (by assumption) ?_
      rotate_left
      · intro w hSw; (try dsimp only at hSw); obtain ⟨s0, s1, s2⟩ := hSw; go_simp; (try with_reducible rfl)
      simp only [List.getElem_toArray, List.getElem_cons_succ, List.getElem_cons_zero, Act.put, List.setIfInBounds_toArray, List.set_cons_zero, List.set_cons_succ]
      refine wpAnyH_take (i := 7) (v := ?_) rfl (by kernel_rfl) (by kernel_rfl) (by kernel_rfl) (fun _ _ _ h => h) (Or.inl ⟨by rfl, ?_⟩) (by assumption) ?_
      rotate_left
      · intro w hSw; (try dsimp only at hSw); obtain ⟨s0, s1, s2⟩ := hSw; go_simp; (try with_reducible rfl)
      simp only [List.getElem_toArray, List.getElem_cons_succ, List.getElem_cons_zero, Act.put, List.setIfInBounds_toArray, List.set_cons_zero, List.set_cons_succ]
      refine wpAnyH_take (i := 9) (v := ?_) rfl (by kernel_rfl) (by kernel_rfl) (by kernel_rfl) (fun _ _ _ h => h) (Or.inl ⟨by rfl, ?_⟩) (by assumption) ?_
      rotate_left
      · intro w hSw; (try dsimp only at hSw); obtain ⟨s0, s1, s2⟩ := hSw; go_simp; (try with_reducible rfl)
      simp only [List.getElem_toArray, List.getElem_cons_succ, List.getElem_cons_zero, Act.put, List.setIfInBounds_toArray, List.set_cons_zero, List.set_cons_succ]
      refine wpAnyH_take (i := 10) (v := ?_) rfl (by kernel_rfl) (by kernel_rfl) (by kernel_rfl) (fun _ _ _ h => h) (Or.inl ⟨by rfl, ?_⟩) (by assumption) ?_
      rotate_left
      · intro w hSw; (try dsimp only at hSw); obtain ⟨s0, s1, s2⟩ := hSw; go_simp; (try with_reducible rfl)
      simp only [List.getElem_toArray, List.getElem_cons_succ, List.getElem_cons_zero, Act.put, List.setIfInBounds_toArray, List.set_cons_zero, List.set_cons_succ]
      refine wpAnyH_ready (rs := [8]) (by kernel_rfl) (by simp) ?_
      refine AllReadyH.cons rfl (fun K hK => ?_) AllReadyH.nil
      go_simp
      (go_at_call 7; (refine (SH.out _).mono ?_); rintro z w2 ⟨⟨t5, rfl, ht5⟩, rfl⟩)
      refine hK.out _ _ ?_ (fun hHeld1 => ?_)
      · exact ⟨e2d, e4d, q0d⟩
      clear hK K hHeld0
      try simp only [List.getElem_toArray, List.getElem_cons_succ, List.getElem_cons_zero, Act.put, List.setIfInBounds_toArray, List.set_cons_zero, List.set_cons_succ]
      refine wpAnyH_take (i := 11) (v := ?_) rfl (by kernel_rfl) (by kernel_rfl) (by kernel_rfl) (fun _ _ _ h => h) (Or.inl ⟨by rfl, ?_⟩) (by assumption) ?_
      rotate_left
      · intro w hSw; (try dsimp only at hSw); obtain ⟨s0, s1, s2⟩ := hSw; go_simp; (try with_reducible rfl)
      simp only [List.getElem_toArray, List.getElem_cons_succ, List.getElem_cons_zero, Act.put, List.setIfInBounds_toArray, List.set_cons_zero, List.set_cons_succ]
      refine wpAnyH_ready (rs := [12]) (by kernel_rfl) (by simp) ?_
      refine AllReadyH.cons rfl (fun K hK => ?_) AllReadyH.nil
      go_simp
      refine hK.out _ _ ?_ (fun hHeld9 => ?_)
      · exact ⟨(cell_far (by omega)).trans e2d, (cell_far (by omega)).trans e4d, (cell_far (by omega)).trans q0d⟩
      refine wpAnyH_done (by kernel_rfl) ?_ _
      have Q11 : Hid (QSPer w4 w4.heap.size (pobj (.slice pa2 p.ps.length pc2) (.slice pa' p.ss.length pc')) (.slice pa' p.ss.length pc') g c8 (((p.ps.set k { x0 with vers := v1 }).set k { x0 with vers := v1, miss := v2 }).set k (putC { x0 with vers := v1, miss := v2 } j t5)) (w2.setCell ⟨g, k * 13 + 8 + j, none⟩ (.string t5))) := Lib.hid (by
        have h := Q10.out.put k (8 + j) (by rw [List.length_set, List.length_set]; exact hkn) (by omega) (.string t5) (putC { x0 with vers := v1, miss := v2 } j t5) (by rw [Per.set_at _ _ _ (by rw [List.length_set]; exact hkn)]; exact putC_cells _ j (by omega) t5)
        rwa [← Nat.add_assoc] at h)
      have SM : Hid (∀ y ∈ ((p.ps.set k { x0 with vers := v1 }).set k { x0 with vers := v1, miss := v2 }).set k (putC { x0 with vers := v1, miss := v2 } j t5), Sml y) := Lib.hid (by
        have h0 : Sml x0 := by rw [← X0.out]; exact sml_at HPC.out hkn
        exact sml_set (sml_set (sml_set (sml_all HPC.out) k (y := { x0 with vers := v1 }) h0) k (y := { x0 with vers := v1, miss := v2 }) h0) k (sml_put (y := { x0 with vers := v1, miss := v2 }) h0 j (by omega) ht5))
      clear Q10 e2d e4d q0d rcd rfd
      go_wp2_with fail
      go_meet
      case rel => exact ⟨Q11.out.bel, Q11.out.size, Q11.out.own, _, _, _, Q11.out.box, Per.owns.mono Q11.out.row (by omega), by simp, SM.out⟩
    · have hn' : ¬ ((0 : Int) < p.ps.length) := by omega
      go_wp2_with fail
      go_meet
      case rel =>
        obtain ⟨pa2, pc2, pa3, pc3, epv, op1, op2⟩ := (OP4.out.below B6.out)
        obtain ⟨⟨rfl, rfl⟩, rfl, rfl⟩ : (pa2 = pa ∧ pc2 = pc) ∧ pa3 = pa' ∧ pc3 = pc' := by simp at epv; exact ⟨⟨epv.1.1.symm, epv.1.2.symm⟩, epv.2.1.symm, epv.2.2.symm⟩
        exact ⟨B6.out, by rw [Z6.out]; exact Nat.le_refl _, P6.out, p.ps, _, _, Q6.out, op1, rfl, sml_all HPC.out⟩
  case rest =>
    obtain ⟨cb, cz, cp, L, qa, qc, cq, co, cl, cs⟩ := hcut
    have CB := Lib.hid cb
    have CZ := Lib.hid cz
    have CP := Lib.hid cp
    have CQ := Lib.hid cq
    have CO := Lib.hid co
    have CL := Lib.hid cl
    have CS := Lib.hid cs
    obtain ⟨⟨p0, p1⟩, pf⟩ := pcell_of cp
    obtain ⟨⟨q0, q1⟩, qf⟩ := pcell_of cq
    clear cb cz cp cq co cl cs B6 P6 Q6 Z6
    go_upto_if 85 with fail
    go_cut [12] (fun _ wx => Below w4.heap.size w4 wx ∧ w4.heap.size + 2 ≤ wx.heap.size ∧ wx.heap[w4.heap.size]? = some (pobj (.slice pa p.ps.length pc) (.slice pa' p.ss.length pc')) ∧ ∃ (M : List Ses.R) (ra : Option Addr) (rc : Nat), wx.heap[w4.heap.size + 1]? = some (pobj (.slice qa L.length qc) (.slice ra M.length rc)) ∧ Per.owns wx (W.heap.size + 2) (.slice qa L.length qc) L ∧ Ses.owns wx (W.heap.size + 2) (.slice ra M.length rc) M ∧ M.length = p.ss.length)
    case first =>
      by_cases hn : 0 < p.ss.length
      · have hn' : (0 : Int) < p.ss.length := by omega
        have lim := HPI.out.few.2
        have tl : (at'.tmod p.ss.length).natAbs < p.ss.length := by
          rw [Int.natAbs_tmod]; simp; exact Nat.mod_lt _ hn
        have t1 : -(p.ss.length : Int) < at'.tmod p.ss.length := by omega
        have t2 : at'.tmod p.ss.length < (p.ss.length : Int) := by omega
        have TC : Hid (∀ w2, Below w4.heap.size w4 w2 → w2.cell? ⟨W.heap.size + 1, 0, none⟩ = some (.int .i64 at') ∧ w2.cell? ⟨W.heap.size + 1, 1, none⟩ = some (.int .i64 mi)) := Lib.hid (fun w2 b => by
          have h := (b.block (W.heap.size + 1) (by omega)).trans T4.out
          exact ⟨by rw [Lib.cell_of_heap h]; rfl, by rw [Lib.cell_of_heap h]; rfl⟩)
        obtain ⟨e0, e1⟩ := TC.out _ CB.out
        go_wp2_with fail
        go_quiet ((fail))
        obtain ⟨k, hk, hkn⟩ : ∃ k : Nat, (at'.tmod p.ss.length + p.ss.length) % (p.ss.length : Int) = (k : Int) ∧ k < p.ss.length :=
          ⟨((at'.tmod p.ss.length + p.ss.length) % (p.ss.length : Int)).toNat, by have := Int.emod_nonneg (at'.tmod p.ss.length + p.ss.length) (show (p.ss.length : Int) ≠ 0 by omega); omega, by have := Int.emod_lt_of_pos (at'.tmod p.ss.length + p.ss.length) hn'; have := Int.emod_nonneg (at'.tmod p.ss.length + p.ss.length) (show (p.ss.length : Int) ≠ 0 by omega); omega⟩
        rw [hk]
        clear hk t1 t2 tl
        have F7 : Hid (Below w4.heap.size w4 (wc.drewN nq) ∧ w4.heap.size + 2 ≤ (wc.drewN nq).heap.size ∧ (wc.drewN nq).heap[w4.heap.size]? = some (pobj (.slice pa p.ps.length pc) (.slice pa' p.ss.length pc')) ∧ (wc.drewN nq).heap[w4.heap.size + 1]? = some (pobj (.slice qa L.length qc) (.slice pa' p.ss.length pc')) ∧ Per.owns (wc.drewN nq) (W.heap.size + 2) (.slice qa L.length qc) L) := Lib.hid ⟨below_drewN CB.out nq, CZ.out, CP.out, CQ.out, CO.out⟩
        generalize wc.drewN nq = w7 at *
        clear e0 e1 q0 q1 qf p0 p1 pf
        have z7 := F7.out.2.1
        have b8 : Below w7.heap.size w7 (w7.alloc (.cells #[] 37)) := (Below.refl _ _).alloc (Nat.le_refl _) _
        obtain ⟨pa2, pc2, pa3, pc3, epv, op1, op2⟩ := (OP4.out.below F7.out.1)
        obtain ⟨rfl, rfl⟩ : pa3 = pa' ∧ pc3 = pc' := by simp at epv; exact ⟨epv.2.1.symm, epv.2.2.symm⟩
        obtain ⟨a8, c8, w8, ra, o8, g8⟩ := Ses.onto (B := w4.heap.size + 2) (op2.below b8) (heap_new w7 (.cells #[] 37)) z7 (by omega) 23
        have hs7 : (w7.alloc (.cells #[] 37)).heap.size = w7.heap.size + 1 := by simp
        obtain ⟨g, rfl, hgz, hgl, _⟩ := o8.all 0 hn
        have k8 := (g8.block (w4.heap.size) (by rw [hs7]; omega) (by simp; omega)).trans ((b8.block _ (by omega)).trans F7.out.2.2.1)
        have k9 := (g8.block (w4.heap.size + 1) (by rw [hs7]; omega) (by simp; omega)).trans ((b8.block _ (by omega)).trans F7.out.2.2.2.1)
        have Q8 : Hid (QSSes w4 w4.heap.size (pobj (.slice pa p.ps.length pc) (.slice pa3 p.ss.length pc3)) (.slice qa L.length qc) g c8 p.ss (w8.setCell ⟨w4.heap.size + 1, 1, none⟩ (.slice (some ⟨g, 0, none⟩) p.ss.length c8)) ∧ Per.owns (w8.setCell ⟨w4.heap.size + 1, 1, none⟩ (.slice (some ⟨g, 0, none⟩) p.ss.length c8)) (W.heap.size + 2) (.slice qa L.length qc) L) := Lib.hid (by
          have b9 : Below w4.heap.size w4 w8 := (F7.out.1.trans (b8.mono (by omega))).grown g8 (by rw [hs7]; omega) (fun k e => by cases e; omega)
          have z8 := g8.size
          rw [hs7] at z8
          refine ⟨⟨b9.setCell (by show _ ≤ w4.heap.size + 1; omega) _, by simp; omega, (heap_setCell_other _ _ _ _ (by show _ ≠ w4.heap.size + 1; omega)).trans k8, pbox_snd k9 _, Ses.owns.apart (b := w4.heap.size + 1) o8 (by omega) _⟩, ?_⟩
          have hp8 : Per.owns w8 (W.heap.size + 2) (.slice qa L.length qc) L := World.ownsRow.kept (Per.owns.below F7.out.2.2.2.2 b8) g8 (by
            cases hb : (Value.slice qa L.length qc).ownBlock with
            | none => exact .inl rfl
            | some j => exact .inr (fun e => by cases e; have := (World.ownsRow.lt F7.out.2.2.2.2 _ hb).2; omega))
          exact per_set hp8 k9 (by decide) 1 _)
        obtain ⟨⟨i0, i1⟩, xf⟩ := pcell_of k9
        obtain ⟨⟨j0, j1⟩, jf⟩ := pcell_of ((b8.block (w4.heap.size) (by omega)).trans F7.out.2.2.1)
        have RA := Lib.hid ra
        clear ra g8 o8 op1 op2 b8 hs7 epv k8 k9
        go_upto_region 14 with (at_builtin; refine Lib.wpList_append_run _ rfl _ _ _ _ rfl _ _ rfl rfl _ _ RA.out ?_)
        clear i0 i1 xf j0 j1 jf RA F7
        generalize w8.setCell ⟨w4.heap.size + 1, 1, none⟩ (.slice (some ⟨g, 0, none⟩) p.ss.length c8) = wa at *
        obtain ⟨x0, hx0⟩ : ∃ x0, p.ss[k]?.getD Ses.zero = x0 := ⟨_, rfl⟩
        have X0 := Lib.hid hx0
        have hk0 : (0 : Int) ≤ k := by omega
        have hkn' : (k : Int) < p.ss.length := by omega
        obtain ⟨e0, e1⟩ := TC.out _ Q8.out.1.bel
        obtain ⟨⟨q0, q1⟩, _⟩ := pcell_of Q8.out.1.box
        obtain ⟨g2, hg2, _, _, r0, r1, r2⟩ := Q8.out.1.row.all k hkn
        obtain rfl : g = g2 := by simpa using hg2
        have rf := Q8.out.1.row.free (k * 3 + 1)
        rw [hx0] at r1
        have GB : Hid (∃ cs, wa.heap[g]? = some (.cells cs 37)) := Lib.hid (row_block Q8.out.1.row)
        clear hg2 hx0 r0 r2
        go_region
        generalize wrap64 (x0.acc + mi) = v1
        have Q9 : Hid (QSSes w4 w4.heap.size (pobj (.slice pa p.ps.length pc) (.slice pa3 p.ss.length pc3)) (.slice qa L.length qc) g c8 (p.ss.set k { x0 with acc := v1 }) (wa.setCell ⟨g, k * 3 + 1, none⟩ (.int .i64 v1)).drew ∧ Per.owns (wa.setCell ⟨g, k * 3 + 1, none⟩ (.int .i64 v1)).drew (W.heap.size + 2) (.slice qa L.length qc) L) := Lib.hid (by
          obtain ⟨cs, hcs⟩ := GB.out
          exact ⟨(Q8.out.1.put k 1 hkn (by omega) (.int .i64 v1) { x0 with acc := v1 } (by rw [X0.out]; rfl)).drew, Per.owns.below (per_set Q8.out.2 hcs (by decide) _ _) (below_drew (Below.refl _ _))⟩)
        clear Q8 e0 e1 q0 q1 r1 rf GB
        generalize (wa.setCell ⟨g, k * 3 + 1, none⟩ (.int .i64 v1)).drew = wb at *
        go_wp2_with fail
        go_meet
        case rel => exact ⟨Q9.out.1.bel, Q9.out.1.size, Q9.out.1.own, _, _, _, Q9.out.1.box, Q9.out.2, Ses.owns.mono Q9.out.1.row (by omega), by simp⟩
      · have hn' : ¬ ((0 : Int) < p.ss.length) := by omega
        go_wp2_with fail
        go_meet
        case rel =>
          obtain ⟨pa2, pc2, pa3, pc3, epv, op1, op2⟩ := (OP4.out.below CB.out)
          obtain ⟨rfl, rfl⟩ : pa3 = pa' ∧ pc3 = pc' := by simp at epv; exact ⟨epv.2.1.symm, epv.2.2.symm⟩
          exact ⟨CB.out, CZ.out, CP.out, p.ss, _, _, CQ.out, CO.out, op2, rfl⟩
    case rest =>
      clear CB CZ CP CQ CO p0 p1 pf q0 q1 qf
      obtain ⟨cb, cz, cp, M, ra, rc, cq, co, cm, cn⟩ := hcut
      have s4 := cb.size
      have hx := (cb.block w2.heap.size (by omega)).trans X4.out
      have BX : Hid (∀ w5, Below wc.heap.size wc w5 → ((w5.cell? ⟨w2.heap.size, 0, none⟩ = some (.slice xa x.ps.length xc) ∧ w5.cell? ⟨w2.heap.size, 1, none⟩ = some (.slice xa' x.ss.length xc')) ∧ (w5.cell? ⟨w4.heap.size, 0, none⟩ = some (.slice pa p.ps.length pc) ∧ w5.cell? ⟨w4.heap.size, 1, none⟩ = some (.slice pa' p.ss.length pc')) ∧ (w5.cell? ⟨w4.heap.size + 1, 0, none⟩ = some (.slice qa L.length qc) ∧ w5.cell? ⟨w4.heap.size + 1, 1, none⟩ = some (.slice ra M.length rc)))) := Lib.hid (fun w5 b =>
        ⟨(pcell_of ((b.block _ (by omega)).trans hx)).1, (pcell_of ((b.block _ (by omega)).trans cp)).1, (pcell_of ((b.block _ (by omega)).trans cq)).1⟩)
      have OXF := OX4.out.below cb
      have OPF := OP4.out.below cb
      have OQF : pown wc (W.heap.size + 2) (.agg #[.slice qa L.length qc, .slice ra M.length rc]) ⟨L, M⟩ := ⟨qa, qc, ra, rc, rfl, co, cm⟩
      have WF := Lib.hid (W4.out.trans (cb.mono W4.out.size))
      have hml : ML wc := HM.out.below WF.out
      have fx : few x := ⟨by have := SZ.out.1; omega, by have := SZ.out.2.1; omega⟩
      have fp := HPI.out.few
      have fq : few (⟨L, M⟩ : Ppl) := ⟨by show L.length ≤ _; rw [CL.out]; exact fp.1, by show M.length ≤ _; rw [cn]; exact fp.2⟩
      have CKX : Hid (∀ w5, Below wc.heap.size wc w5 → Calls Tryz.prog 8 #[.agg #[.slice xa x.ps.length xc, .slice xa' x.ss.length xc']] w5 fun e w' => e = .returned (.bool (chkB x)) ∧ Below w5.heap.size w5 w') := Lib.hid (fun w5 b => check_any (OXF.below b) fx (hml.below b) SZ.out.2.2)
      have CRX : Hid (∀ w5, Below wc.heap.size wc w5 → Calls Tryz.prog 9 #[.agg #[.slice xa x.ps.length xc, .slice xa' x.ss.length xc']] w5 fun e w' => e = .returned (.bool (chkB x)) ∧ Below w5.heap.size w5 w') := Lib.hid (fun w5 b => check16_any (OXF.below b) fx SZ.out.2.2)
      have CKP : Hid (∀ w5, Below wc.heap.size wc w5 → Calls Tryz.prog 8 #[.agg #[.slice pa p.ps.length pc, .slice pa' p.ss.length pc']] w5 fun e w' => e = .returned (.bool true) ∧ Below w5.heap.size w5 w') := Lib.hid (fun w5 b => by
        have h := check_any (OPF.below b) fp (hml.below b) (sml_all HPC.out)
        rwa [HPC.out.chk HPI.out (by omega)] at h)
      have CKQ : Hid (∀ w5, Below wc.heap.size wc w5 → Calls Tryz.prog 8 #[.agg #[.slice qa L.length qc, .slice ra M.length rc]] w5 fun e w' => e = .returned (.bool (chkB ⟨L, M⟩)) ∧ Below w5.heap.size w5 w') := Lib.hid (fun w5 b => check_any (OQF.below b) fq (hml.below b) CS.out)
      have CRQ : Hid (∀ w5, Below wc.heap.size wc w5 → Calls Tryz.prog 9 #[.agg #[.slice qa L.length qc, .slice ra M.length rc]] w5 fun e w' => e = .returned (.bool (chkB ⟨L, M⟩)) ∧ Below w5.heap.size w5 w') := Lib.hid (fun w5 b => check16_any (OQF.below b) fq CS.out)
      have SPQ : Hid (∀ w5, Below wc.heap.size wc w5 → Calls Tryz.prog 10 #[.agg #[.slice pa p.ps.length pc, .slice pa' p.ss.length pc'], .agg #[.slice qa L.length qc, .slice ra M.length rc]] w5 fun e w' => e = .returned (.bool (sameB p ⟨L, M⟩)) ∧ Below w5.heap.size w5 w') := Lib.hid (fun w5 b => same_any (OPF.below b) (OQF.below b) fp fq)
      have RPQ : Hid (∀ w5, Below wc.heap.size wc w5 → Calls Tryz.prog 11 #[.agg #[.slice pa p.ps.length pc, .slice pa' p.ss.length pc'], .agg #[.slice qa L.length qc, .slice ra M.length rc]] w5 fun e w' => e = .returned (.bool (sameB p ⟨L, M⟩)) ∧ Below w5.heap.size w5 w') := Lib.hid (fun w5 b => same16_any (OPF.below b) (OQF.below b) fp)
      have SXP : Hid (∀ w5, Below wc.heap.size wc w5 → Calls Tryz.prog 10 #[.agg #[.slice xa x.ps.length xc, .slice xa' x.ss.length xc'], .agg #[.slice pa p.ps.length pc, .slice pa' p.ss.length pc']] w5 fun e w' => e = .returned (.bool (sameB x p)) ∧ Below w5.heap.size w5 w') := Lib.hid (fun w5 b => same_any (OXF.below b) (OPF.below b) fx fp)
      have RXP : Hid (∀ w5, Below wc.heap.size wc w5 → Calls Tryz.prog 11 #[.agg #[.slice xa x.ps.length xc, .slice xa' x.ss.length xc'], .agg #[.slice pa p.ps.length pc, .slice pa' p.ss.length pc']] w5 fun e w' => e = .returned (.bool (sameB x p)) ∧ Below w5.heap.size w5 w') := Lib.hid (fun w5 b => same16_any (OXF.below b) (OPF.below b) fx)
      have SXX : Hid (∀ w5, Below wc.heap.size wc w5 → Calls Tryz.prog 10 #[.agg #[.slice xa x.ps.length xc, .slice xa' x.ss.length xc'], .agg #[.slice xa x.ps.length xc, .slice xa' x.ss.length xc']] w5 fun e w' => e = .returned (.bool true) ∧ Below w5.heap.size w5 w') := Lib.hid (fun w5 b => by
        have h := same_any (OXF.below b) (OXF.below b) fx fx
        rwa [(sameB_iff x x).2 rfl] at h)
      clear cb cz cp cq co cm cn hx OXF OPF OQF hml fx fp fq s4
      generalize chkB x = bx at *
      generalize chkB ⟨L, M⟩ = bq at *
      generalize sameB p ⟨L, M⟩ = bs at *
      generalize sameB x p = bt at *
      go_upto_region 15 with fail
      refine wp_region_held_drew (S := fun w' => Below wc.heap.size wc w') (by kernel_rfl) ?_ (fun hHeld0 => ?_)
      · exact below_drew (Below.refl _ _)
      refine wpAnyH_take (i := 0) (v := ?_) rfl (by kernel_rfl) (by kernel_rfl) (by kernel_rfl) (fun _ _ _ h => h) (Or.inl ⟨by rfl, ?_⟩) (by assumption) ?_
      rotate_left
      · intro w hSw; (try dsimp only at hSw); obtain ⟨⟨x0, x1⟩, ⟨p0, p1⟩, ⟨q0, q1⟩⟩ := BX.out _ hSw; go_simp; (try with_reducible rfl)
      simp only [List.getElem_toArray, List.getElem_cons_zero, Act.put, List.setIfInBounds_toArray, List.set_cons_zero, List.set_cons_succ]
      refine wpAnyH_take (i := 1) (v := ?_) rfl (by kernel_rfl) (by kernel_rfl) (by kernel_rfl) (fun _ _ _ h => h) (Or.inl ⟨by rfl, ?_⟩) (by assumption) ?_
      rotate_left
      · intro w hSw; (try dsimp only at hSw); obtain ⟨⟨x0, x1⟩, ⟨p0, p1⟩, ⟨q0, q1⟩⟩ := BX.out _ hSw; go_simp; (try with_reducible rfl)
      simp only [List.getElem_toArray, List.getElem_cons_succ, List.getElem_cons_zero, Act.put, List.setIfInBounds_toArray, List.set_cons_zero, List.set_cons_succ]
      refine wpAnyH_take (i := 2) (v := ?_) rfl (by kernel_rfl) (by kernel_rfl) (by kernel_rfl) (fun _ _ _ h => h) (Or.inl ⟨by rfl, ?_⟩) (by assumption) ?_
      rotate_left
      · intro w hSw; (try dsimp only at hSw); obtain ⟨⟨x0, x1⟩, ⟨p0, p1⟩, ⟨q0, q1⟩⟩ := BX.out _ hSw; go_simp; (try with_reducible rfl)
      simp only [List.getElem_toArray, List.getElem_cons_succ, List.getElem_cons_zero, Act.put, List.setIfInBounds_toArray, List.set_cons_zero, List.set_cons_succ]
      refine wpAnyH_take (i := 4) (v := ?_) rfl (by kernel_rfl) (by kernel_rfl) (by kernel_rfl) (fun _ _ _ h => h) (Or.inl ⟨by rfl, ?_⟩) (by assumption) ?_
      rotate_left
      · intro w hSw; (try dsimp only at hSw); obtain ⟨⟨x0, x1⟩, ⟨p0, p1⟩, ⟨q0, q1⟩⟩ := BX.out _ hSw; go_simp; (try with_reducible rfl)
      simp only [List.getElem_toArray, List.getElem_cons_succ, List.getElem_cons_zero, Act.put, List.setIfInBounds_toArray, List.set_cons_zero, List.set_cons_succ]
      refine wpAnyH_ready (rs := [3]) (by kernel_rfl) (by simp) ?_
      refine AllReadyH.cons rfl (fun K hK => ?_) AllReadyH.nil
      go_simp
      (go_at_call 8; (refine (CKX.out _ (below_drew (Below.refl wc.heap.size wc))).mono ?_); rintro z v1 ⟨rfl, c1⟩)
      have D1 := Lib.hid (((below_drew (Below.refl wc.heap.size wc))).trans (c1.mono ((below_drew (Below.refl wc.heap.size wc))).size))
      clear c1
      refine hK.out _ _ ?_ (fun hHeld1 => ?_)
      · exact D1.out
      clear hK K hHeld0
      try simp only [List.getElem_toArray, List.getElem_cons_succ, List.getElem_cons_zero, Act.put, List.setIfInBounds_toArray, List.set_cons_zero, List.set_cons_succ]
      refine wpAnyH_ready (rs := [5]) (by kernel_rfl) (by simp) ?_
      refine AllReadyH.cons rfl (fun K hK => ?_) AllReadyH.nil
      go_simp
      (go_at_call 9; (refine (CRX.out _ D1.out).mono ?_); rintro z v2 ⟨rfl, c2⟩)
      have D2 := Lib.hid ((D1.out).trans (c2.mono (D1.out).size))
      clear c2
      refine hK.out _ _ ?_ (fun hHeld2 => ?_)
      · exact D2.out
      clear hK K hHeld1
      try simp only [List.getElem_toArray, List.getElem_cons_succ, List.getElem_cons_zero, Act.put, List.setIfInBounds_toArray, List.set_cons_zero, List.set_cons_succ]
      refine wpAnyH_take (i := 6) (v := ?_) rfl (by kernel_rfl) (by kernel_rfl) (by kernel_rfl) (fun _ _ _ h => h) (Or.inl ⟨by rfl, ?_⟩) (by assumption) ?_
      rotate_left
      · intro w hSw; (try dsimp only at hSw); obtain ⟨⟨x0, x1⟩, ⟨p0, p1⟩, ⟨q0, q1⟩⟩ := BX.out _ hSw; go_simp; (try with_reducible rfl)
      simp only [List.getElem_toArray, List.getElem_cons_succ, List.getElem_cons_zero, Act.put, List.setIfInBounds_toArray, List.set_cons_zero, List.set_cons_succ]
      refine wpAnyH_take (i := 7) (v := ?_) rfl (by kernel_rfl) (by kernel_rfl) (by kernel_rfl) (fun _ _ _ h => h) (Or.inl ⟨by rfl, ?_⟩) (by assumption) ?_
      rotate_left
      · intro w hSw; (try dsimp only at hSw); obtain ⟨⟨x0, x1⟩, ⟨p0, p1⟩, ⟨q0, q1⟩⟩ := BX.out _ hSw; go_simp; (try with_reducible rfl)
      simp only [List.getElem_toArray, List.getElem_cons_succ, List.getElem_cons_zero, Act.put, List.setIfInBounds_toArray, List.set_cons_zero, List.set_cons_succ]
      refine wpAnyH_take (i := 8) (v := ?_) rfl (by kernel_rfl) (by kernel_rfl) (by kernel_rfl) (fun _ _ _ h => h) (Or.inl ⟨by rfl, ?_⟩) (by assumption) ?_
      rotate_left
      · intro w hSw; (try dsimp only at hSw); obtain ⟨⟨x0, x1⟩, ⟨p0, p1⟩, ⟨q0, q1⟩⟩ := BX.out _ hSw; go_simp; (try with_reducible rfl)
      simp only [List.getElem_toArray, List.getElem_cons_succ, List.getElem_cons_zero, Act.put, List.setIfInBounds_toArray, List.set_cons_zero, List.set_cons_succ]
      refine wpAnyH_take (i := 9) (v := ?_) rfl (by kernel_rfl) (by kernel_rfl) (by kernel_rfl) (fun _ _ _ h => h) (Or.inl ⟨by rfl, ?_⟩) (by assumption) ?_
      rotate_left
      · intro w hSw; (try dsimp only at hSw); obtain ⟨⟨x0, x1⟩, ⟨p0, p1⟩, ⟨q0, q1⟩⟩ := BX.out _ hSw; go_simp; (try with_reducible rfl)
      simp only [List.getElem_toArray, List.getElem_cons_succ, List.getElem_cons_zero, Act.put, List.setIfInBounds_toArray, List.set_cons_zero, List.set_cons_succ]
      refine wpAnyH_ready (rs := [10]) (by kernel_rfl) (by simp) ?_
      refine AllReadyH.cons rfl (fun K hK => ?_) AllReadyH.nil
      go_simp
      (go_at_call 8; (refine (CKP.out _ D2.out).mono ?_); rintro z v3 ⟨rfl, c3⟩)
      have D3 := Lib.hid ((D2.out).trans (c3.mono (D2.out).size))
      clear c3
      refine hK.out _ _ ?_ (fun hHeld3 => ?_)
      · exact D3.out
      clear hK K hHeld2
      try simp only [List.getElem_toArray, List.getElem_cons_succ, List.getElem_cons_zero, Act.put, List.setIfInBounds_toArray, List.set_cons_zero, List.set_cons_succ]
      refine wpAnyH_take (i := 11) (v := ?_) rfl (by kernel_rfl) (by kernel_rfl) (by kernel_rfl) (fun _ _ _ h => h) (Or.inl ⟨by rfl, ?_⟩) (by assumption) ?_
      rotate_left
      · intro w hSw; (try dsimp only at hSw); obtain ⟨⟨x0, x1⟩, ⟨p0, p1⟩, ⟨q0, q1⟩⟩ := BX.out _ hSw; go_simp; (try with_reducible rfl)
      simp only [List.getElem_toArray, List.getElem_cons_succ, List.getElem_cons_zero, Act.put, List.setIfInBounds_toArray, List.set_cons_zero, List.set_cons_succ]
      refine wpAnyH_take (i := 12) (v := ?_) rfl (by kernel_rfl) (by kernel_rfl) (by kernel_rfl) (fun _ _ _ h => h) (Or.inl ⟨by rfl, ?_⟩) (by assumption) ?_
      rotate_left
      · intro w hSw; (try dsimp only at hSw); obtain ⟨⟨x0, x1⟩, ⟨p0, p1⟩, ⟨q0, q1⟩⟩ := BX.out _ hSw; go_simp; (try with_reducible rfl)
      simp only [List.getElem_toArray, List.getElem_cons_succ, List.getElem_cons_zero, Act.put, List.setIfInBounds_toArray, List.set_cons_zero, List.set_cons_succ]
      refine wpAnyH_take (i := 13) (v := ?_) rfl (by kernel_rfl) (by kernel_rfl) (by kernel_rfl) (fun _ _ _ h => h) (Or.inl ⟨by rfl, ?_⟩) (by assumption) ?_
      rotate_left
      · intro w hSw; (try dsimp only at hSw); obtain ⟨⟨x0, x1⟩, ⟨p0, p1⟩, ⟨q0, q1⟩⟩ := BX.out _ hSw; go_simp; (try with_reducible rfl)
      simp only [List.getElem_toArray, List.getElem_cons_succ, List.getElem_cons_zero, Act.put, List.setIfInBounds_toArray, List.set_cons_zero, List.set_cons_succ]
      refine wpAnyH_take (i := 15) (v := ?_) rfl (by kernel_rfl) (by kernel_rfl) (by kernel_rfl) (fun _ _ _ h => h) (Or.inl ⟨by rfl, ?_⟩) (by assumption) ?_
      rotate_left
      · intro w hSw; (try dsimp only at hSw); obtain ⟨⟨x0, x1⟩, ⟨p0, p1⟩, ⟨q0, q1⟩⟩ := BX.out _ hSw; go_simp; (try with_reducible rfl)
      simp only [List.getElem_toArray, List.getElem_cons_succ, List.getElem_cons_zero, Act.put, List.setIfInBounds_toArray, List.set_cons_zero, List.set_cons_succ]
      refine wpAnyH_ready (rs := [14]) (by kernel_rfl) (by simp) ?_
      refine AllReadyH.cons rfl (fun K hK => ?_) AllReadyH.nil
      go_simp
      (go_at_call 8; (refine (CKQ.out _ D3.out).mono ?_); rintro z v4 ⟨rfl, c4⟩)
      have D4 := Lib.hid ((D3.out).trans (c4.mono (D3.out).size))
      clear c4
      refine hK.out _ _ ?_ (fun hHeld4 => ?_)
      · exact D4.out
      clear hK K hHeld3
      try simp only [List.getElem_toArray, List.getElem_cons_succ, List.getElem_cons_zero, Act.put, List.setIfInBounds_toArray, List.set_cons_zero, List.set_cons_succ]
      refine wpAnyH_ready (rs := [16]) (by kernel_rfl) (by simp) ?_
      refine AllReadyH.cons rfl (fun K hK => ?_) AllReadyH.nil
      go_simp
      (go_at_call 9; (refine (CRQ.out _ D4.out).mono ?_); rintro z v5 ⟨rfl, c5⟩)
      have D5 := Lib.hid ((D4.out).trans (c5.mono (D4.out).size))
      clear c5
      refine hK.out _ _ ?_ (fun hHeld5 => ?_)
      · exact D5.out
      clear hK K hHeld4
      try simp only [List.getElem_toArray, List.getElem_cons_succ, List.getElem_cons_zero, Act.put, List.setIfInBounds_toArray, List.set_cons_zero, List.set_cons_succ]
      refine wpAnyH_take (i := 17) (v := ?_) rfl (by kernel_rfl) (by kernel_rfl) (by kernel_rfl) (fun _ _ _ h => h) (Or.inl ⟨by rfl, ?_⟩) (by assumption) ?_
      rotate_left
      · intro w hSw; (try dsimp only at hSw); obtain ⟨⟨x0, x1⟩, ⟨p0, p1⟩, ⟨q0, q1⟩⟩ := BX.out _ hSw; go_simp; (try with_reducible rfl)
      simp only [List.getElem_toArray, List.getElem_cons_succ, List.getElem_cons_zero, Act.put, List.setIfInBounds_toArray, List.set_cons_zero, List.set_cons_succ]
      refine wpAnyH_take (i := 18) (v := ?_) rfl (by kernel_rfl) (by kernel_rfl) (by kernel_rfl) (fun _ _ _ h => h) (Or.inl ⟨by rfl, ?_⟩) (by assumption) ?_
      rotate_left
      · intro w hSw; (try dsimp only at hSw); obtain ⟨⟨x0, x1⟩, ⟨p0, p1⟩, ⟨q0, q1⟩⟩ := BX.out _ hSw; go_simp; (try with_reducible rfl)
      simp only [List.getElem_toArray, List.getElem_cons_succ, List.getElem_cons_zero, Act.put, List.setIfInBounds_toArray, List.set_cons_zero, List.set_cons_succ]
      refine wpAnyH_take (i := 19) (v := ?_) rfl (by kernel_rfl) (by kernel_rfl) (by kernel_rfl) (fun _ _ _ h => h) (Or.inl ⟨by rfl, ?_⟩) (by assumption) ?_
      rotate_left
      · intro w hSw; (try dsimp only at hSw); obtain ⟨⟨x0, x1⟩, ⟨p0, p1⟩, ⟨q0, q1⟩⟩ := BX.out _ hSw; go_simp; (try with_reducible rfl)
      simp only [List.getElem_toArray, List.getElem_cons_succ, List.getElem_cons_zero, Act.put, List.setIfInBounds_toArray, List.set_cons_zero, List.set_cons_succ]
      refine wpAnyH_take (i := 20) (v := ?_) rfl (by kernel_rfl) (by kernel_rfl) (by kernel_rfl) (fun _ _ _ h => h) (Or.inl ⟨by rfl, ?_⟩) (by assumption) ?_
      rotate_left
      · intro w hSw; (try dsimp only at hSw); obtain ⟨⟨x0, x1⟩, ⟨p0, p1⟩, ⟨q0, q1⟩⟩ := BX.out _ hSw; go_simp; (try with_reducible rfl)
      simp only [List.getElem_toArray, List.getElem_cons_succ, List.getElem_cons_zero, Act.put, List.setIfInBounds_toArray, List.set_cons_zero, List.set_cons_succ]
      refine wpAnyH_take (i := 21) (v := ?_) rfl (by kernel_rfl) (by kernel_rfl) (by kernel_rfl) (fun _ _ _ h => h) (Or.inl ⟨by rfl, ?_⟩) (by assumption) ?_
      rotate_left
      · intro w hSw; (try dsimp only at hSw); obtain ⟨⟨x0, x1⟩, ⟨p0, p1⟩, ⟨q0, q1⟩⟩ := BX.out _ hSw; go_simp; (try with_reducible rfl)
      simp only [List.getElem_toArray, List.getElem_cons_succ, List.getElem_cons_zero, Act.put, List.setIfInBounds_toArray, List.set_cons_zero, List.set_cons_succ]
      refine wpAnyH_take (i := 23) (v := ?_) rfl (by kernel_rfl) (by kernel_rfl) (by kernel_rfl) (fun _ _ _ h => h) (Or.inl ⟨by rfl, ?_⟩) (by assumption) ?_
      rotate_left
      · intro w hSw; (try dsimp only at hSw); obtain ⟨⟨x0, x1⟩, ⟨p0, p1⟩, ⟨q0, q1⟩⟩ := BX.out _ hSw; go_simp; (try with_reducible rfl)
      simp only [List.getElem_toArray, List.getElem_cons_succ, List.getElem_cons_zero, Act.put, List.setIfInBounds_toArray, List.set_cons_zero, List.set_cons_succ]
      refine wpAnyH_take (i := 24) (v := ?_) rfl (by kernel_rfl) (by kernel_rfl) (by kernel_rfl) (fun _ _ _ h => h) (Or.inl ⟨by rfl, ?_⟩) (by assumption) ?_
      rotate_left
      · intro w hSw; (try dsimp only at hSw); obtain ⟨⟨x0, x1⟩, ⟨p0, p1⟩, ⟨q0, q1⟩⟩ := BX.out _ hSw; go_simp; (try with_reducible rfl)
      simp only [List.getElem_toArray, List.getElem_cons_succ, List.getElem_cons_zero, Act.put, List.setIfInBounds_toArray, List.set_cons_zero, List.set_cons_succ]
      refine wpAnyH_ready (rs := [22]) (by kernel_rfl) (by simp) ?_
      refine AllReadyH.cons rfl (fun K hK => ?_) AllReadyH.nil
      go_simp
      (go_at_call 10; (refine (SPQ.out _ D5.out).mono ?_); rintro z v6 ⟨rfl, c6⟩)
      have D6 := Lib.hid ((D5.out).trans (c6.mono (D5.out).size))
      clear c6
      refine hK.out _ _ ?_ (fun hHeld6 => ?_)
      · exact D6.out
      clear hK K hHeld5
      try simp only [List.getElem_toArray, List.getElem_cons_succ, List.getElem_cons_zero, Act.put, List.setIfInBounds_toArray, List.set_cons_zero, List.set_cons_succ]
      refine wpAnyH_ready (rs := [25]) (by kernel_rfl) (by simp) ?_
      refine AllReadyH.cons rfl (fun K hK => ?_) AllReadyH.nil
      go_simp
      (go_at_call 11; (refine (RPQ.out _ D6.out).mono ?_); rintro z v7 ⟨rfl, c7⟩)
      have D7 := Lib.hid ((D6.out).trans (c7.mono (D6.out).size))
      clear c7
      refine hK.out _ _ ?_ (fun hHeld7 => ?_)
      · exact D7.out
      clear hK K hHeld6
      try simp only [List.getElem_toArray, List.getElem_cons_succ, List.getElem_cons_zero, Act.put, List.setIfInBounds_toArray, List.set_cons_zero, List.set_cons_succ]
      refine wpAnyH_take (i := 26) (v := ?_) rfl (by kernel_rfl) (by kernel_rfl) (by kernel_rfl) (fun _ _ _ h => h) (Or.inl ⟨by rfl, ?_⟩) (by assumption) ?_
      rotate_left
      · intro w hSw; (try dsimp only at hSw); obtain ⟨⟨x0, x1⟩, ⟨p0, p1⟩, ⟨q0, q1⟩⟩ := BX.out _ hSw; go_simp; (try with_reducible rfl)
      simp only [List.getElem_toArray, List.getElem_cons_succ, List.getElem_cons_zero, Act.put, List.setIfInBounds_toArray, List.set_cons_zero, List.set_cons_succ]
      refine wpAnyH_take (i := 27) (v := ?_) rfl (by kernel_rfl) (by kernel_rfl) (by kernel_rfl) (fun _ _ _ h => h) (Or.inl ⟨by rfl, ?_⟩) (by assumption) ?_
      rotate_left
      · intro w hSw; (try dsimp only at hSw); obtain ⟨⟨x0, x1⟩, ⟨p0, p1⟩, ⟨q0, q1⟩⟩ := BX.out _ hSw; go_simp; (try with_reducible rfl)
      simp only [List.getElem_toArray, List.getElem_cons_succ, List.getElem_cons_zero, Act.put, List.setIfInBounds_toArray, List.set_cons_zero, List.set_cons_succ]
      refine wpAnyH_take (i := 28) (v := ?_) rfl (by kernel_rfl) (by kernel_rfl) (by kernel_rfl) (fun _ _ _ h => h) (Or.inl ⟨by rfl, ?_⟩) (by assumption) ?_
      rotate_left
      · intro w hSw; (try dsimp only at hSw); obtain ⟨⟨x0, x1⟩, ⟨p0, p1⟩, ⟨q0, q1⟩⟩ := BX.out _ hSw; go_simp; (try with_reducible rfl)
      simp only [List.getElem_toArray, List.getElem_cons_succ, List.getElem_cons_zero, Act.put, List.setIfInBounds_toArray, List.set_cons_zero, List.set_cons_succ]
      refine wpAnyH_take (i := 29) (v := ?_) rfl (by kernel_rfl) (by kernel_rfl) (by kernel_rfl) (fun _ _ _ h => h) (Or.inl ⟨by rfl, ?_⟩) (by assumption) ?_
      rotate_left
      · intro w hSw; (try dsimp only at hSw); obtain ⟨⟨x0, x1⟩, ⟨p0, p1⟩, ⟨q0, q1⟩⟩ := BX.out _ hSw; go_simp; (try with_reducible rfl)
      simp only [List.getElem_toArray, List.getElem_cons_succ, List.getElem_cons_zero, Act.put, List.setIfInBounds_toArray, List.set_cons_zero, List.set_cons_succ]
      refine wpAnyH_take (i := 30) (v := ?_) rfl (by kernel_rfl) (by kernel_rfl) (by kernel_rfl) (fun _ _ _ h => h) (Or.inl ⟨by rfl, ?_⟩) (by assumption) ?_
      rotate_left
      · intro w hSw; (try dsimp only at hSw); obtain ⟨⟨x0, x1⟩, ⟨p0, p1⟩, ⟨q0, q1⟩⟩ := BX.out _ hSw; go_simp; (try with_reducible rfl)
      simp only [List.getElem_toArray, List.getElem_cons_succ, List.getElem_cons_zero, Act.put, List.setIfInBounds_toArray, List.set_cons_zero, List.set_cons_succ]
      refine wpAnyH_take (i := 32) (v := ?_) rfl (by kernel_rfl) (by kernel_rfl) (by kernel_rfl) (fun _ _ _ h => h) (Or.inl ⟨by rfl, ?_⟩) (by assumption) ?_
      rotate_left
      · intro w hSw; (try dsimp only at hSw); obtain ⟨⟨x0, x1⟩, ⟨p0, p1⟩, ⟨q0, q1⟩⟩ := BX.out _ hSw; go_simp; (try with_reducible rfl)
      simp only [List.getElem_toArray, List.getElem_cons_succ, List.getElem_cons_zero, Act.put, List.setIfInBounds_toArray, List.set_cons_zero, List.set_cons_succ]
      refine wpAnyH_take (i := 33) (v := ?_) rfl (by kernel_rfl) (by kernel_rfl) (by kernel_rfl) (fun _ _ _ h => h) (Or.inl ⟨by rfl, ?_⟩) (by assumption) ?_
      rotate_left
      · intro w hSw; (try dsimp only at hSw); obtain ⟨⟨x0, x1⟩, ⟨p0, p1⟩, ⟨q0, q1⟩⟩ := BX.out _ hSw; go_simp; (try with_reducible rfl)
      simp only [List.getElem_toArray, List.getElem_cons_succ, List.getElem_cons_zero, Act.put, List.setIfInBounds_toArray, List.set_cons_zero, List.set_cons_succ]
      refine wpAnyH_ready (rs := [31]) (by kernel_rfl) (by simp) ?_
      refine AllReadyH.cons rfl (fun K hK => ?_) AllReadyH.nil
      go_simp
      (go_at_call 10; (refine (SXP.out _ D7.out).mono ?_); rintro z v8 ⟨rfl, c8⟩)
      have D8 := Lib.hid ((D7.out).trans (c8.mono (D7.out).size))
      clear c8
      refine hK.out _ _ ?_ (fun hHeld8 => ?_)
      · exact D8.out
      clear hK K hHeld7
      try simp only [List.getElem_toArray, List.getElem_cons_succ, List.getElem_cons_zero, Act.put, List.setIfInBounds_toArray, List.set_cons_zero, List.set_cons_succ]
      refine wpAnyH_ready (rs := [34]) (by kernel_rfl) (by simp) ?_
      refine AllReadyH.cons rfl (fun K hK => ?_) AllReadyH.nil
      go_simp
      (go_at_call 11; (refine (RXP.out _ D8.out).mono ?_); rintro z v9 ⟨rfl, c9⟩)
      have D9 := Lib.hid ((D8.out).trans (c9.mono (D8.out).size))
      clear c9
      refine hK.out _ _ ?_ (fun hHeld9 => ?_)
      · exact D9.out
      clear hK K hHeld8
      try simp only [List.getElem_toArray, List.getElem_cons_succ, List.getElem_cons_zero, Act.put, List.setIfInBounds_toArray, List.set_cons_zero, List.set_cons_succ]
      refine wpAnyH_take (i := 35) (v := ?_) rfl (by kernel_rfl) (by kernel_rfl) (by kernel_rfl) (fun _ _ _ h => h) (Or.inl ⟨by rfl, ?_⟩) (by assumption) ?_
      rotate_left
      · intro w hSw; (try dsimp only at hSw); obtain ⟨⟨x0, x1⟩, ⟨p0, p1⟩, ⟨q0, q1⟩⟩ := BX.out _ hSw; go_simp; (try with_reducible rfl)
      simp only [List.getElem_toArray, List.getElem_cons_succ, List.getElem_cons_zero, Act.put, List.setIfInBounds_toArray, List.set_cons_zero, List.set_cons_succ]
      refine wpAnyH_take (i := 36) (v := ?_) rfl (by kernel_rfl) (by kernel_rfl) (by kernel_rfl) (fun _ _ _ h => h) (Or.inl ⟨by rfl, ?_⟩) (by assumption) ?_
      rotate_left
      · intro w hSw; (try dsimp only at hSw); obtain ⟨⟨x0, x1⟩, ⟨p0, p1⟩, ⟨q0, q1⟩⟩ := BX.out _ hSw; go_simp; (try with_reducible rfl)
      simp only [List.getElem_toArray, List.getElem_cons_succ, List.getElem_cons_zero, Act.put, List.setIfInBounds_toArray, List.set_cons_zero, List.set_cons_succ]
      refine wpAnyH_take (i := 37) (v := ?_) rfl (by kernel_rfl) (by kernel_rfl) (by kernel_rfl) (fun _ _ _ h => h) (Or.inl ⟨by rfl, ?_⟩) (by assumption) ?_
      rotate_left
      · intro w hSw; (try dsimp only at hSw); obtain ⟨⟨x0, x1⟩, ⟨p0, p1⟩, ⟨q0, q1⟩⟩ := BX.out _ hSw; go_simp; (try with_reducible rfl)
      simp only [List.getElem_toArray, List.getElem_cons_succ, List.getElem_cons_zero, Act.put, List.setIfInBounds_toArray, List.set_cons_zero, List.set_cons_succ]
      refine wpAnyH_take (i := 38) (v := ?_) rfl (by kernel_rfl) (by kernel_rfl) (by kernel_rfl) (fun _ _ _ h => h) (Or.inl ⟨by rfl, ?_⟩) (by assumption) ?_
      rotate_left
      · intro w hSw; (try dsimp only at hSw); obtain ⟨⟨x0, x1⟩, ⟨p0, p1⟩, ⟨q0, q1⟩⟩ := BX.out _ hSw; go_simp; (try with_reducible rfl)
      simp only [List.getElem_toArray, List.getElem_cons_succ, List.getElem_cons_zero, Act.put, List.setIfInBounds_toArray, List.set_cons_zero, List.set_cons_succ]
      refine wpAnyH_take (i := 39) (v := ?_) rfl (by kernel_rfl) (by kernel_rfl) (by kernel_rfl) (fun _ _ _ h => h) (Or.inl ⟨by rfl, ?_⟩) (by assumption) ?_
      rotate_left
      · intro w hSw; (try dsimp only at hSw); obtain ⟨⟨x0, x1⟩, ⟨p0, p1⟩, ⟨q0, q1⟩⟩ := BX.out _ hSw; go_simp; (try with_reducible rfl)
      simp only [List.getElem_toArray, List.getElem_cons_succ, List.getElem_cons_zero, Act.put, List.setIfInBounds_toArray, List.set_cons_zero, List.set_cons_succ]
      refine wpAnyH_ready (rs := [40]) (by kernel_rfl) (by simp) ?_
      refine AllReadyH.cons rfl (fun K hK => ?_) AllReadyH.nil
      go_simp
      (go_at_call 10; (refine (SXX.out _ D9.out).mono ?_); rintro z v10 ⟨rfl, c10⟩)
      have D10 := Lib.hid ((D9.out).trans (c10.mono (D9.out).size))
      clear c10
      refine hK.out _ _ ?_ (fun hHeld10 => ?_)
      · exact D10.out
      clear hK K hHeld9
      try simp only [List.getElem_toArray, List.getElem_cons_succ, List.getElem_cons_zero, Act.put, List.setIfInBounds_toArray, List.set_cons_zero, List.set_cons_succ]
      refine wpAnyH_take (i := 41) (v := ?_) rfl (by kernel_rfl) (by kernel_rfl) (by kernel_rfl) (fun _ _ _ h => h) (Or.inl ⟨by rfl, ?_⟩) (by assumption) ?_
      rotate_left
      · intro w hSw; (try dsimp only at hSw); obtain ⟨⟨x0, x1⟩, ⟨p0, p1⟩, ⟨q0, q1⟩⟩ := BX.out _ hSw; go_simp; (try with_reducible rfl)
      simp only [List.getElem_toArray, List.getElem_cons_succ, List.getElem_cons_zero, Act.put, List.setIfInBounds_toArray, List.set_cons_zero, List.set_cons_succ]
      refine wpAnyH_take (i := 42) (v := ?_) rfl (by kernel_rfl) (by kernel_rfl) (by kernel_rfl) (fun _ _ _ h => h) (Or.inl ⟨by rfl, ?_⟩) (by assumption) ?_
      rotate_left
      · intro w hSw; (try dsimp only at hSw); obtain ⟨⟨x0, x1⟩, ⟨p0, p1⟩, ⟨q0, q1⟩⟩ := BX.out _ hSw; go_simp; (try with_reducible rfl)
      try simp only [List.getElem_toArray, List.getElem_cons_succ, List.getElem_cons_zero, Act.put, List.setIfInBounds_toArray, List.set_cons_zero, List.set_cons_succ]
      refine wpAnyH_done (by kernel_rfl) ?_ _
      go_wp2_with fail
      go_ret
      exact ⟨ret_bool (by simp), WF.out.trans (D10.out.mono WF.out.size)⟩
end Go.Proofs.YtkihleecjgoipaaGreatDoor
