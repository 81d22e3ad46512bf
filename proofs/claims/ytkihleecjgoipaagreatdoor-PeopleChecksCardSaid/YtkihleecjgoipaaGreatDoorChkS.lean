/- The reference's Same, walked. -/
import Derived.Test.YtkihleecjgoipaaGreatDoorMg13
namespace Go.Proofs.YtkihleecjgoipaaGreatDoor
open Go.RowKit Go.Maps Go.Proofs.YtkihleecjgoipaaGreatDoor.Rw

theorem same_false {p q : Ppl} (h : p ≠ q) : sameB p q = false := by
  cases e : sameB p q
  · rfl
  · exact absurd ((sameB_iff p q).1 e) h
set_option maxHeartbeats 8000000 in
set_option maxRecDepth 100000 in
theorem same16_any {B1 B2 : Nat} {v1 v2 : Value} {p q : Ppl} {w : World} (h1 : pown w B1 v1 p) (h2 : pown w B2 v2 q) (l1 : few p) :
    Calls Tryz.prog 11 #[v1, v2] w fun e w' => e = .returned (.bool (sameB p q)) ∧ Below w.heap.size w w' := by
  obtain ⟨a, c, a', c', rfl, o1, o2⟩ := h1
  obtain ⟨d, f, d', f', rfl, r1, r2⟩ := h2
  have hb : Below w.heap.size w ((w.alloc (pobj (.slice a p.ps.length c) (.slice a' p.ss.length c'))).alloc (pobj (.slice d q.ps.length f) (.slice d' q.ss.length f'))) := ((Below.refl _ _).alloc (Nat.le_refl _) _).alloc (by simp) _
  have z1 : (w.alloc (pobj (.slice a p.ps.length c) (.slice a' p.ss.length c'))).heap.size = w.heap.size + 1 := by simp
  have PA := fun w2 b => pbox_later (w := w) (w2 := w2) (.slice a p.ps.length c) (.slice a' p.ss.length c') (B := w.heap.size + 1) (Nat.lt_succ_self _) b
  have PB := fun w2 b => pbox_later (w := w.alloc (pobj (.slice a p.ps.length c) (.slice a' p.ss.length c'))) (w2 := w2) (.slice d q.ps.length f) (.slice d' q.ss.length f') (B := w.heap.size + 2) (by omega) b
  rw [z1] at PB
  have CX : Hid (∀ w2, Below (w.heap.size + 2) ((w.alloc (pobj (.slice a p.ps.length c) (.slice a' p.ss.length c'))).alloc (pobj (.slice d q.ps.length f) (.slice d' q.ss.length f'))) w2 → ((w2.cell? ⟨w.heap.size, 0, none⟩ = some (.slice a p.ps.length c) ∧ w2.cell? ⟨w.heap.size, 1, none⟩ = some (.slice a' p.ss.length c')) ∧ (w2.cell? ⟨w.heap.size + 1, 0, none⟩ = some (.slice d q.ps.length f) ∧ w2.cell? ⟨w.heap.size + 1, 1, none⟩ = some (.slice d' q.ss.length f'))) ∧ Below w.heap.size w w2) := Lib.hid (fun w2 b =>
    ⟨⟨PA w2 (((Below.refl _ _).alloc (by omega) _).trans (b.mono (by omega))), PB w2 b⟩, hb.trans (b.mono (by omega))⟩)
  have O1 : Hid (∀ w2, Below w.heap.size w w2 → Per.owns w2 B1 (.slice a p.ps.length c) p.ps ∧ Ses.owns w2 B1 (.slice a' p.ss.length c') p.ss ∧ Per.owns w2 B2 (.slice d q.ps.length f) q.ps ∧ Ses.owns w2 B2 (.slice d' q.ss.length f') q.ss) := Lib.hid (fun w2 b => ⟨o1.below b, o2.below b, r1.below b, r2.below b⟩)
  have SI := Lib.hid (sameB_iff p q)
  have SF := Lib.hid (@same_false p q)
  obtain ⟨⟨⟨x0, x1⟩, ⟨y0, y1⟩⟩, _⟩ := CX.out _ (Below.refl _ _)
  generalize sameB p q = r at *
  have lim1 := l1.1
  have lim2 := l1.2
  clear o1 o2 r1 r2 hb z1 PA PB l1
  unfold pobj at *
  by_cases hn : p.ps.length = q.ps.length
  · by_cases hm : p.ss.length = q.ss.length
    · have hnb : ((p.ps.length : Int) != q.ps.length) = false := by simp; omega
      have hmb : ((p.ss.length : Int) != q.ss.length) = false := by simp; omega
      have HN := Lib.hid hn
      have HM := Lib.hid hm
      clear hn hm
      go_enter Tryz.func11, Tryz.ntmps11
      go_wp2_with fail
      go_loopw [5] (fun i wr => ∃ k : Nat, k ≤ p.ps.length ∧ i = .int .i64 k ∧ (∀ j, j < k → p.ps[j]?.getD Per.zero = q.ps[j]?.getD Per.zero) ∧ Below (w.heap.size + 2) ((w.alloc (.cells #[.slice a p.ps.length c, .slice a' p.ss.length c'] 25)).alloc (.cells #[.slice d q.ps.length f, .slice d' q.ss.length f'] 25)) wr) (fun i _ => p.ps.length - (intOf i).toNat)
      case atStart => exact ⟨0, Nat.zero_le _, rfl, fun j hj => (Nat.not_lt_zero j hj).elim, Below.refl _ _⟩
      case round =>
        obtain ⟨k, hk, rfl, hno, hb⟩ := hrel
        have HO := Lib.hid hno
        have WB := Lib.hid hb
        obtain ⟨⟨⟨x0, x1⟩, ⟨y0, y1⟩⟩, bw⟩ := CX.out _ hb
        obtain ⟨oa, ob, oc, od⟩ := O1.out _ bw
        have BW := Lib.hid bw
        by_cases hkn : k < p.ps.length
        · have hkn' : (k : Int) < p.ps.length := by omega
          have hkq : k < q.ps.length := by rw [← HN.out]; exact hkn
          have hkq' : (k : Int) < q.ps.length := by omega
          have hk0 : (0 : Int) ≤ k := by omega
          obtain ⟨g, hg, _, _, m0, m1, m2, m3, m4, m5, m6, m7, m8, m9, m10, m11, m12⟩ := oa.all k hkn
          obtain ⟨g2, hg2, _, _, d0, d1, d2, d3, d4, d5, d6, d7, d8, d9, d10, d11, d12⟩ := oc.all k hkq
          subst hg hg2
          obtain ⟨x, hx⟩ : ∃ x, p.ps[k]?.getD Per.zero = x := ⟨_, rfl⟩
          obtain ⟨y, hy⟩ : ∃ y, q.ps[k]?.getD Per.zero = y := ⟨_, rfl⟩
          rw [hx] at m0 m1 m2 m3 m4 m5 m6 m7 m8 m9 m10 m11 m12
          rw [hy] at d0 d1 d2 d3 d4 d5 d6 d7 d8 d9 d10 d11 d12
          obtain ⟨qq, hq⟩ : ∃ qq, Per.eqB x y = qq := ⟨_, rfl⟩
          have NE := fun w => Per.ne_run x y w
          rw [hq] at NE
          unfold Per.R.agg at NE
          have HX := Lib.hid hx
          have HY := Lib.hid hy
          have HQ := Lib.hid hq
          clear hno hb hx hy hq bw oa ob oc od
          cases qq
          · have hp : Hid (r = false) := Lib.hid (SF.out (fun e => Per.eqB_ne HQ.out (by rw [← HX.out, ← HY.out, e])))
            go_wp2_with fail
            go_quiet (fail)
            go_wp2_with fail
            go_ret
            exact ⟨ret_bool hp.out.symm, below_drewN BW.out _⟩
          · go_wp2_with fail
            go_quiet (fail)
            go_wp2_with fail
            go_roundw
            case rel => exact ⟨k + 1, by omega, by go_num, fun j hj => by
              rcases Nat.lt_or_ge j k with e | e
              · exact HO.out j e
              · obtain rfl : j = k := by omega
                rw [HX.out, HY.out]
                exact (Per.eqB_iff x y).1 HQ.out, below_drewN WB.out _⟩
            case measure => simp [intOf]; omega
        · have hkn' : ¬ (k : Int) < p.ps.length := by omega
          have HPS : Hid (p.ps = q.ps) := Lib.hid (List.ext_getElem HN.out (fun j h1 h2 => by
            have := HO.out j (by omega)
            rw [List.getElem?_eq_getElem h1, List.getElem?_eq_getElem h2] at this
            exact this))
          clear hno hb bw oa ob oc od HO
          go_wp2_with fail
          go_loopw [6] (fun i wq => ∃ k : Nat, k ≤ p.ss.length ∧ i = .int .i64 k ∧ (∀ j, j < k → p.ss[j]?.getD Ses.zero = q.ss[j]?.getD Ses.zero) ∧ Below (w.heap.size + 2) ((w.alloc (.cells #[.slice a p.ps.length c, .slice a' p.ss.length c'] 25)).alloc (.cells #[.slice d q.ps.length f, .slice d' q.ss.length f'] 25)) wq) (fun i _ => p.ss.length - (intOf i).toNat)
          case atStart => exact ⟨0, Nat.zero_le _, rfl, fun j hj => (Nat.not_lt_zero j hj).elim, WB.out⟩
          case round =>
            obtain ⟨k, hk, rfl, hno, hb⟩ := hrel
            have HO := Lib.hid hno
            have WB := Lib.hid hb
            obtain ⟨⟨⟨x0, x1⟩, ⟨y0, y1⟩⟩, bw⟩ := CX.out _ hb
            obtain ⟨oa, ob, oc, od⟩ := O1.out _ bw
            have BW := Lib.hid bw
            by_cases hkn : k < p.ss.length
            · have hkn' : (k : Int) < p.ss.length := by omega
              have hkq : k < q.ss.length := by rw [← HM.out]; exact hkn
              have hkq' : (k : Int) < q.ss.length := by omega
              have hk0 : (0 : Int) ≤ k := by omega
              obtain ⟨g, hg, _, _, m0, m1, m2⟩ := ob.all k hkn
              obtain ⟨g2, hg2, _, _, d0, d1, d2⟩ := od.all k hkq
              subst hg hg2
              obtain ⟨x, hx⟩ : ∃ x, p.ss[k]?.getD Ses.zero = x := ⟨_, rfl⟩
              obtain ⟨y, hy⟩ : ∃ y, q.ss[k]?.getD Ses.zero = y := ⟨_, rfl⟩
              rw [hx] at m0 m1 m2
              rw [hy] at d0 d1 d2
              obtain ⟨qq, hq⟩ : ∃ qq, Ses.eqB x y = qq := ⟨_, rfl⟩
              have NE := fun w => Ses.ne_run x y w
              rw [hq] at NE
              unfold Ses.R.agg at NE
              have HX := Lib.hid hx
              have HY := Lib.hid hy
              have HQ := Lib.hid hq
              clear hno hb hx hy hq bw oa ob oc od
              cases qq
              · have hp : Hid (r = false) := Lib.hid (SF.out (fun e => Ses.eqB_ne HQ.out (by rw [← HX.out, ← HY.out, e])))
                go_wp2_with fail
                go_quiet (fail)
                go_wp2_with fail
                go_ret
                exact ⟨ret_bool hp.out.symm, below_drewN BW.out _⟩
              · go_wp2_with fail
                go_quiet (fail)
                go_wp2_with fail
                go_roundw
                case rel => exact ⟨k + 1, by omega, by go_num, fun j hj => by
                  rcases Nat.lt_or_ge j k with e | e
                  · exact HO.out j e
                  · obtain rfl : j = k := by omega
                    rw [HX.out, HY.out]
                    exact (Ses.eqB_iff x y).1 HQ.out, below_drewN WB.out _⟩
                case measure => simp [intOf]; omega
            · have hkn' : ¬ (k : Int) < p.ss.length := by omega
              have hre : Hid (r = true) := Lib.hid (SI.out.2 (by
                have h2 : p.ss = q.ss := List.ext_getElem HM.out (fun j h1 h2 => by
                  have := HO.out j (by omega)
                  rw [List.getElem?_eq_getElem h1, List.getElem?_eq_getElem h2] at this
                  exact this)
                have h1 := HPS.out
                cases p; cases q
                simp only at h1 h2
                rw [h1, h2]))
              clear hno hb bw oa ob oc od
              go_wp2_with fail
              go_ret
              exact ⟨ret_bool hre.out.symm, BW.out⟩
    · have hnb : ((p.ps.length : Int) != q.ps.length) = false := by simp; omega
      have hmb : ((p.ss.length : Int) != q.ss.length) = true := by simp; omega
      have hre : Hid (r = false) := Lib.hid (SF.out (fun e => hm (by rw [e])))
      have BW := Lib.hid (CX.out _ (Below.refl _ _)).2
      clear hn hm
      go_enter Tryz.func11, Tryz.ntmps11
      go_wp2_with fail
      go_ret
      exact ⟨ret_bool hre.out.symm, BW.out⟩
  · have hnb : ((p.ps.length : Int) != q.ps.length) = true := by simp; omega
    have hre : Hid (r = false) := Lib.hid (SF.out (fun e => hn (by rw [e])))
    have BW := Lib.hid (CX.out _ (Below.refl _ _)).2
    clear hn
    go_enter Tryz.func11, Tryz.ntmps11
    go_wp2_with fail
    go_ret
    exact ⟨ret_bool hre.out.symm, BW.out⟩
end Go.Proofs.YtkihleecjgoipaaGreatDoor
