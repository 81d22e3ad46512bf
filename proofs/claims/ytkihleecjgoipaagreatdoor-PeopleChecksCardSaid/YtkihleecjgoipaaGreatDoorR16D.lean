/- The reference's people: session, walked. -/
import Derived.Test.YtkihleecjgoipaaGreatDoorR16C
import Derived.BigQuiet
import Derived.Deep.QuietTactic
namespace Go.Proofs.YtkihleecjgoipaaGreatDoor
open Go.RowKit Go.Maps Go.Proofs.YtkihleecjgoipaaGreatDoor.Rw

theorem lastsF_lasts {p : Ppl} (h : ∀ s ∈ p.ss, s.acc ≠ 0) (t : Int) : p.ss.filter (lastsF 0 t) = lasts p t := by
  unfold lasts
  refine List.filter_congr (fun s hs => ?_)
  unfold lastsF
  rw [decide_eq_false (h s hs), Bool.not_false, Bool.true_and, Bool.eq_iff_iff, decide_eq_true_eq, Bool.not_eq_true', decide_eq_false_iff_not]
  omega
theorem W3_heap {w w2 : World} (s1 s2 : Value) (e : Evn) (b : Below (w.heap.size + 3) (W3 w s1 s2 e) w2) : w2.heap[w.heap.size]? = some (pobj s1 s2) := by
  have z1 : (w.alloc (pobj s1 s2)).heap.size = w.heap.size + 1 := by simp
  have z2 : ((w.alloc (pobj s1 s2)).alloc e.obj).heap.size = w.heap.size + 2 := by simp
  have h0 : (W3 w s1 s2 e).heap[w.heap.size]? = some (pobj s1 s2) := by
    unfold W3; rw [Lib.alloc_old _ _ _ (by omega), Lib.alloc_old _ _ _ (by omega)]; exact heap_new _ _
  exact (b.block _ (by omega)).trans h0
set_option maxHeartbeats 4000000 in
set_option maxRecDepth 100000 in
theorem session16_any {B0 : Nat} {w : World} {v : Value} {p : Ppl} (hown : pown w B0 v p) (lim : few p) (hB0 : B0 ≤ w.heap.size) (hacc : ∀ s ∈ p.ss, s.acc ≠ 0) (e : Evn) :
    Calls Tryz.prog 41 #[v, e.agg] w fun r w' => ∃ v', r = .returned (.tuple #[v', .int .i64 (sesE p e)]) ∧ pown w' B0 v' (sesR p e) ∧ Below w.heap.size w w' := by
  have SE : Hid (sesE p e = if e.c.size ≠ 32 then 1 else if p.ss.any (fun s => decide (s.dig = e.c)) = true then 14 else if 16 ≤ (lasts p e.at_).length then 15 else 0) := Lib.hid rfl
  have SR : Hid (sesR p e = if sesE p e = 0 then ⟨p.ps, lasts p e.at_ ++ [⟨e.c, e.acc, e.num⟩]⟩ else p) := Lib.hid rfl
  have hown0 := hown
  have lim0 := lim
  obtain ⟨a, c, a', c', rfl, o1, o2⟩ := hown
  obtain ⟨lim1, lim2⟩ := lim
  have z3 := W3_size w (.slice a p.ps.length c) (.slice a' p.ss.length c') e
  have b3 := W3_below w (.slice a p.ps.length c) (.slice a' p.ss.length c') e
  have AT := Lib.hid (fun w2 b => W3_at (w := w) (w2 := w2) (.slice a p.ps.length c) (.slice a' p.ss.length c') e b)
  have PF : Hid (∀ w2, Below (w.heap.size + 3) (W3 w (.slice a p.ps.length c) (.slice a' p.ss.length c') e) w2 → ∀ j, w2.frozen? ⟨w.heap.size, j, none⟩ = false) := Lib.hid (fun w2 b => (pcell_of (W3_heap (w := w) (w2 := w2) (.slice a p.ps.length c) (.slice a' p.ss.length c') e b)).2)
  have hll : (lasts p e.at_).length ≤ p.ss.length := List.length_filter_le _ _
  have BB : Hid (∀ w2, Below (w.heap.size + 3) (W3 w (.slice a p.ps.length c) (.slice a' p.ss.length c') e) w2 → Below w.heap.size w w2 ∧ w.heap.size + 3 ≤ w2.heap.size) := Lib.hid (fun w2 b => ⟨b3.trans (b.mono (by omega)), by have := b.size; omega⟩)
  have SN : Hid (∀ w2, Below (w.heap.size + 3) (W3 w (.slice a p.ps.length c) (.slice a' p.ss.length c') e) w2 → Calls Tryz.prog 42 #[.agg #[.slice a p.ps.length c, .slice a' p.ss.length c'], .int .i64 0, .int .i64 e.at_] w2 fun r w' => ∃ a2 c2, r = .returned (.slice a2 (lasts p e.at_).length c2) ∧ Ses.owns w' (w.heap.size + 3) (.slice a2 (lasts p e.at_).length c2) (lasts p e.at_) ∧ Below (w.heap.size + 3) (W3 w (.slice a p.ps.length c) (.slice a' p.ss.length c') e) w') := Lib.hid (fun w2 b => by
    have h := sessions16_any (hown0.below (BB.out w2 b).1) lim0 0 e.at_
    rw [lastsF_lasts hacc] at h
    have hs := (BB.out w2 b).2
    exact h.mono fun r w' ⟨a2, c2, q1, q2, q3⟩ => ⟨a2, c2, q1, q2.mono hs, b.trans (q3.mono hs)⟩)
  have OS : Hid (∀ w2, Below (w.heap.size + 3) (W3 w (.slice a p.ps.length c) (.slice a' p.ss.length c') e) w2 → Ses.owns w2 B0 (.slice a' p.ss.length c') p.ss) := Lib.hid (fun w2 b => o2.below (BB.out w2 b).1)
  have OP : Hid (∀ w2, Below w.heap.size w w2 → Per.owns w2 B0 (.slice a p.ps.length c) p.ps ∧ Ses.owns w2 B0 (.slice a' p.ss.length c') p.ss) := Lib.hid (fun w2 b => ⟨o1.below b, o2.below b⟩)
  obtain ⟨⟨x0, x1⟩, ⟨v0, v1, v2, v3, v4, v5, v6, v7⟩, ⟨y0, y1, y2, y3⟩, yf, _⟩ := AT.out _ (Below.refl _ _)
  generalize sesR p e = sr at *
  generalize sesE p e = se at *
  generalize hth : p.ss.any (fun s => decide (s.dig = e.c)) = th at *
  have HTH := Lib.hid hth
  generalize lasts p e.at_ = LS at *
  clear o1 o2 b3 z3 hth hacc hown0 lim0
  obtain ⟨L, S⟩ := p
  obtain ⟨kd, ac, pu, t, nu, ea, eb, ec⟩ := e
  unfold W3 pobj Evn.obj at *
  unfold Evn.agg
  simp only at *
  by_cases h32 : ec.size = 32
  · have h32' : (ec.size : Int) = 32 := by omega
    have CB : Hid (se = if th = true then 14 else if 16 ≤ LS.length then 15 else 0) := Lib.hid (by rw [SE.out, if_neg (by simpa using h32)])
    clear SE
    go_enter Tryz.func41, Tryz.ntmps41
    go_wp2_with fail
    go_loopw [6] (fun i wr => ∃ k : Nat, k ≤ S.length ∧ i = .int .i64 k ∧ (∀ j, j < k → (S[j]?.getD Ses.zero).dig ≠ ec) ∧ Below (w.heap.size + 3) (((w.alloc (.cells #[.slice a L.length c, .slice a' S.length c'] 25)).alloc (.cells #[.int .i64 kd, .int .i64 ac, .int .i64 pu, .int .i64 t, .int .i64 nu, .string ea, .string eb, .string ec] 46)).alloc (.cells #[.slice none 0 0, .slice none 0 0] 25)) wr) (fun i _ => S.length - (intOf i).toNat)
    case atStart => exact ⟨0, Nat.zero_le _, rfl, fun j hj => (Nat.not_lt_zero j hj).elim, Below.refl _ _⟩
    case round =>
      obtain ⟨k, hk, rfl, hno, hbr⟩ := hrel
      have HO := Lib.hid hno
      have WB := Lib.hid hbr
      obtain ⟨⟨p0, p1⟩, ⟨g0, g1, g2, g3, g4, g5, g6, g7⟩, ⟨u0, u1, l0, l1⟩, lf, _⟩ := AT.out _ hbr
      by_cases hkn : k < S.length
      · have hkn' : (k : Int) < S.length := by omega
        have hk0 : (0 : Int) ≤ k := by omega
        obtain ⟨g, rfl, _, _, m0, m1, m2⟩ := (OS.out wr hbr).all k hkn
        obtain ⟨x, hx⟩ : ∃ x, S[k]?.getD Ses.zero = x := ⟨_, rfl⟩
        rw [hx] at m0 m1 m2
        have HX := Lib.hid hx
        clear hx hbr hno
        by_cases hd : x.dig = ec
        · have hd' : (x.dig.toList == ec.toList) = true := by simpa using tl_inj.2 hd
          have hth : Hid (th = true) := Lib.hid (by
            rw [← HTH.out, List.any_eq_true]
            rw [List.getElem?_eq_getElem hkn] at HX
            exact ⟨x, HX.out ▸ List.getElem_mem hkn, decide_eq_true hd⟩)
          have RE : Hid (se = 14) := Lib.hid (by rw [CB.out, hth.out, if_pos rfl])
          have RR : Hid (sr = ⟨L, S⟩) := Lib.hid (by rw [SR.out, RE.out, if_neg (by decide)])
          clear CB SR hd hth
          go_wp2_with fail
          go_quiet (fail)
          go_wp2_with fail
          refine bodyPost_ret (v := .tuple #[.agg #[.slice a L.length c, .slice (some ⟨g, 0, none⟩) S.length c'], .int .i64 14]) ?_ rfl ⟨_, by rw [RE.out], ?_, ?_⟩
          · simp [results, Tryz.f41, go_sem, l0, l1]
          · rw [RR.out]
            exact ⟨a, c, some ⟨g, 0, none⟩, c', rfl, (OP.out _ (((below_drewN (BB.out _ WB.out).1 _).setCell (by first | omega | (simp; omega) | simp) _).setCell (by first | omega | (simp; omega) | simp) _)).1, (OP.out _ (((below_drewN (BB.out _ WB.out).1 _).setCell (by first | omega | (simp; omega) | simp) _).setCell (by first | omega | (simp; omega) | simp) _)).2⟩
          · exact ((below_drewN (BB.out _ WB.out).1 _).setCell (by first | omega | (simp; omega) | simp) _).setCell (by first | omega | (simp; omega) | simp) _
        · have hd' : (x.dig.toList == ec.toList) = false := by simpa using fun c => hd (tl_inj.1 c)
          have HD := Lib.hid hd
          clear hd
          go_wp2_with fail
          go_quiet (fail)
          go_wp2_with fail
          go_roundw
          case rel => exact ⟨k + 1, by omega, by go_num, fun j hj => by
            rcases Nat.lt_or_ge j k with e | e
            · exact HO.out j e
            · obtain rfl : j = k := by omega
              rw [HX.out]
              exact HD.out, below_drewN WB.out _⟩
          case measure => simp [intOf]; omega
      · have hkn' : ¬ (k : Int) < S.length := by omega
        have hth : Hid (th = false) := Lib.hid (by
          rw [← HTH.out, List.any_eq_false]
          intro s hs
          obtain ⟨j, hj, rfl⟩ := List.mem_iff_getElem.1 hs
          have := hno j (by omega)
          rw [List.getElem?_eq_getElem hj] at this
          simpa using this)
        have CB2 : Hid (se = if 16 ≤ LS.length then 15 else 0) := Lib.hid (by rw [CB.out, hth.out, if_neg (by decide)])
        clear CB hth hno hbr
        by_cases h16 : 16 ≤ LS.length
        · have h16' : (16 : Int) ≤ LS.length := by omega
          have RE : Hid (se = 15) := Lib.hid (by rw [CB2.out, if_pos h16])
          have RR : Hid (sr = ⟨L, S⟩) := Lib.hid (by rw [SR.out, RE.out, if_neg (by decide)])
          clear CB2 SR
          go_wp2_with (go_at_call 42; (refine (SN.out _ WB.out).mono ?_); rintro z w4 ⟨a4, c4, rfl, q4, b4⟩; have Q4 := Lib.hid q4; have B4 := Lib.hid b4; clear q4 b4; obtain ⟨⟨j0, j1⟩, ⟨k0, k1, k2, k3, k4, k5, k6, k7⟩, ⟨_, _, l0, l1⟩, lf4, _⟩ := AT.out _ B4.out)
          refine bodyPost_ret (v := .tuple #[.agg #[.slice a L.length c, .slice a' S.length c'], .int .i64 15]) ?_ rfl ⟨_, by rw [RE.out], ?_, ?_⟩
          · simp [results, Tryz.f41, go_sem, l0, l1]
          · rw [RR.out]
            exact ⟨a, c, a', c', rfl, (OP.out _ ((((BB.out _ B4.out).1).setCell (by first | omega | (simp; omega) | simp) _).setCell (by first | omega | (simp; omega) | simp) _)).1, (OP.out _ ((((BB.out _ B4.out).1).setCell (by first | omega | (simp; omega) | simp) _).setCell (by first | omega | (simp; omega) | simp) _)).2⟩
          · exact (((BB.out _ B4.out).1).setCell (by first | omega | (simp; omega) | simp) _).setCell (by first | omega | (simp; omega) | simp) _
        · have h16' : ¬ (16 : Int) ≤ LS.length := by omega
          have RE : Hid (se = 0) := Lib.hid (by rw [CB2.out, if_neg h16])
          have RR : Hid (sr = ⟨L, LS ++ [⟨ec, ac, nu⟩]⟩) := Lib.hid (by rw [SR.out, RE.out, if_pos rfl])
          clear CB2 SR
          go_wp2_with (first
            | (go_at_call 42; (refine (SN.out _ WB.out).mono ?_); rintro z w4 ⟨a4, c4, rfl, q4, b4⟩; have Q4 := Lib.hid q4; have B4 := Lib.hid b4; clear q4 b4; obtain ⟨⟨j0, j1⟩, ⟨k0, k1, k2, k3, k4, k5, k6, k7⟩, ⟨_, _, l0, l1⟩, lf4, _⟩ := AT.out _ B4.out; have b5 : Below w4.heap.size w4 (w4.alloc (.cells #[.string ec, .int .i64 ac, .int .i64 nu] 37)) := (Below.refl _ _).alloc (Nat.le_refl _) _; have B5 := Lib.hid (B4.out.alloc (BB.out _ B4.out).2 (.cells #[.string ec, .int .i64 ac, .int .i64 nu] 37)); have hq := heap_new w4 (.cells #[.string ec, .int .i64 ac, .int .i64 nu] 37); obtain ⟨a7, c7, w7, ra, o7, g7⟩ := Ses.push ⟨ec, ac, nu⟩ (Q4.out.below b5) (BB.out _ B5.out).2 (by omega) hq 23; have B7 := Lib.hid (B5.out.grown g7 (BB.out _ B5.out).2 (fun k hk => (World.ownsRow.lt Q4.out k hk).1)); have RA := Lib.hid ra; have O7 := Lib.hid o7; clear ra o7 g7 hq b5; obtain ⟨⟨s0, s1⟩, ⟨t0, t1, t2, t3, t4, t5, t6, t7⟩, _⟩ := AT.out _ B5.out; obtain ⟨⟨r0, r1⟩, _, ⟨_, _, n0, n1⟩, nf, _⟩ := AT.out _ B7.out; have pf7 := PF.out _ B7.out)
            | (at_builtin; refine Lib.wpList_append_run _ rfl _ _ _ _ rfl _ _ rfl rfl _ _ RA.out ?_))
          have bx := ((((BB.out _ B7.out).1.setCell (p := ⟨w.heap.size, 1, none⟩) (by simp) (.slice a7 (LS.length + 1) c7)).setCell (p := ⟨w.heap.size + 2, 0, none⟩) (by simp) (.slice a L.length c)).setCell (p := ⟨w.heap.size + 2, 1, none⟩) (by simp) (.slice a7 (LS.length + 1) c7))
          refine bodyPost_ret (v := .tuple #[.agg #[.slice a L.length c, .slice a7 (LS.length + 1) c7], .int .i64 0]) ?_ rfl ⟨_, by rw [RE.out], ?_, ?_⟩
          · simp [results, Tryz.f41, go_sem, n0, n1]
          · rw [RR.out]
            refine ⟨a, c, a7, c7, by simp, (OP.out _ bx).1, ?_⟩
            exact (((O7.out.apart (b := w.heap.size) (k := 1) (by omega) _).apart (by omega) _).apart (by omega) _).mono (by omega)
          · exact bx
  · have h32' : ¬ (ec.size : Int) = 32 := by omega
    have RE : Hid (se = 1) := Lib.hid (by rw [SE.out, if_pos (by simpa using h32)])
    have RR : Hid (sr = ⟨L, S⟩) := Lib.hid (by rw [SR.out, RE.out, if_neg (by decide)])
    clear SE SR
    obtain ⟨_, _, ⟨_, _, l0, l1⟩, lf, _⟩ := AT.out _ (Below.refl _ _)
    have B1 := Lib.hid (BB.out _ (Below.refl _ _)).1
    go_enter Tryz.func41, Tryz.ntmps41
    go_upto_region 2 with fail
    obtain ⟨w1, hw1⟩ : ∃ w1, (((w.alloc (.cells #[.slice a L.length c, .slice a' S.length c'] 25)).alloc (.cells #[.int .i64 kd, .int .i64 ac, .int .i64 pu, .int .i64 t, .int .i64 nu, .string ea, .string eb, .string ec] 46)).alloc (.cells #[.slice none 0 0, .slice none 0 0] 25)) = w1 := ⟨_, rfl⟩
    rw [hw1] at B1 x0 x1 l0 l1 ⊢
    simp only [hw1] at lf
    clear hw1
    go_wp2_with fail
    refine bodyPost_ret (v := .tuple #[.agg #[.slice a L.length c, .slice a' S.length c'], .int .i64 1]) ?_ rfl ⟨_, by rw [RE.out], ?_, ?_⟩
    · simp [results, Tryz.f41, go_sem, l0, l1]
    · rw [RR.out]
      exact ⟨a, c, a', c', rfl, (OP.out _ (((B1.out).setCell (by first | omega | (simp; omega) | simp) _).setCell (by first | omega | (simp; omega) | simp) _)).1, (OP.out _ (((B1.out).setCell (by first | omega | (simp; omega) | simp) _).setCell (by first | omega | (simp; omega) | simp) _)).2⟩
    · exact ((B1.out).setCell (by first | omega | (simp; omega) | simp) _).setCell (by first | omega | (simp; omega) | simp) _
end Go.Proofs.YtkihleecjgoipaaGreatDoor
