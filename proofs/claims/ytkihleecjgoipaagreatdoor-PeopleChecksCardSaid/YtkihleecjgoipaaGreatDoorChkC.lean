/- The reference's Check, walked: it is people.Check. Written by wip/tools/mkchkc.py. -/
import Derived.Test.YtkihleecjgoipaaGreatDoorChkB
import Derived.BigQuiet
import Derived.Deep.QuietTactic
namespace Go.Proofs.YtkihleecjgoipaaGreatDoor
open Go.RowKit Go.Maps Go.Proofs.YtkihleecjgoipaaGreatDoor.Rw

set_option maxHeartbeats 16000000 in
set_option maxRecDepth 100000 in
theorem check16_any {B : Nat} {v : Value} {p : Ppl} {w : World} (hown : pown w B v p) (lim : few p) (hsz : ∀ x ∈ p.ps, x.mail.size ≤ 4000000000 ∧ ∀ c ∈ x.cs, c.size ≤ 4000000000) :
    Calls Tryz.prog 9 #[v] w fun e w' => e = .returned (.bool (chkB p)) ∧ Below w.heap.size w w' := by
  have hown0 := hown
  obtain ⟨a, c, a', c', rfl, o1, o2⟩ := hown
  have hb : Below w.heap.size w (w.alloc (pobj (.slice a p.ps.length c) (.slice a' p.ss.length c'))) := (Below.refl _ _).alloc (Nat.le_refl _) _
  have z1 : (w.alloc (pobj (.slice a p.ps.length c) (.slice a' p.ss.length c'))).heap.size = w.heap.size + 1 := by simp
  have BB : Hid (∀ w2, Below (w.heap.size + 1) (w.alloc (pobj (.slice a p.ps.length c) (.slice a' p.ss.length c'))) w2 → Below w.heap.size w w2 ∧ w.heap.size + 1 ≤ w2.heap.size) := Lib.hid (fun w2 b => ⟨hb.trans (b.mono (by omega)), by have := b.size; omega⟩)
  have PX : Hid (∀ w2, Below (w.heap.size + 1) (w.alloc (pobj (.slice a p.ps.length c) (.slice a' p.ss.length c'))) w2 → w2.cell? ⟨w.heap.size, 0, none⟩ = some (.slice a p.ps.length c) ∧ w2.cell? ⟨w.heap.size, 1, none⟩ = some (.slice a' p.ss.length c')) := Lib.hid (fun w2 b => pbox_later _ _ (Nat.lt_succ_self _) b)
  have O1 : Hid (∀ w2, Below w.heap.size w w2 → Per.owns w2 B (.slice a p.ps.length c) p.ps) := Lib.hid (fun w2 b => o1.below b)
  have O2 : Hid (∀ w2, Below w.heap.size w w2 → Ses.owns w2 B (.slice a' p.ss.length c') p.ss) := Lib.hid (fun w2 b => o2.below b)
  have FD : Hid (∀ (id : Int) (w2 : World), Below w.heap.size w w2 → Calls Tryz.prog 21 #[.agg #[.slice a p.ps.length c, .slice a' p.ss.length c'], .int .i64 id] w2 fun e w' => e = .returned (.tuple #[(pick p.ps (fun x => decide (x.id = id))).agg, .bool (p.ps.any (fun x => decide (x.id = id)))]) ∧ Below w2.heap.size w2 w') := Lib.hid (fun id w2 b => find16_any (hown0.below b) lim id)
  have PE : Hid (∀ (k : Nat) (hk : k < p.ps.length), ∀ w2, Calls Tryz.prog 20 #[(p.ps[k]).agg] w2 fun e w' => e = .returned (.bool (perB p.ps[k])) ∧ Below w2.heap.size w2 w') := Lib.hid (fun k hk w2 => person16_any _ w2 (hsz _ (List.getElem_mem hk)))
  have CB : Hid (chkB p = (pgo p.ps 0 [] && (sgo p p.ss [] && (decide (p.ps.length ≤ 12) && decide (p.ss.length ≤ 16))))) := Lib.hid (by
    unfold chkB
    simp only [Bool.and_assoc])
  have PI1 := Lib.hid (pgo_iff16 p.ps)
  have SI1 := Lib.hid (sgo_iff16 p)
  have PQ : Hid (∀ i, P16 p.ps i ↔ ∀ h : i < p.ps.length, perB p.ps[i] = true ∧ (∀ h0 : 0 < i, p.ps[i - 1].id < p.ps[i].id) ∧ ∀ k (hk : k < i), p.ps[k].mail ≠ p.ps[i].mail) := Lib.hid (fun i => Iff.rfl)
  have SQ : Hid (∀ i, S16 p i ↔ ∀ h : i < p.ss.length, sesB p p.ss[i] = true ∧ ∀ k (hk : k < i), p.ss[k].dig ≠ p.ss[i].dig) := Lib.hid (fun i => Iff.rfl)
  have lim1 := lim.1
  have lim2 := lim.2
  generalize chkB p = r at *
  generalize pgo p.ps 0 [] = rp at *
  generalize sgo p p.ss [] = rs at *
  generalize P16 p.ps = C at *
  generalize S16 p = D at *
  have FP : Hid (∀ i, ¬ C i → r = false) := Lib.hid (fun i hn => by
    rw [CB.out]
    cases rp
    · rfl
    · exact absurd (PI1.out.1 rfl i) hn)
  have FS : Hid (∀ i, ¬ D i → r = false) := Lib.hid (fun i hn => by
    rw [CB.out]
    cases rs
    · simp
    · exact absurd (SI1.out.1 rfl i) hn)
  clear hown0 o1 o2 hb z1 hsz lim
  obtain ⟨p0, p1⟩ := PX.out _ (Below.refl _ _)
  unfold pobj at *
  go_enter Tryz.func9, Tryz.ntmps9
  go_wp2_with fail
  go_loopw [3] (fun i wr => ∃ k : Nat, k ≤ p.ps.length ∧ i = .int .i64 k ∧ (∀ j, j < k → C j) ∧ Below (w.heap.size + 1) (w.alloc (.cells #[.slice a p.ps.length c, .slice a' p.ss.length c'] 25)) wr) (fun i _ => p.ps.length - (intOf i).toNat)
  case atStart => exact ⟨0, Nat.zero_le _, rfl, fun j hj => (Nat.not_lt_zero j hj).elim, Below.refl _ _⟩
  case round =>
    obtain ⟨k, hk, rfl, hno, hbr⟩ := hrel
    have HO := Lib.hid hno
    have WB := Lib.hid hbr
    obtain ⟨k0', k1'⟩ := PX.out _ hbr
    by_cases hkn : k < p.ps.length
    · have hkn' : (k : Int) < p.ps.length := by omega
      have hk0 : (0 : Int) ≤ k := by omega
      obtain ⟨g, hg, _, _, m0, m1, m2, m3, m4, m5, m6, m7, m8, m9, m10, m11, m12⟩ := (O1.out wr (BB.out _ hbr).1).all k hkn
      subst hg
      rw [List.getElem?_eq_getElem hkn, Option.getD_some] at m0 m1 m2 m3 m4 m5 m6 m7 m8 m9 m10 m11 m12
      have PE2 := Lib.hid (PE.out k hkn wr)
      have PQ2 : Hid (C k ↔ perB p.ps[k] = true ∧ (∀ h0 : 0 < k, p.ps[k - 1].id < p.ps[k].id) ∧ ∀ j (hj : j < k), p.ps[j].mail ≠ p.ps[k].mail) := Lib.hid ((PQ.out k).trans ⟨fun h => h hkn, fun h _ => h⟩)
      have RK : Hid (∀ w2, Below w.heap.size w w2 → w2.cell? ⟨g, k * 13, none⟩ = some (.int .i64 p.ps[k].id) ∧ w2.cell? ⟨g, k * 13 + 1, none⟩ = some (.string p.ps[k].mail)) := Lib.hid (fun w2 b => by
        obtain ⟨g', hg', _, _, e0, e1, _⟩ := (O1.out w2 b).all k hkn
        injection hg' with hg'
        injection hg' with hg'
        subst hg'
        rw [List.getElem?_eq_getElem hkn, Option.getD_some] at e0 e1
        exact ⟨e0, e1⟩)
      have RJ : Hid (∀ w2, Below w.heap.size w w2 → ∀ j (hj : j < k), w2.cell? ⟨g, j * 13, none⟩ = some (.int .i64 p.ps[j].id) ∧ w2.cell? ⟨g, j * 13 + 1, none⟩ = some (.string p.ps[j].mail)) := Lib.hid (fun w2 b j hj => by
        obtain ⟨g', hg', _, _, e0, e1, _⟩ := (O1.out w2 b).all j (by omega)
        injection hg' with hg'
        injection hg' with hg'
        subst hg'
        rw [List.getElem?_eq_getElem (by omega), Option.getD_some] at e0 e1
        exact ⟨e0, e1⟩)
      generalize hXK : p.ps[k] = x at *
      have HXK := Lib.hid hXK
      clear hXK
      obtain ⟨q, hq⟩ : ∃ q, perB x = q := ⟨_, rfl⟩
      rw [hq] at PE2
      have HQ := Lib.hid hq
      obtain ⟨xid, xmail, xver, xsalt, xchk, xvers, xmiss, xlock, xc0, xc1, xc2, xc3, xc4⟩ := x
      unfold Per.R.agg at PE2
      simp only at m0 m1 m2 m3 m4 m5 m6 m7 m8 m9 m10 m11 m12 RK PE2
      clear hq hno hbr
      cases q
      · have hre : Hid (r = false) := Lib.hid (FP.out k (fun h => by have := (PQ2.out.1 h).1; rw [HQ.out] at this; cases this))
        go_wp2_with (go_at_call 20; (refine (PE2.out).mono ?_); rintro z w3 ⟨rfl, b3⟩; have B3 := Lib.hid (WB.out.trans (b3.mono (BB.out _ WB.out).2)); obtain ⟨u0, u1⟩ := PX.out _ B3.out; obtain ⟨r0, r1⟩ := RK.out _ (BB.out _ B3.out).1; clear b3)
        go_quiet (fail)
        go_wp2_with fail
        go_ret
        exact ⟨ret_bool hre.out.symm, below_drewN (BB.out _ B3.out).1 _⟩
      · by_cases h0 : k = 0
        · have h0d : (0 < k) = False := eq_false (by omega)
          have hok : Hid (C k) := Lib.hid (PQ2.out.2 ⟨HQ.out, fun q => by omega, fun j hj => by omega⟩)
          have H0 := Lib.hid h0
          clear h0
          go_wp2_with (go_at_call 20; (refine (PE2.out).mono ?_); rintro z w3 ⟨rfl, b3⟩; have B3 := Lib.hid (WB.out.trans (b3.mono (BB.out _ WB.out).2)); obtain ⟨u0, u1⟩ := PX.out _ B3.out; obtain ⟨r0, r1⟩ := RK.out _ (BB.out _ B3.out).1; clear b3)
          go_quiet (fail)
          go_wp2_with fail
          go_loopw [5] (fun i wq => ∃ j : Nat, j ≤ k ∧ i = .int .i64 j ∧ Below (w.heap.size + 1) (w.alloc (.cells #[.slice (some ⟨g, 0, none⟩) p.ps.length c, .slice a' p.ss.length c'] 25)) wq) (fun i _ => k - (intOf i).toNat)
          case atStart => exact ⟨0, Nat.zero_le _, rfl, below_drewN B3.out _⟩
          case round =>
            obtain ⟨j, hj, rfl, hbq⟩ := hrel
            have hjk : ¬ (j : Int) < k := by have := H0.out; omega
            obtain ⟨u0, u1⟩ := PX.out _ hbq
            have BQ := Lib.hid hbq
            clear hbq
            go_wp2_with fail
            go_roundw
            case rel => exact ⟨k + 1, by omega, by go_num, fun j hj => by
              rcases Nat.lt_or_ge j k with e | e
              · exact HO.out j e
              · obtain rfl : j = k := by omega
                exact hok.out, BQ.out⟩
            case measure => simp [intOf]; omega
        · have h0d : (0 < k) = True := eq_true (by omega)
          have hw2 : IntKind.i64.wrap ((k : Int) - 1) = (k : Int) - 1 := by rw [IntKind.wrap_i64] <;> omega
          have hm1 : (1 : Int) ≤ k := by omega
          have hm2 : (k : Int) - 1 < p.ps.length := by omega
          have hm3 : (0 : Int) ≤ (k : Int) - 1 := by omega
          have hk1 : k - 1 < k := by omega
          have RP := Lib.hid (fun w2 b => (RJ.out w2 b (k - 1) hk1).1)
          obtain ⟨pid, hpid⟩ : ∃ pid, (p.ps[k - 1]'(by omega)).id = pid := ⟨_, rfl⟩
          have HPID := Lib.hid hpid
          have RP : Hid (∀ w2, Below w.heap.size w w2 → w2.cell? ⟨g, (k - 1) * 13, none⟩ = some (.int .i64 pid)) := Lib.hid (fun w2 b => by rw [← HPID.out]; exact RP.out w2 b)
          clear hpid
          by_cases hle : xid ≤ pid
          · have hled : decide (xid ≤ pid) = true := decide_eq_true hle
            have hre : Hid (r = false) := Lib.hid (FP.out k (fun h => by have := (PQ2.out.1 h).2.1 (by omega); rw [HPID.out] at this; simp only at this; omega))
            clear hle h0
            go_wp2_with (go_at_call 20; (refine (PE2.out).mono ?_); rintro z w3 ⟨rfl, b3⟩; have B3 := Lib.hid (WB.out.trans (b3.mono (BB.out _ WB.out).2)); obtain ⟨u0, u1⟩ := PX.out _ B3.out; obtain ⟨r0, r1⟩ := RK.out _ (BB.out _ B3.out).1; have r2 := RP.out _ (BB.out _ B3.out).1; clear b3)
            go_quiet (fail)
            go_wp2_with fail
            go_ret
            exact ⟨ret_bool hre.out.symm, below_drewN (BB.out _ B3.out).1 _⟩
          · have hled : decide (xid ≤ pid) = false := decide_eq_false hle
            have HLE := Lib.hid hle
            have H0 := Lib.hid h0
            clear hle h0
            go_wp2_with (go_at_call 20; (refine (PE2.out).mono ?_); rintro z w3 ⟨rfl, b3⟩; have B3 := Lib.hid (WB.out.trans (b3.mono (BB.out _ WB.out).2)); obtain ⟨u0, u1⟩ := PX.out _ B3.out; obtain ⟨r0, r1⟩ := RK.out _ (BB.out _ B3.out).1; have r2 := RP.out _ (BB.out _ B3.out).1; clear b3)
            go_quiet (fail)
            go_wp2_with fail
            go_loopw [5] (fun i wq => ∃ j : Nat, j ≤ k ∧ i = .int .i64 j ∧ (∀ j' (hj : j' < j) (hj2 : j' < p.ps.length), p.ps[j'].mail ≠ xmail) ∧ Below (w.heap.size + 1) (w.alloc (.cells #[.slice (some ⟨g, 0, none⟩) p.ps.length c, .slice a' p.ss.length c'] 25)) wq) (fun i _ => k - (intOf i).toNat)
            case atStart => exact ⟨0, Nat.zero_le _, rfl, fun j hj => (Nat.not_lt_zero j hj).elim, below_drewN B3.out _⟩
            case round =>
              obtain ⟨j, hj, rfl, hnm, hbq⟩ := hrel
              have HNM := Lib.hid hnm
              have BQ := Lib.hid hbq
              obtain ⟨u0, u1⟩ := PX.out _ hbq
              by_cases hjk : j < k
              · have hjk' : (j : Int) < k := by omega
                have hj0 : (0 : Int) ≤ j := by omega
                have hjn : (j : Int) < p.ps.length := by omega
                obtain ⟨_, e1⟩ := RJ.out wr (BB.out _ hbq).1 j hjk
                obtain ⟨_, f1⟩ := RK.out wr (BB.out _ hbq).1
                obtain ⟨jm, hjm⟩ : ∃ jm, (p.ps[j]'(by omega)).mail = jm := ⟨_, rfl⟩
                rw [hjm] at e1
                have HJM := Lib.hid hjm
                clear hjm hbq hnm
                by_cases hmm : jm = xmail
                · have hmm' : (jm.toList == xmail.toList) = true := by simpa using tl_inj.2 hmm
                  have hre : Hid (r = false) := Lib.hid (FP.out k (fun h => (PQ2.out.1 h).2.2 j hjk (HJM.out.trans hmm)))
                  clear hmm
                  go_wp2_with fail
                  go_quiet (fail)
                  go_wp2_with fail
                  go_ret
                  exact ⟨ret_bool hre.out.symm, below_drewN (BB.out _ BQ.out).1 _⟩
                · have hmm' : (jm.toList == xmail.toList) = false := by simpa using fun c => hmm (tl_inj.1 c)
                  have HMM := Lib.hid hmm
                  clear hmm
                  go_wp2_with fail
                  go_quiet (fail)
                  go_wp2_with fail
                  go_roundw
                  case rel => exact ⟨j + 1, by omega, by go_num, fun j' h1 h2 => by
                    rcases Nat.lt_or_ge j' j with e | e
                    · exact HNM.out j' e h2
                    · obtain rfl : j' = j := by omega
                      rw [HJM.out]
                      exact HMM.out, below_drewN BQ.out _⟩
                  case measure => simp [intOf]; omega
              · have hjk' : ¬ (j : Int) < k := by omega
                have hok : Hid (C k) := Lib.hid (PQ2.out.2 ⟨HQ.out, fun _ => by rw [HPID.out]; have := HLE.out; show pid < xid; omega, fun j' hj' => HNM.out j' (by omega) (by omega)⟩)
                clear hbq hnm
                go_wp2_with fail
                go_roundw
                case rel => exact ⟨k + 1, by omega, by go_num, fun j hj => by
                  rcases Nat.lt_or_ge j k with e | e
                  · exact HO.out j e
                  · obtain rfl : j = k := by omega
                    exact hok.out, BQ.out⟩
                case measure => simp [intOf]; omega
    · have hkn' : ¬ (k : Int) < p.ps.length := by omega
      have hrp : Hid (rp = true) := Lib.hid (PI1.out.2 (fun i => by
        rcases Nat.lt_or_ge i k with e | e
        · exact HO.out i e
        · exact (PQ.out i).2 (fun h => absurd h (by omega))))
      clear hno hbr HO
      go_wp2_with fail
      go_loopw [6] (fun i wq => ∃ m : Nat, m ≤ p.ss.length ∧ i = .int .i64 m ∧ (∀ j, j < m → D j) ∧ Below (w.heap.size + 1) (w.alloc (.cells #[.slice a p.ps.length c, .slice a' p.ss.length c'] 25)) wq) (fun i _ => p.ss.length - (intOf i).toNat)
      case atStart => exact ⟨0, Nat.zero_le _, rfl, fun j hj => (Nat.not_lt_zero j hj).elim, WB.out⟩
      case round =>
        obtain ⟨m, hm, rfl, hno, hbr⟩ := hrel
        have HO := Lib.hid hno
        have WB := Lib.hid hbr
        obtain ⟨k0', k1'⟩ := PX.out _ hbr
        by_cases hmn : m < p.ss.length
        · have hmn' : (m : Int) < p.ss.length := by omega
          have hm0 : (0 : Int) ≤ m := by omega
          obtain ⟨g, hg, _, _, m0, m1, m2⟩ := (O2.out wr (BB.out _ hbr).1).all m hmn
          subst hg
          rw [List.getElem?_eq_getElem hmn, Option.getD_some] at m0 m1 m2
          have SQ2 : Hid (D m ↔ sesB p p.ss[m] = true ∧ ∀ j (hj : j < m), p.ss[j].dig ≠ p.ss[m].dig) := Lib.hid ((SQ.out m).trans ⟨fun h => h hmn, fun h _ => h⟩)
          have RJ : Hid (∀ w2, Below w.heap.size w w2 → ∀ j (hj : j < m), w2.cell? ⟨g, j * 3, none⟩ = some (.string p.ss[j].dig)) := Lib.hid (fun w2 b j hj => by
            obtain ⟨g', hg', _, _, e0, e1, _⟩ := (O2.out w2 b).all j (by omega)
            injection hg' with hg'
            injection hg' with hg'
            subst hg'
            rw [List.getElem?_eq_getElem (by omega), Option.getD_some] at e0
            exact e0)
          generalize hXK : p.ss[m] = s at *
          have HXK := Lib.hid hXK
          clear hXK
          have SB : Hid (sesB p s = (decide (s.dig.size = 32) && (decide (1 ≤ s.acc) && (decide (s.acc ≤ 99) && (decide (0 ≤ s.exp) && (decide (s.exp ≤ 1099511627776) && p.ps.any (fun x => decide (x.id = s.acc)))))))) := Lib.hid (by
            unfold sesB
            ac_rfl)
          have bx := hbr.alloc (BB.out _ hbr).2 s.obj
          have zx : (wr.alloc s.obj).heap.size = wr.heap.size + 1 := by simp
          have BX2 : Hid (∀ w2, Below (wr.heap.size + 1) (wr.alloc s.obj) w2 → Ses.At w2 wr.heap.size s ∧ Below (w.heap.size + 1) (w.alloc (.cells #[.slice a p.ps.length c, .slice (some ⟨g, 0, none⟩) p.ss.length c'] 25)) w2) := Lib.hid (fun w2 b => ⟨(Ses.box_later (w := wr) (w2 := w2) s (by rw [zx]; exact b)).1, bx.trans (b.mono (by have := (BB.out _ WB.out).2; omega))⟩)
          obtain ⟨px0, px1⟩ := PX.out _ bx
          obtain ⟨⟨g0, g1, g2⟩, _⟩ := BX2.out _ (Below.refl _ _)
          have FD2 : Hid (Calls Tryz.prog 21 #[.agg #[.slice a p.ps.length c, .slice (some ⟨g, 0, none⟩) p.ss.length c'], .int .i64 s.acc] (wr.alloc s.obj) fun e w' => e = .returned (.tuple #[(pick p.ps (fun x => decide (x.id = s.acc))).agg, .bool (p.ps.any (fun x => decide (x.id = s.acc)))]) ∧ Below (wr.heap.size + 1) (wr.alloc s.obj) w') := Lib.hid (by
            have h := FD.out s.acc _ (BB.out _ bx).1
            rwa [zx] at h)
          clear hbr hno bx zx
          generalize pick p.ps (fun x => decide (x.id = s.acc)) = y at *
          generalize p.ps.any (fun x => decide (x.id = s.acc)) = q1 at *
          generalize sesB p s = sb at *
          obtain ⟨dig, acc, exp⟩ := s
          obtain ⟨id, mail, ver, salt, chk, vers, miss, lock, c0, c1, c2, c3, c4⟩ := y
          unfold Ses.R.obj Per.R.agg at *
          simp only at *
          have SZ3 : Hid (∀ w2, Below (wr.heap.size + 1) (wr.alloc (.cells #[.string dig, .int .i64 acc, .int .i64 exp] 37)) w2 → wr.heap.size + 1 ≤ w2.heap.size) := Lib.hid (fun w2 b => by have := b.size; simp at this; omega)
          by_cases h32 : dig.size = 32
          · skip
            have h32' : (dig.size : Int) = 32 := by omega
            by_cases h1 : 1 ≤ acc
            · skip
              by_cases h2 : acc ≤ 99
              · skip
                by_cases h3 : 0 ≤ exp
                · skip
                  by_cases h4 : exp ≤ 1099511627776
                  · skip
                    cases q1
                    · skip
                      have hre : Hid (r = false) := Lib.hid (FS.out m (fun h => by have := (SQ2.out.1 h).1; rw [SB.out, decide_eq_true h32, decide_eq_true h1, decide_eq_true h2, decide_eq_true h3, decide_eq_true h4] at this; simp at this))
                      go_wp2_with (go_at_call 21; (with_reducible refine (FD2.out).mono ?_); rintro z w3 ⟨rfl, b3⟩; obtain ⟨⟨j0, j1, j2⟩, _⟩ := BX2.out _ b3; have B4 := Lib.hid (b3.alloc (SZ3.out _ b3) (.cells #[.int .i64 id, .string mail, .bool ver, .string salt, .string chk, .int .i64 vers, .int .i64 miss, .int .i64 lock, .string c0, .string c1, .string c2, .string c3, .string c4] 34)); obtain ⟨⟨n0, n1, n2⟩, c4⟩ := BX2.out _ B4.out; have C4 := Lib.hid c4; clear c4; obtain ⟨v0, v1⟩ := PX.out _ C4.out; clear b3)
                      go_ret
                      exact ⟨ret_bool hre.out.symm, (BB.out _ C4.out).1⟩
                    · skip
                      have hsb : Hid (sb = true) := Lib.hid (by rw [SB.out, decide_eq_true h32, decide_eq_true h1, decide_eq_true h2, decide_eq_true h3, decide_eq_true h4]; rfl)
                      go_wp2_with (go_at_call 21; (with_reducible refine (FD2.out).mono ?_); rintro z w3 ⟨rfl, b3⟩; obtain ⟨⟨j0, j1, j2⟩, _⟩ := BX2.out _ b3; have B4 := Lib.hid (b3.alloc (SZ3.out _ b3) (.cells #[.int .i64 id, .string mail, .bool ver, .string salt, .string chk, .int .i64 vers, .int .i64 miss, .int .i64 lock, .string c0, .string c1, .string c2, .string c3, .string c4] 34)); obtain ⟨⟨n0, n1, n2⟩, c4⟩ := BX2.out _ B4.out; have C4 := Lib.hid c4; clear c4; obtain ⟨v0, v1⟩ := PX.out _ C4.out; clear b3)
                      go_loopw [10] (fun i wq => ∃ j : Nat, j ≤ m ∧ i = .int .i64 j ∧ (∀ j' (hj : j' < j) (hj2 : j' < p.ss.length), p.ss[j'].dig ≠ dig) ∧ Below (wr.heap.size + 1) (wr.alloc (.cells #[.string dig, .int .i64 acc, .int .i64 exp] 37)) wq) (fun i _ => m - (intOf i).toNat)
                      case atStart => exact ⟨0, Nat.zero_le _, rfl, fun j hj => (Nat.not_lt_zero j hj).elim, B4.out⟩
                      case round =>
                        obtain ⟨j, hj, rfl, hnm, hbq⟩ := hrel
                        have HNM := Lib.hid hnm
                        have BQ := Lib.hid hbq
                        obtain ⟨⟨n0, n1, n2⟩, cq⟩ := BX2.out _ hbq
                        have CQ := Lib.hid cq
                        obtain ⟨u0, u1⟩ := PX.out _ cq
                        by_cases hjk : j < m
                        · have hjk' : (j : Int) < m := by omega
                          have hj0 : (0 : Int) ≤ j := by omega
                          have hjn : (j : Int) < p.ss.length := by omega
                          have e1 := RJ.out _ (BB.out _ cq).1 j hjk
                          obtain ⟨jm, hjm⟩ : ∃ jm, (p.ss[j]'(by omega)).dig = jm := ⟨_, rfl⟩
                          rw [hjm] at e1
                          have HJM := Lib.hid hjm
                          clear hjm hbq hnm cq
                          by_cases hmm : jm = dig
                          · have hmm' : (jm.toList == dig.toList) = true := by simpa using tl_inj.2 hmm
                            have hre : Hid (r = false) := Lib.hid (FS.out m (fun h => (SQ2.out.1 h).2 j hjk (HJM.out.trans hmm)))
                            clear hmm
                            go_wp2_with fail
                            go_quiet (fail)
                            go_wp2_with fail
                            go_ret
                            exact ⟨ret_bool hre.out.symm, below_drewN (BB.out _ CQ.out).1 _⟩
                          · have hmm' : (jm.toList == dig.toList) = false := by simpa using fun c => hmm (tl_inj.1 c)
                            have HMM := Lib.hid hmm
                            clear hmm
                            go_wp2_with fail
                            go_quiet (fail)
                            go_wp2_with fail
                            go_roundw
                            case rel => exact ⟨j + 1, by omega, by go_num, fun j' h1 h2 => by
                              rcases Nat.lt_or_ge j' j with e | e
                              · exact HNM.out j' e h2
                              · obtain rfl : j' = j := by omega
                                rw [HJM.out]
                                exact HMM.out, below_drewN BQ.out _⟩
                            case measure => simp [intOf]; omega
                        · have hjk' : ¬ (j : Int) < m := by omega
                          have hok : Hid (D m) := Lib.hid (SQ2.out.2 ⟨hsb.out, fun j' hj' => HNM.out j' (by omega) (by omega)⟩)
                          clear hbq hnm cq
                          go_wp2_with fail
                          go_roundw
                          case rel => exact ⟨m + 1, by omega, by go_num, fun j hj => by
                            rcases Nat.lt_or_ge j m with e | e
                            · exact HO.out j e
                            · obtain rfl : j = m := by omega
                              exact hok.out, CQ.out⟩
                          case measure => simp [intOf]; omega
                  · skip
                    have hre : Hid (r = false) := Lib.hid (FS.out m (fun h => by have := (SQ2.out.1 h).1; rw [SB.out, decide_eq_true h32, decide_eq_true h1, decide_eq_true h2, decide_eq_true h3, decide_eq_false h4] at this; simp at this))
                    go_wp2_with (go_at_call 21; (with_reducible refine (FD2.out).mono ?_); rintro z w3 ⟨rfl, b3⟩; obtain ⟨⟨j0, j1, j2⟩, _⟩ := BX2.out _ b3; have B4 := Lib.hid (b3.alloc (SZ3.out _ b3) (.cells #[.int .i64 id, .string mail, .bool ver, .string salt, .string chk, .int .i64 vers, .int .i64 miss, .int .i64 lock, .string c0, .string c1, .string c2, .string c3, .string c4] 34)); obtain ⟨⟨n0, n1, n2⟩, c4⟩ := BX2.out _ B4.out; have C4 := Lib.hid c4; clear c4; obtain ⟨v0, v1⟩ := PX.out _ C4.out; clear b3)
                    go_ret
                    exact ⟨ret_bool hre.out.symm, (BB.out _ C4.out).1⟩
                · skip
                  have hre : Hid (r = false) := Lib.hid (FS.out m (fun h => by have := (SQ2.out.1 h).1; rw [SB.out, decide_eq_true h32, decide_eq_true h1, decide_eq_true h2, decide_eq_false h3] at this; simp at this))
                  go_wp2_with (go_at_call 21; (with_reducible refine (FD2.out).mono ?_); rintro z w3 ⟨rfl, b3⟩; obtain ⟨⟨j0, j1, j2⟩, _⟩ := BX2.out _ b3; have B4 := Lib.hid (b3.alloc (SZ3.out _ b3) (.cells #[.int .i64 id, .string mail, .bool ver, .string salt, .string chk, .int .i64 vers, .int .i64 miss, .int .i64 lock, .string c0, .string c1, .string c2, .string c3, .string c4] 34)); obtain ⟨⟨n0, n1, n2⟩, c4⟩ := BX2.out _ B4.out; have C4 := Lib.hid c4; clear c4; obtain ⟨v0, v1⟩ := PX.out _ C4.out; clear b3)
                  go_ret
                  exact ⟨ret_bool hre.out.symm, (BB.out _ C4.out).1⟩
              · skip
                have hre : Hid (r = false) := Lib.hid (FS.out m (fun h => by have := (SQ2.out.1 h).1; rw [SB.out, decide_eq_true h32, decide_eq_true h1, decide_eq_false h2] at this; simp at this))
                go_wp2_with (go_at_call 21; (with_reducible refine (FD2.out).mono ?_); rintro z w3 ⟨rfl, b3⟩; obtain ⟨⟨j0, j1, j2⟩, _⟩ := BX2.out _ b3; have B4 := Lib.hid (b3.alloc (SZ3.out _ b3) (.cells #[.int .i64 id, .string mail, .bool ver, .string salt, .string chk, .int .i64 vers, .int .i64 miss, .int .i64 lock, .string c0, .string c1, .string c2, .string c3, .string c4] 34)); obtain ⟨⟨n0, n1, n2⟩, c4⟩ := BX2.out _ B4.out; have C4 := Lib.hid c4; clear c4; obtain ⟨v0, v1⟩ := PX.out _ C4.out; clear b3)
                go_ret
                exact ⟨ret_bool hre.out.symm, (BB.out _ C4.out).1⟩
            · skip
              have hre : Hid (r = false) := Lib.hid (FS.out m (fun h => by have := (SQ2.out.1 h).1; rw [SB.out, decide_eq_true h32, decide_eq_false h1] at this; simp at this))
              go_wp2_with (go_at_call 21; (with_reducible refine (FD2.out).mono ?_); rintro z w3 ⟨rfl, b3⟩; obtain ⟨⟨j0, j1, j2⟩, _⟩ := BX2.out _ b3; have B4 := Lib.hid (b3.alloc (SZ3.out _ b3) (.cells #[.int .i64 id, .string mail, .bool ver, .string salt, .string chk, .int .i64 vers, .int .i64 miss, .int .i64 lock, .string c0, .string c1, .string c2, .string c3, .string c4] 34)); obtain ⟨⟨n0, n1, n2⟩, c4⟩ := BX2.out _ B4.out; have C4 := Lib.hid c4; clear c4; obtain ⟨v0, v1⟩ := PX.out _ C4.out; clear b3)
              go_ret
              exact ⟨ret_bool hre.out.symm, (BB.out _ C4.out).1⟩
          · skip
            have h32' : ¬ (dig.size : Int) = 32 := by omega
            have hre : Hid (r = false) := Lib.hid (FS.out m (fun h => by have := (SQ2.out.1 h).1; rw [SB.out, decide_eq_false h32] at this; simp at this))
            go_wp2_with (go_at_call 21; (with_reducible refine (FD2.out).mono ?_); rintro z w3 ⟨rfl, b3⟩; obtain ⟨⟨j0, j1, j2⟩, _⟩ := BX2.out _ b3; have B4 := Lib.hid (b3.alloc (SZ3.out _ b3) (.cells #[.int .i64 id, .string mail, .bool ver, .string salt, .string chk, .int .i64 vers, .int .i64 miss, .int .i64 lock, .string c0, .string c1, .string c2, .string c3, .string c4] 34)); obtain ⟨⟨n0, n1, n2⟩, c4⟩ := BX2.out _ B4.out; have C4 := Lib.hid c4; clear c4; obtain ⟨v0, v1⟩ := PX.out _ C4.out; clear b3)
            go_ret
            exact ⟨ret_bool hre.out.symm, (BB.out _ C4.out).1⟩
        · have hmn' : ¬ (m : Int) < p.ss.length := by omega
          have hrs : Hid (rs = true) := Lib.hid (SI1.out.2 (fun i => by
            rcases Nat.lt_or_ge i m with e | e
            · exact HO.out i e
            · exact (SQ.out i).2 (fun h => absurd h (by omega))))
          have CB2 : Hid (r = (decide (p.ps.length ≤ 12) && decide (p.ss.length ≤ 16))) := Lib.hid (by rw [CB.out, hrp.out, hrs.out]; rfl)
          clear hno hbr HO CB hrp hrs
          by_cases h12 : p.ps.length ≤ 12
          · have h12' : (p.ps.length : Int) ≤ 12 := by omega
            by_cases h16 : p.ss.length ≤ 16
            · have h16' : (p.ss.length : Int) ≤ 16 := by omega
              go_wp2_with fail
              go_ret
              exact ⟨ret_bool (by rw [CB2.out]; simp [h12, h16]), (BB.out _ WB.out).1⟩
            · have h16' : ¬ (p.ss.length : Int) ≤ 16 := by omega
              go_wp2_with fail
              go_ret
              exact ⟨ret_bool (by rw [CB2.out]; simp [h12, h16]), (BB.out _ WB.out).1⟩
          · have h12' : ¬ (p.ps.length : Int) ≤ 12 := by omega
            go_wp2_with fail
            go_ret
            exact ⟨ret_bool (by rw [CB2.out]; simp [h12]), (BB.out _ WB.out).1⟩
end Go.Proofs.YtkihleecjgoipaaGreatDoor
