/- PeopleTold: the walk. Written by wip/tools/mktlw.py. -/
import Derived.Test.YtkihleecjgoipaaDoorPld16
import Derived.Test.YtkihleecjgoipaaDoorTldA
namespace Go.Proofs.YtkihleecjgoipaaDoor
open Go.RowKit Go.Maps Go.Proofs.YtkihleecjgoipaaDoor.Rw

theorem told_facts {x : Per.R} (h : contB x = true) : (conL x).length ≤ 5 ∧ (∀ j (hj : j < (conL x).length), x.cs.getD j ByteArray.empty = (conL x)[j] ∧ hasB x (conL x)[j] = true) ∧ ((conL x).length < 5 → x.cs.getD (conL x).length ByteArray.empty = ⟨#[]⟩) := by
  obtain ⟨u, n, h1, h2, _⟩ := (contB_iff x).1 h
  have hu : conL x = u := by
    unfold conL
    rw [h1, List.filter_append, List.filter_eq_self.2 (fun c hc => by simpa using (h2 c hc).1), List.filter_eq_nil_iff.2 (fun c hc => by rw [(List.mem_replicate.1 hc).2]; simp), List.append_nil]
  have hlen : u.length + n = 5 := by
    have : x.cs.length = 5 := rfl
    rw [h1, List.length_append, List.length_replicate] at this
    exact this
  rw [hu]
  refine ⟨by omega, fun j hj => ⟨?_, ?_⟩, fun hl => ?_⟩
  · rw [List.getD_eq_getElem?_getD, h1, List.getElem?_append_left hj, List.getElem?_eq_getElem hj]
    rfl
  · have hm := h2 _ (List.getElem_mem hj)
    unfold hasB
    rw [decide_eq_false hm.1, Bool.not_false, Bool.true_and, List.any_eq_true]
    exact ⟨u[j], by rw [h1]; exact List.mem_append_left _ (List.getElem_mem hj), decide_eq_true rfl⟩
  · rw [List.getD_eq_getElem?_getD, h1, List.getElem?_append_right (Nat.le_refl _), Nat.sub_self, List.getElem?_replicate, if_pos (by omega)]
    rfl
theorem find_zero {N : Nat} {p : Ppl} (h : PI N p) : p.ps.any (fun x => decide (x.id = 0)) = false ∧ pick p.ps (fun x => decide (x.id = 0)) = Per.zero := by
  have hn : ∀ x ∈ p.ps, ¬ x.id = 0 := fun x hx => by
    obtain ⟨k, hk, rfl⟩ := List.mem_iff_getElem.1 hx
    rw [h.id k hk]
    omega
  refine ⟨by rw [List.any_eq_false]; intro x hx; simpa using hn x hx, ?_⟩
  refine pick_none ?_
  rw [List.findIdx_eq_length.2 (fun x hx => by simpa using hn x hx)]
  omega
set_option maxHeartbeats 16000000 in
set_option maxRecDepth 100000 in
theorem told_walk (a0 : Option Addr) (len cap : Nat) (now : Int) (W : World) (hm : ML W)
    (hsl : ∀ i, i < len → ∃ b off o, a0 = some ⟨b, off, none⟩ ∧ b < W.heap.size ∧ NumAt W b (off + i * 7) o) :
    Calls Tryd.prog 7 #[.slice a0 len cap, .int .i64 now] W fun e W' => e = .returned (.bool true) ∧ Below W.heap.size W W' := by
  have AW := Lib.hid (awake_any W hm)
  have PL : Hid (∀ w2, Below W.heap.size W w2 → Calls Tryd.prog 15 #[.slice a0 len cap, .int .i64 60] w2 fun e W' => ∃ p a c a' c', e = .returned (.agg #[.slice a p.ps.length c, .slice a' p.ss.length c']) ∧ PI 60 p ∧ PC p ∧ pown W' W.heap.size (.agg #[.slice a p.ps.length c, .slice a' p.ss.length c']) p ∧ Below w2.heap.size w2 W') := Lib.hid (fun w2 b => by
    have hs2 := b.size
    refine (played_any a0 len cap 60 (by omega) w2 (fun i hi => ?_)).mono fun r w' ⟨N, p, v, q1, q2, q3, q4, q5, q6⟩ => ?_
    · obtain ⟨bb, off, oo, h1, h2, h3⟩ := hsl i hi
      exact ⟨bb, off, oo, h1, by omega, h3.below b h2⟩
    · obtain ⟨a, c, a', c', rfl⟩ := q5.form
      exact ⟨p, a, c, a', c', q1, q3.upto q2, q4, q5.mono hs2, q6⟩)
  clear hm hsl
  go_enter Tryd.func7, Tryd.ntmps7
  go_upto_region 3 with (first
    | (go_at_call 9; (with_reducible refine (AW.out).mono ?_); rintro e w1 ⟨rfl, q1⟩; have W1 := Lib.hid q1; clear q1)
    | (go_at_call 15; (refine (PL.out _ W1.out).mono ?_); rintro e w2 ⟨p, ap, cp, ap', cp', rfl, hp, hpc, ho, q2⟩; have HP := Lib.hid hp; have HPC := Lib.hid hpc; have W2 := Lib.hid (W1.out.trans (q2.mono W1.out.size)); have OP2 := Lib.hid ho; clear q2 hp hpc ho))
  have s2 := W2.out.size
  have b3 : Below w2.heap.size w2 (w2.alloc (pobj (.slice ap p.ps.length cp) (.slice ap' p.ss.length cp'))) := (Below.refl _ _).alloc (Nat.le_refl _) _
  have HPB := Lib.hid (heap_new w2 (pobj (.slice ap p.ps.length cp) (.slice ap' p.ss.length cp')))
  have W3 := Lib.hid (W2.out.trans (b3.mono s2))
  have OP3 := Lib.hid (OP2.out.below b3)
  unfold pobj at b3 HPB W3 OP3
  obtain ⟨w3, hw3⟩ : ∃ w3, w2.alloc (.cells #[.slice ap p.ps.length cp, .slice ap' p.ss.length cp'] 27) = w3 := ⟨_, rfl⟩
  rw [hw3] at b3 HPB W3 OP3 ⊢
  clear hw3 b3 AW PL
  have lim := HP.out.few
  have CLX : Hid (∀ wq (k : Nat) (hk : k < p.ps.length), Below w3.heap.size w3 wq → Calls Tryd.prog 16 #[.agg #[.slice ap p.ps.length cp, .slice ap' p.ss.length cp'], .int .i64 ((k : Int) + 1)] wq fun r w' => ∃ a2 c2, r = .returned (.slice a2 (conL p.ps[k]).length c2) ∧ sowns w' wq.heap.size (.slice a2 (conL p.ps[k]).length c2) (conL p.ps[k]) ∧ Below wq.heap.size wq w') := Lib.hid (fun wq k hk b => by
    have h := contactsL_any (OP3.out.below b) lim ((k : Int) + 1)
    have hf := HP.out.find hk
    unfold pick at h
    rwa [hf.1] at h)
  have CTX : Hid (∀ wq (k : Nat) (hk : k < p.ps.length) (d : ByteArray), Below w3.heap.size w3 wq → Calls Tryd.prog 17 #[.agg #[.slice ap p.ps.length cp, .slice ap' p.ss.length cp'], .int .i64 ((k : Int) + 1), .string d] wq fun r w' => r = .returned (.bool (hasB p.ps[k] d)) ∧ Below wq.heap.size wq w') := Lib.hid (fun wq k hk d b => by
    have h := toldc_any (OP3.out.below b) lim ((k : Int) + 1) d
    have hf := HP.out.find hk
    unfold pick at h
    rwa [hf.1, hf.2, Bool.true_and] at h)
  have LKX : Hid (∀ wq (k : Nat) (hk : k < p.ps.length) (t : Int), Below w3.heap.size w3 wq → Calls Tryd.prog 18 #[.agg #[.slice ap p.ps.length cp, .slice ap' p.ss.length cp'], .int .i64 ((k : Int) + 1), .int .i64 t] wq fun r w' => r = .returned (.bool (decide (t < p.ps[k].lock))) ∧ Below wq.heap.size wq w') := Lib.hid (fun wq k hk t b => by
    have h := locked_any (OP3.out.below b) lim ((k : Int) + 1) t
    have hf := HP.out.find hk
    unfold pick at h
    rwa [hf.1, hf.2, Bool.true_and] at h)
  have CL0 : Hid (∀ wq, Below w3.heap.size w3 wq → Calls Tryd.prog 16 #[.agg #[.slice ap p.ps.length cp, .slice ap' p.ss.length cp'], .int .i64 0] wq fun r w' => ∃ a2 c2, r = .returned (.slice a2 0 c2) ∧ Below wq.heap.size wq w') := Lib.hid (fun wq b => by
    have h := contactsL_any (OP3.out.below b) lim 0
    rw [(find_zero HP.out).2] at h
    exact h.mono fun r w' ⟨a2, c2, q1, _, q3⟩ => ⟨a2, c2, q1, q3⟩)
  have LK0 : Hid (∀ wq, Below w3.heap.size w3 wq → Calls Tryd.prog 18 #[.agg #[.slice ap p.ps.length cp, .slice ap' p.ss.length cp'], .int .i64 0, .int .i64 (-1)] wq fun r w' => r = .returned (.bool false) ∧ Below wq.heap.size wq w') := Lib.hid (fun wq b => by
    have h := locked_any (OP3.out.below b) lim 0 (-1)
    rwa [(find_zero HP.out).1, Bool.false_and] at h)
  have TF := Lib.hid (fun k (hk : k < p.ps.length) => told_facts (HPC.out.cont _ (List.getElem_mem hk)))
  have IDS := Lib.hid HP.out.id
  have hlp := HP.out.len
  obtain ⟨a2, c2, a2', c2', hpe, or1, os1⟩ := id OP3.out
  simp only [Value.agg.injEq, Array.mk.injEq, List.cons.injEq, and_true] at hpe
  obtain ⟨he1, _⟩ := hpe
  rw [← he1] at or1
  have ORW := Lib.hid or1
  clear or1 os1 he1 lim
  have F3 : Hid (∀ wq, Below w3.heap.size w3 wq → wq.cell? ⟨w2.heap.size, 0, none⟩ = some (.slice ap p.ps.length cp) ∧ wq.cell? ⟨w2.heap.size, 1, none⟩ = some (.slice ap' p.ss.length cp')) := Lib.hid (fun wq b => (pcell_of ((b.block _ (heap_lt HPB.out)).trans HPB.out)).1)
  go_cut [7] (fun x7 wx => ∃ tt : Int, x7 = .int .i64 tt ∧ w3 = wx)
  case first =>
    go_wp2_with fail
    go_meet
    case rel => exact ⟨_, rfl, rfl⟩
  case rest =>
    obtain ⟨tt, rfl, hwx⟩ := hcut
    subst hwx
    obtain ⟨k0, k1⟩ := F3.out _ (Below.refl _ _)
    go_wp2_with fail
    go_loopw [8] (fun i wr => ∃ k : Nat, k ≤ p.ps.length ∧ i = .int .i64 k ∧ Below w3.heap.size w3 wr) (fun i _ => p.ps.length - (intOf i).toNat)
    case atStart => exact ⟨0, Nat.zero_le _, rfl, Below.refl _ _⟩
    case round =>
      obtain ⟨k, hk, rfl, bq⟩ := hrel
      obtain ⟨u0, u1⟩ := F3.out _ bq
      by_cases hkp : k < p.ps.length
      · have hkp' : (k : Int) < p.ps.length := by omega
        have hk0 : (0 : Int) ≤ k := by omega
        obtain ⟨g, hg, hgl, hgu, m0, m1, m2, m3, m4, m5, m6, m7, m8, m9, m10, m11, m12⟩ := (ORW.out.below bq).all k hkp
        subst hg
        rw [List.getElem?_eq_getElem hkp, Option.getD_some] at m0 m1 m2 m3 m4 m5 m6 m7 m8 m9 m10 m11 m12
        have hid := IDS.out k hkp
        have TF2 := Lib.hid (TF.out k hkp)
        have CLY := Lib.hid (fun wq b => CLX.out wq k hkp b)
        have CTY := Lib.hid (fun wq d b => CTX.out wq k hkp d b)
        have LKY := Lib.hid (fun wq b => LKX.out wq k hkp tt b)
        generalize p.ps[k] = x at *
        obtain ⟨xid, xmail, xver, xsalt, xchk, xvers, xmiss, xlock, xc0, xc1, xc2, xc3, xc4⟩ := x
        simp only at m0 m1 m2 m3 m4 m5 m6 m7 m8 m9 m10 m11 m12 hid
        subst hid
        have bx := bq.alloc bq.size (.cells #[.int .i64 ((k : Int) + 1), .string xmail, .bool xver, .string xsalt, .string xchk, .int .i64 xvers, .int .i64 xmiss, .int .i64 xlock, .string xc0, .string xc1, .string xc2, .string xc3, .string xc4] 38)
        have HXN := Lib.hid (heap_new wr (.cells #[.int .i64 ((k : Int) + 1), .string xmail, .bool xver, .string xsalt, .string xchk, .int .i64 xvers, .int .i64 xmiss, .int .i64 xlock, .string xc0, .string xc1, .string xc2, .string xc3, .string xc4] 38))
        have BX := Lib.hid bx
        obtain ⟨d0, d1, d2, d3, d4, d5, d6, d7, d8, d9, d10, d11, d12⟩ := Per.At.of_heap (m := ⟨(k : Int) + 1, xmail, xver, xsalt, xchk, xvers, xmiss, xlock, xc0, xc1, xc2, xc3, xc4⟩) HXN.out
        obtain ⟨u0, u1⟩ := F3.out _ bx
        simp only at d0 d1 d2 d3 d4 d5 d6 d7 d8 d9 d10 d11 d12
        have SXX : Hid (wr.heap.size + 1 = (wr.alloc (.cells #[.int .i64 ((k : Int) + 1), .string xmail, .bool xver, .string xsalt, .string xchk, .int .i64 xvers, .int .i64 xmiss, .int .i64 xlock, .string xc0, .string xc1, .string xc2, .string xc3, .string xc4] 38)).heap.size) := Lib.hid (by simp)
        obtain ⟨xb, hxb⟩ : ∃ xb, wr.heap.size = xb := ⟨_, rfl⟩
        have HXB := Lib.hid hxb
        clear bq bx hxb
        go_wp2_with (go_at_call 16; (refine (CLY.out _ BX.out).mono ?_); rintro z w5 ⟨a5, c5, rfl, o5, b5⟩; have B5 := Lib.hid (BX.out.trans (b5.mono BX.out.size)); have HX5 := Lib.hid ((b5.block wr.heap.size (by rw [← SXX.out]; exact Nat.lt_succ_self _)).trans HXN.out); have O5 := Lib.hid o5; clear b5 o5)
        generalize hLL : conL ⟨(k : Int) + 1, xmail, xver, xsalt, xchk, xvers, xmiss, xlock, xc0, xc1, xc2, xc3, xc4⟩ = l at *
        rw [HXB.out] at HX5 ⊢
        clear HXN BX SXX HXB d0 d1 d2 d3 d4 d5 d6 d7 d8 d9 d10 d11 d12 u0 u1 m0 m1 m2 m3 m4 m5 m6 m7 m8 m9 m10 m11 m12 hLL
        have F5 : Hid (∀ wq, Below w5.heap.size w5 wq → (wq.cell? ⟨w2.heap.size, 0, none⟩ = some (.slice (some ⟨g, 0, none⟩) p.ps.length cp) ∧ wq.cell? ⟨w2.heap.size, 1, none⟩ = some (.slice ap' p.ss.length cp')) ∧ Per.At wq xb ⟨(k : Int) + 1, xmail, xver, xsalt, xchk, xvers, xmiss, xlock, xc0, xc1, xc2, xc3, xc4⟩ ∧ ∀ j, j < 5 → wq.cell? ⟨xb, 8 + j, none⟩ = some (.string ((Per.R.cs ⟨(k : Int) + 1, xmail, xver, xsalt, xchk, xvers, xmiss, xlock, xc0, xc1, xc2, xc3, xc4⟩).getD j ByteArray.empty))) := Lib.hid (fun wq b => by
          have hx := (b.block xb (heap_lt HX5.out)).trans HX5.out
          have hat := Per.At.of_heap (m := ⟨(k : Int) + 1, xmail, xver, xsalt, xchk, xvers, xmiss, xlock, xc0, xc1, xc2, xc3, xc4⟩) hx
          refine ⟨F3.out _ (B5.out.trans (b.mono B5.out.size)), hat, ?_⟩
          obtain ⟨_, _, _, _, _, _, _, _, e8, e9, e10, e11, e12⟩ := hat
          exact CsAt.of (x := ⟨(k : Int) + 1, xmail, xver, xsalt, xchk, xvers, xmiss, xlock, xc0, xc1, xc2, xc3, xc4⟩) (g := xb) (o := 8) e8 e9 e10 e11 e12)
        obtain ⟨hl5, hlk, hle⟩ := TF2.out
        have HLK := Lib.hid hlk
        have HLE := Lib.hid hle
        clear hlk hle TF2
        obtain ⟨ln, hln⟩ : ∃ ln, l.length = ln := ⟨_, rfl⟩
        have HLN := Lib.hid hln
        rw [hln] at O5 HLE hl5 ⊢
        clear hln
        go_loopw [11] (fun i wq => ∃ j : Nat, j ≤ ln ∧ i = .int .i64 j ∧ Below w5.heap.size w5 wq) (fun i _ => ln - (intOf i).toNat)
        case atStart => exact ⟨0, Nat.zero_le _, rfl, Below.refl _ _⟩
        case round =>
          obtain ⟨j, hj, rfl, bj⟩ := hrel
          have BJ := Lib.hid bj
          by_cases hjl : j < ln
          · have hjl' : (j : Int) < ln := by omega
            have hj0 : (0 : Int) ≤ j := by omega
            have hj5 : decide ((5 : Int) ≤ (j : Int)) = false := decide_eq_false (by omega)
            have hj5' : (j : Int) < 5 := by omega
            have hjL : j < l.length := by rw [HLN.out]; exact hjl
            obtain ⟨hd1, hd2⟩ := HLK.out j hjL
            obtain ⟨g5, rfl, hg5, hc5⟩ := sowns.at (by rw [HLN.out]; exact O5.out.below bj) j hjL
            generalize l[j] = d at *
            have CTZ : Hid (∀ wq, Below wr.heap.size wr wq → Calls Tryd.prog 17 #[.agg #[.slice (some ⟨g, 0, none⟩) p.ps.length cp, .slice ap' p.ss.length cp'], .int .i64 ((k : Int) + 1), .string d] wq fun r w' => r = .returned (.bool true) ∧ Below wq.heap.size wq w') := Lib.hid (fun wq b => by
              have h := CTY.out wq d (B5.out.trans ((bj.trans (b.mono bj.size)).mono B5.out.size))
              rwa [hd2] at h)
            have GF : Hid (∀ wq, Below wr.heap.size wr wq → (wq.cell? ⟨w2.heap.size, 0, none⟩ = some (.slice (some ⟨g, 0, none⟩) p.ps.length cp) ∧ wq.cell? ⟨w2.heap.size, 1, none⟩ = some (.slice ap' p.ss.length cp')) ∧ Per.At wq xb ⟨(k : Int) + 1, xmail, xver, xsalt, xchk, xvers, xmiss, xlock, xc0, xc1, xc2, xc3, xc4⟩ ∧ wq.cell? ⟨xb, 8 + j, none⟩ = some (.string d) ∧ wq.cell? ⟨g5, j, none⟩ = some (.string d)) := Lib.hid (fun wq b => by
              obtain ⟨f1, f2, f3⟩ := F5.out wq (bj.trans (b.mono bj.size))
              refine ⟨f1, f2, ?_, (b.cell (p := ⟨g5, j, none⟩) hg5).trans hc5⟩
              rw [← hd1]
              exact f3 j (by omega))
            clear bj hd1 hd2 hc5 hjL HLK
            go_wp2_with fail
            refine wp_region_held_drew (S := fun w' => Below wr.heap.size wr w') (by kernel_rfl) ?_ (fun hHeld0 => ?_)
            · exact below_drew (Below.refl _ _)
            refine wpAnyH_take (i := 0) (v := ?_) rfl (by kernel_rfl) (by kernel_rfl) (by kernel_rfl) (fun _ _ _ h => h) (Or.inl ⟨by rfl, ?_⟩) (by assumption) ?_
            rotate_left
            · intro w hSw; (try dsimp only at hSw); obtain ⟨⟨p0, p1⟩, ⟨d0, d1, d2, d3, d4, d5, d6, d7, d8, d9, d10, d11, d12⟩, f8, f9⟩ := GF.out w hSw; simp only at d0 d1 d2 d3 d4 d5 d6 d7 d8 d9 d10 d11 d12; go_simp; (try with_reducible rfl)
            simp only [List.getElem_toArray, List.getElem_cons_zero, Act.put, List.setIfInBounds_toArray, List.set_cons_zero, List.set_cons_succ]
            refine wpAnyH_take (i := 1) (v := ?_) rfl (by kernel_rfl) (by kernel_rfl) (by kernel_rfl) (fun _ _ _ h => h) (Or.inl ⟨by rfl, ?_⟩) (by assumption) ?_
            rotate_left
            · intro w hSw; (try dsimp only at hSw); obtain ⟨⟨p0, p1⟩, ⟨d0, d1, d2, d3, d4, d5, d6, d7, d8, d9, d10, d11, d12⟩, f8, f9⟩ := GF.out w hSw; simp only at d0 d1 d2 d3 d4 d5 d6 d7 d8 d9 d10 d11 d12; go_simp; (try with_reducible rfl)
            simp only [List.getElem_toArray, List.getElem_cons_succ, List.getElem_cons_zero, Act.put, List.setIfInBounds_toArray, List.set_cons_zero, List.set_cons_succ]
            refine wpAnyH_take (i := 2) (v := ?_) rfl (by kernel_rfl) (by kernel_rfl) (by kernel_rfl) (fun _ _ _ h => h) (Or.inl ⟨by rfl, ?_⟩) (by assumption) ?_
            rotate_left
            · intro w hSw; (try dsimp only at hSw); obtain ⟨⟨p0, p1⟩, ⟨d0, d1, d2, d3, d4, d5, d6, d7, d8, d9, d10, d11, d12⟩, f8, f9⟩ := GF.out w hSw; simp only at d0 d1 d2 d3 d4 d5 d6 d7 d8 d9 d10 d11 d12; go_simp; (try with_reducible rfl)
            simp only [List.getElem_toArray, List.getElem_cons_succ, List.getElem_cons_zero, Act.put, List.setIfInBounds_toArray, List.set_cons_zero, List.set_cons_succ]
            refine wpAnyH_take (i := 3) (v := ?_) rfl (by kernel_rfl) (by kernel_rfl) (by kernel_rfl) (fun _ _ _ h => h) (Or.inl ⟨by rfl, ?_⟩) (by assumption) ?_
            rotate_left
            · intro w hSw; (try dsimp only at hSw); obtain ⟨⟨p0, p1⟩, ⟨d0, d1, d2, d3, d4, d5, d6, d7, d8, d9, d10, d11, d12⟩, f8, f9⟩ := GF.out w hSw; simp only at d0 d1 d2 d3 d4 d5 d6 d7 d8 d9 d10 d11 d12; go_simp; (try with_reducible rfl)
            simp only [List.getElem_toArray, List.getElem_cons_succ, List.getElem_cons_zero, Act.put, List.setIfInBounds_toArray, List.set_cons_zero, List.set_cons_succ]
            refine wpAnyH_take (i := 4) (v := ?_) rfl (by kernel_rfl) (by kernel_rfl) (by kernel_rfl) (fun _ _ _ h => h) (Or.inl ⟨by rfl, ?_⟩) (by assumption) ?_
            rotate_left
            · intro w hSw; (try dsimp only at hSw); obtain ⟨⟨p0, p1⟩, ⟨d0, d1, d2, d3, d4, d5, d6, d7, d8, d9, d10, d11, d12⟩, f8, f9⟩ := GF.out w hSw; simp only at d0 d1 d2 d3 d4 d5 d6 d7 d8 d9 d10 d11 d12; go_simp; (try with_reducible rfl)
            simp only [List.getElem_toArray, List.getElem_cons_succ, List.getElem_cons_zero, Act.put, List.setIfInBounds_toArray, List.set_cons_zero, List.set_cons_succ]
            refine wpAnyH_take (i := 5) (v := ?_) rfl (by kernel_rfl) (by kernel_rfl) (by kernel_rfl) (fun _ _ _ h => h) (Or.inl ⟨by rfl, ?_⟩) (by assumption) ?_
            rotate_left
            · intro w hSw; (try dsimp only at hSw); obtain ⟨⟨p0, p1⟩, ⟨d0, d1, d2, d3, d4, d5, d6, d7, d8, d9, d10, d11, d12⟩, f8, f9⟩ := GF.out w hSw; simp only at d0 d1 d2 d3 d4 d5 d6 d7 d8 d9 d10 d11 d12; go_simp; (try with_reducible rfl)
            simp only [List.getElem_toArray, List.getElem_cons_succ, List.getElem_cons_zero, Act.put, List.setIfInBounds_toArray, List.set_cons_zero, List.set_cons_succ]
            refine wpAnyH_take (i := 6) (v := ?_) rfl (by kernel_rfl) (by kernel_rfl) (by kernel_rfl) (fun _ _ _ h => h) (Or.inl ⟨by rfl, ?_⟩) (by assumption) ?_
            rotate_left
            · intro w hSw; (try dsimp only at hSw); obtain ⟨⟨p0, p1⟩, ⟨d0, d1, d2, d3, d4, d5, d6, d7, d8, d9, d10, d11, d12⟩, f8, f9⟩ := GF.out w hSw; simp only at d0 d1 d2 d3 d4 d5 d6 d7 d8 d9 d10 d11 d12; go_simp; (try with_reducible rfl)
            simp only [List.getElem_toArray, List.getElem_cons_succ, List.getElem_cons_zero, Act.put, List.setIfInBounds_toArray, List.set_cons_zero, List.set_cons_succ]
            refine wpAnyH_take (i := 7) (v := ?_) rfl (by kernel_rfl) (by kernel_rfl) (by kernel_rfl) (fun _ _ _ h => h) (Or.inl ⟨by rfl, ?_⟩) (by assumption) ?_
            rotate_left
            · intro w hSw; (try dsimp only at hSw); obtain ⟨⟨p0, p1⟩, ⟨d0, d1, d2, d3, d4, d5, d6, d7, d8, d9, d10, d11, d12⟩, f8, f9⟩ := GF.out w hSw; simp only at d0 d1 d2 d3 d4 d5 d6 d7 d8 d9 d10 d11 d12; go_simp; (try with_reducible rfl)
            simp only [List.getElem_toArray, List.getElem_cons_succ, List.getElem_cons_zero, Act.put, List.setIfInBounds_toArray, List.set_cons_zero, List.set_cons_succ]
            refine wpAnyH_take (i := 8) (v := ?_) rfl (by kernel_rfl) (by kernel_rfl) (by kernel_rfl) (fun _ _ _ h => h) (Or.inl ⟨by rfl, ?_⟩) (by assumption) ?_
            rotate_left
            · intro w hSw; (try dsimp only at hSw); obtain ⟨⟨p0, p1⟩, ⟨d0, d1, d2, d3, d4, d5, d6, d7, d8, d9, d10, d11, d12⟩, f8, f9⟩ := GF.out w hSw; simp only at d0 d1 d2 d3 d4 d5 d6 d7 d8 d9 d10 d11 d12; go_simp; (try with_reducible rfl)
            simp only [List.getElem_toArray, List.getElem_cons_succ, List.getElem_cons_zero, Act.put, List.setIfInBounds_toArray, List.set_cons_zero, List.set_cons_succ]
            refine wpAnyH_take (i := 9) (v := ?_) rfl (by kernel_rfl) (by kernel_rfl) (by kernel_rfl) (fun _ _ _ h => h) (Or.inl ⟨by rfl, ?_⟩) (by assumption) ?_
            rotate_left
            · intro w hSw; (try dsimp only at hSw); obtain ⟨⟨p0, p1⟩, ⟨d0, d1, d2, d3, d4, d5, d6, d7, d8, d9, d10, d11, d12⟩, f8, f9⟩ := GF.out w hSw; simp only at d0 d1 d2 d3 d4 d5 d6 d7 d8 d9 d10 d11 d12; go_simp; (try with_reducible rfl)
            simp only [List.getElem_toArray, List.getElem_cons_succ, List.getElem_cons_zero, Act.put, List.setIfInBounds_toArray, List.set_cons_zero, List.set_cons_succ]
            refine wpAnyH_take (i := 10) (v := ?_) rfl (by kernel_rfl) (by kernel_rfl) (by kernel_rfl) (fun _ _ _ h => h) (Or.inl ⟨by rfl, ?_⟩) (by assumption) ?_
            rotate_left
            · intro w hSw; (try dsimp only at hSw); obtain ⟨⟨p0, p1⟩, ⟨d0, d1, d2, d3, d4, d5, d6, d7, d8, d9, d10, d11, d12⟩, f8, f9⟩ := GF.out w hSw; simp only at d0 d1 d2 d3 d4 d5 d6 d7 d8 d9 d10 d11 d12; go_simp; (try with_reducible rfl)
            simp only [List.getElem_toArray, List.getElem_cons_succ, List.getElem_cons_zero, Act.put, List.setIfInBounds_toArray, List.set_cons_zero, List.set_cons_succ]
            refine wpAnyH_take (i := 11) (v := ?_) rfl (by kernel_rfl) (by kernel_rfl) (by kernel_rfl) (fun _ _ _ h => h) (Or.inl ⟨by rfl, ?_⟩) (by assumption) ?_
            rotate_left
            · intro w hSw; (try dsimp only at hSw); obtain ⟨⟨p0, p1⟩, ⟨d0, d1, d2, d3, d4, d5, d6, d7, d8, d9, d10, d11, d12⟩, f8, f9⟩ := GF.out w hSw; simp only at d0 d1 d2 d3 d4 d5 d6 d7 d8 d9 d10 d11 d12; go_simp; (try with_reducible rfl)
            simp only [List.getElem_toArray, List.getElem_cons_succ, List.getElem_cons_zero, Act.put, List.setIfInBounds_toArray, List.set_cons_zero, List.set_cons_succ]
            refine wpAnyH_take (i := 12) (v := ?_) rfl (by kernel_rfl) (by kernel_rfl) (by kernel_rfl) (fun _ _ _ h => h) (Or.inl ⟨by rfl, ?_⟩) (by assumption) ?_
            rotate_left
            · intro w hSw; (try dsimp only at hSw); obtain ⟨⟨p0, p1⟩, ⟨d0, d1, d2, d3, d4, d5, d6, d7, d8, d9, d10, d11, d12⟩, f8, f9⟩ := GF.out w hSw; simp only at d0 d1 d2 d3 d4 d5 d6 d7 d8 d9 d10 d11 d12; go_simp; (try with_reducible rfl)
            simp only [List.getElem_toArray, List.getElem_cons_succ, List.getElem_cons_zero, Act.put, List.setIfInBounds_toArray, List.set_cons_zero, List.set_cons_succ]
            refine wpAnyH_take (i := 13) (v := ?_) rfl (by kernel_rfl) (by kernel_rfl) (by kernel_rfl) (fun _ _ _ h => h) (Or.inl ⟨by rfl, ?_⟩) (by assumption) ?_
            rotate_left
            · intro w hSw; (try dsimp only at hSw); obtain ⟨⟨p0, p1⟩, ⟨d0, d1, d2, d3, d4, d5, d6, d7, d8, d9, d10, d11, d12⟩, f8, f9⟩ := GF.out w hSw; simp only at d0 d1 d2 d3 d4 d5 d6 d7 d8 d9 d10 d11 d12; go_simp; (try with_reducible rfl)
            simp only [List.getElem_toArray, List.getElem_cons_succ, List.getElem_cons_zero, Act.put, List.setIfInBounds_toArray, List.set_cons_zero, List.set_cons_succ]
            refine wpAnyH_take (i := 14) (v := ?_) rfl (by kernel_rfl) (by kernel_rfl) (by kernel_rfl) (fun _ _ _ h => h) (Or.inl ⟨by rfl, ?_⟩) (by assumption) ?_
            rotate_left
            · intro w hSw; (try dsimp only at hSw); obtain ⟨⟨p0, p1⟩, ⟨d0, d1, d2, d3, d4, d5, d6, d7, d8, d9, d10, d11, d12⟩, f8, f9⟩ := GF.out w hSw; simp only at d0 d1 d2 d3 d4 d5 d6 d7 d8 d9 d10 d11 d12; go_simp; (try with_reducible rfl)
            simp only [List.getElem_toArray, List.getElem_cons_succ, List.getElem_cons_zero, Act.put, List.setIfInBounds_toArray, List.set_cons_zero, List.set_cons_succ]
            refine wpAnyH_take (i := 15) (v := ?_) rfl (by kernel_rfl) (by kernel_rfl) (by kernel_rfl) (fun _ _ _ h => h) (Or.inl ⟨by rfl, ?_⟩) (by assumption) ?_
            rotate_left
            · intro w hSw; (try dsimp only at hSw); obtain ⟨⟨p0, p1⟩, ⟨d0, d1, d2, d3, d4, d5, d6, d7, d8, d9, d10, d11, d12⟩, f8, f9⟩ := GF.out w hSw; simp only at d0 d1 d2 d3 d4 d5 d6 d7 d8 d9 d10 d11 d12; go_simp; (try with_reducible rfl)
            simp only [List.getElem_toArray, List.getElem_cons_succ, List.getElem_cons_zero, Act.put, List.setIfInBounds_toArray, List.set_cons_zero, List.set_cons_succ]
            refine wpAnyH_take (i := 16) (v := ?_) rfl (by kernel_rfl) (by kernel_rfl) (by kernel_rfl) (fun _ _ _ h => h) (Or.inl ⟨by rfl, ?_⟩) (by assumption) ?_
            rotate_left
            · intro w hSw; (try dsimp only at hSw); obtain ⟨⟨p0, p1⟩, ⟨d0, d1, d2, d3, d4, d5, d6, d7, d8, d9, d10, d11, d12⟩, f8, f9⟩ := GF.out w hSw; simp only at d0 d1 d2 d3 d4 d5 d6 d7 d8 d9 d10 d11 d12; go_simp; (try with_reducible rfl)
            simp only [List.getElem_toArray, List.getElem_cons_succ, List.getElem_cons_zero, Act.put, List.setIfInBounds_toArray, List.set_cons_zero, List.set_cons_succ]
            refine wpAnyH_take (i := 17) (v := ?_) rfl (by kernel_rfl) (by kernel_rfl) (by kernel_rfl) (fun _ _ _ h => h) (Or.inl ⟨by rfl, ?_⟩) (by assumption) ?_
            rotate_left
            · intro w hSw; (try dsimp only at hSw); obtain ⟨⟨p0, p1⟩, ⟨d0, d1, d2, d3, d4, d5, d6, d7, d8, d9, d10, d11, d12⟩, f8, f9⟩ := GF.out w hSw; simp only at d0 d1 d2 d3 d4 d5 d6 d7 d8 d9 d10 d11 d12; go_simp; (try with_reducible rfl)
            simp only [List.getElem_toArray, List.getElem_cons_succ, List.getElem_cons_zero, Act.put, List.setIfInBounds_toArray, List.set_cons_zero, List.set_cons_succ]
            refine wpAnyH_take (i := 18) (v := ?_) rfl (by kernel_rfl) (by kernel_rfl) (by kernel_rfl) (fun _ _ _ h => h) (Or.inl ⟨by rfl, ?_⟩) (by assumption) ?_
            rotate_left
            · intro w hSw; (try dsimp only at hSw); obtain ⟨⟨p0, p1⟩, ⟨d0, d1, d2, d3, d4, d5, d6, d7, d8, d9, d10, d11, d12⟩, f8, f9⟩ := GF.out w hSw; simp only at d0 d1 d2 d3 d4 d5 d6 d7 d8 d9 d10 d11 d12; go_simp; (try with_reducible rfl)
            simp only [List.getElem_toArray, List.getElem_cons_succ, List.getElem_cons_zero, Act.put, List.setIfInBounds_toArray, List.set_cons_zero, List.set_cons_succ]
            refine wpAnyH_take (i := 19) (v := ?_) rfl (by kernel_rfl) (by kernel_rfl) (by kernel_rfl) (fun _ _ _ h => h) (Or.inl ⟨by rfl, ?_⟩) (by assumption) ?_
            rotate_left
            · intro w hSw; (try dsimp only at hSw); obtain ⟨⟨p0, p1⟩, ⟨d0, d1, d2, d3, d4, d5, d6, d7, d8, d9, d10, d11, d12⟩, f8, f9⟩ := GF.out w hSw; simp only at d0 d1 d2 d3 d4 d5 d6 d7 d8 d9 d10 d11 d12; go_simp; (try with_reducible rfl)
            simp only [List.getElem_toArray, List.getElem_cons_succ, List.getElem_cons_zero, Act.put, List.setIfInBounds_toArray, List.set_cons_zero, List.set_cons_succ]
            refine wpAnyH_take (i := 20) (v := ?_) rfl (by kernel_rfl) (by kernel_rfl) (by kernel_rfl) (fun _ _ _ h => h) (Or.inl ⟨by rfl, ?_⟩) (by assumption) ?_
            rotate_left
            · intro w hSw; (try dsimp only at hSw); obtain ⟨⟨p0, p1⟩, ⟨d0, d1, d2, d3, d4, d5, d6, d7, d8, d9, d10, d11, d12⟩, f8, f9⟩ := GF.out w hSw; simp only at d0 d1 d2 d3 d4 d5 d6 d7 d8 d9 d10 d11 d12; go_simp; (try with_reducible rfl)
            simp only [List.getElem_toArray, List.getElem_cons_succ, List.getElem_cons_zero, Act.put, List.setIfInBounds_toArray, List.set_cons_zero, List.set_cons_succ]
            refine wpAnyH_ready (rs := [21]) (by kernel_rfl) (by simp) ?_
            refine AllReadyH.cons rfl (fun K hK => ?_) AllReadyH.nil
            go_simp
            (go_at_call 17; (refine (CTZ.out _ (below_drew (Below.refl _ _))).mono ?_); rintro z w8 ⟨rfl, b8⟩; have B8 : Hid (Below wr.heap.size wr w8) := Lib.hid ((below_drew (Below.refl _ _)).trans b8); clear b8)
            refine hK.out _ _ ?_ (fun hHeld1 => ?_)
            · exact B8.out
            clear hK K hHeld0
            try simp only [List.getElem_toArray, List.getElem_cons_succ, List.getElem_cons_zero, Act.put, List.setIfInBounds_toArray, List.set_cons_zero, List.set_cons_succ]
            refine wpAnyH_take (i := 22) (v := ?_) rfl (by kernel_rfl) (by kernel_rfl) (by kernel_rfl) (fun _ _ _ h => h) (Or.inl ⟨by rfl, ?_⟩) (by assumption) ?_
            rotate_left
            · intro w hSw; (try dsimp only at hSw); obtain ⟨⟨p0, p1⟩, ⟨d0, d1, d2, d3, d4, d5, d6, d7, d8, d9, d10, d11, d12⟩, f8, f9⟩ := GF.out w hSw; simp only at d0 d1 d2 d3 d4 d5 d6 d7 d8 d9 d10 d11 d12; go_simp; (try with_reducible rfl)
            simp only [List.getElem_toArray, List.getElem_cons_succ, List.getElem_cons_zero, Act.put, List.setIfInBounds_toArray, List.set_cons_zero, List.set_cons_succ]
            refine wpAnyH_take (i := 23) (v := ?_) rfl (by kernel_rfl) (by kernel_rfl) (by kernel_rfl) (fun _ _ _ h => h) (Or.inl ⟨by rfl, ?_⟩) (by assumption) ?_
            rotate_left
            · intro w hSw; (try dsimp only at hSw); obtain ⟨⟨p0, p1⟩, ⟨d0, d1, d2, d3, d4, d5, d6, d7, d8, d9, d10, d11, d12⟩, f8, f9⟩ := GF.out w hSw; simp only at d0 d1 d2 d3 d4 d5 d6 d7 d8 d9 d10 d11 d12; go_simp; (try with_reducible rfl)
            try simp only [List.getElem_toArray, List.getElem_cons_succ, List.getElem_cons_zero, Act.put, List.setIfInBounds_toArray, List.set_cons_zero, List.set_cons_succ]
            refine wpAnyH_done (by kernel_rfl) ?_ _
            go_wp2_with fail
            go_roundw
            case rel => exact ⟨j + 1, by omega, by go_num, BJ.out.trans (B8.out.mono BJ.out.size)⟩
            case measure => simp [intOf]; omega
          · have hjl' : ¬ (j : Int) < ln := by omega
            obtain rfl : j = ln := by omega
            have LKZ : Hid (∀ wq, Below wr.heap.size wr wq → Calls Tryd.prog 18 #[.agg #[.slice (some ⟨g, 0, none⟩) p.ps.length cp, .slice ap' p.ss.length cp'], .int .i64 ((k : Int) + 1), .int .i64 tt] wq fun r w' => r = .returned (.bool (decide (tt < xlock))) ∧ Below wq.heap.size wq w') := Lib.hid (fun wq b => LKY.out wq (B5.out.trans ((bj.trans (b.mono bj.size)).mono B5.out.size)))
            have GF : Hid (∀ wq, Below wr.heap.size wr wq → (wq.cell? ⟨w2.heap.size, 0, none⟩ = some (.slice (some ⟨g, 0, none⟩) p.ps.length cp) ∧ wq.cell? ⟨w2.heap.size, 1, none⟩ = some (.slice ap' p.ss.length cp')) ∧ Per.At wq xb ⟨(k : Int) + 1, xmail, xver, xsalt, xchk, xvers, xmiss, xlock, xc0, xc1, xc2, xc3, xc4⟩ ∧ (j < 5 → wq.cell? ⟨xb, 8 + j, none⟩ = some (.string ⟨#[]⟩))) := Lib.hid (fun wq b => by
              obtain ⟨f1, f2, f3⟩ := F5.out wq (bj.trans (b.mono bj.size))
              refine ⟨f1, f2, fun h5 => ?_⟩
              have e := HLE.out h5
              rw [← e]
              exact f3 j h5)
            clear bj HLK HLE
            generalize hbl : decide (tt < xlock) = bl at *
            by_cases h5 : j < 5
            · have h5d : decide ((j : Int) < 5) = true := decide_eq_true (by omega)
              have h5' : (j : Int) < 5 := by omega
              have hj0 : (0 : Int) ≤ j := by omega
              go_wp2_with fail
              refine wp_region_held_drew (S := fun w' => Below wr.heap.size wr w') (by kernel_rfl) ?_ (fun hHeld0 => ?_)
              · exact below_drew (Below.refl _ _)
              refine wpAnyH_take (i := 0) (v := ?_) rfl (by kernel_rfl) (by kernel_rfl) (by kernel_rfl) (fun _ _ _ h => h) (Or.inl ⟨by rfl, ?_⟩) (by assumption) ?_
              rotate_left
              · intro w hSw; (try dsimp only at hSw); obtain ⟨⟨p0, p1⟩, ⟨d0, d1, d2, d3, d4, d5, d6, d7, d8, d9, d10, d11, d12⟩, f8⟩ := GF.out w hSw; have f8 := f8 h5; simp only at d0 d1 d2 d3 d4 d5 d6 d7 d8 d9 d10 d11 d12; go_simp; (try with_reducible rfl)
              simp only [List.getElem_toArray, List.getElem_cons_zero, Act.put, List.setIfInBounds_toArray, List.set_cons_zero, List.set_cons_succ]
              refine wpAnyH_take (i := 1) (v := ?_) rfl (by kernel_rfl) (by kernel_rfl) (by kernel_rfl) (fun _ _ _ h => h) (Or.inl ⟨by rfl, ?_⟩) (by assumption) ?_
              rotate_left
              · intro w hSw; (try dsimp only at hSw); obtain ⟨⟨p0, p1⟩, ⟨d0, d1, d2, d3, d4, d5, d6, d7, d8, d9, d10, d11, d12⟩, f8⟩ := GF.out w hSw; have f8 := f8 h5; simp only at d0 d1 d2 d3 d4 d5 d6 d7 d8 d9 d10 d11 d12; go_simp; (try with_reducible rfl)
              simp only [List.getElem_toArray, List.getElem_cons_succ, List.getElem_cons_zero, Act.put, List.setIfInBounds_toArray, List.set_cons_zero, List.set_cons_succ]
              refine wpAnyH_take (i := 2) (v := ?_) rfl (by kernel_rfl) (by kernel_rfl) (by kernel_rfl) (fun _ _ _ h => h) (Or.inl ⟨by rfl, ?_⟩) (by assumption) ?_
              rotate_left
              · intro w hSw; (try dsimp only at hSw); obtain ⟨⟨p0, p1⟩, ⟨d0, d1, d2, d3, d4, d5, d6, d7, d8, d9, d10, d11, d12⟩, f8⟩ := GF.out w hSw; have f8 := f8 h5; simp only at d0 d1 d2 d3 d4 d5 d6 d7 d8 d9 d10 d11 d12; go_simp; (try with_reducible rfl)
              simp only [List.getElem_toArray, List.getElem_cons_succ, List.getElem_cons_zero, Act.put, List.setIfInBounds_toArray, List.set_cons_zero, List.set_cons_succ]
              refine wpAnyH_take (i := 3) (v := ?_) rfl (by kernel_rfl) (by kernel_rfl) (by kernel_rfl) (fun _ _ _ h => h) (Or.inl ⟨by rfl, ?_⟩) (by assumption) ?_
              rotate_left
              · intro w hSw; (try dsimp only at hSw); obtain ⟨⟨p0, p1⟩, ⟨d0, d1, d2, d3, d4, d5, d6, d7, d8, d9, d10, d11, d12⟩, f8⟩ := GF.out w hSw; have f8 := f8 h5; simp only at d0 d1 d2 d3 d4 d5 d6 d7 d8 d9 d10 d11 d12; go_simp; (try with_reducible rfl)
              simp only [List.getElem_toArray, List.getElem_cons_succ, List.getElem_cons_zero, Act.put, List.setIfInBounds_toArray, List.set_cons_zero, List.set_cons_succ]
              refine wpAnyH_take (i := 4) (v := ?_) rfl (by kernel_rfl) (by kernel_rfl) (by kernel_rfl) (fun _ _ _ h => h) (Or.inl ⟨by rfl, ?_⟩) (by assumption) ?_
              rotate_left
              · intro w hSw; (try dsimp only at hSw); obtain ⟨⟨p0, p1⟩, ⟨d0, d1, d2, d3, d4, d5, d6, d7, d8, d9, d10, d11, d12⟩, f8⟩ := GF.out w hSw; have f8 := f8 h5; simp only at d0 d1 d2 d3 d4 d5 d6 d7 d8 d9 d10 d11 d12; go_simp; (try with_reducible rfl)
              simp only [List.getElem_toArray, List.getElem_cons_succ, List.getElem_cons_zero, Act.put, List.setIfInBounds_toArray, List.set_cons_zero, List.set_cons_succ]
              refine wpAnyH_take (i := 5) (v := ?_) rfl (by kernel_rfl) (by kernel_rfl) (by kernel_rfl) (fun _ _ _ h => h) (Or.inl ⟨by rfl, ?_⟩) (by assumption) ?_
              rotate_left
              · intro w hSw; (try dsimp only at hSw); obtain ⟨⟨p0, p1⟩, ⟨d0, d1, d2, d3, d4, d5, d6, d7, d8, d9, d10, d11, d12⟩, f8⟩ := GF.out w hSw; have f8 := f8 h5; simp only at d0 d1 d2 d3 d4 d5 d6 d7 d8 d9 d10 d11 d12; go_simp; (try with_reducible rfl)
              simp only [List.getElem_toArray, List.getElem_cons_succ, List.getElem_cons_zero, Act.put, List.setIfInBounds_toArray, List.set_cons_zero, List.set_cons_succ]
              refine wpAnyH_take (i := 6) (v := ?_) rfl (by kernel_rfl) (by kernel_rfl) (by kernel_rfl) (fun _ _ _ h => h) (Or.inl ⟨by rfl, ?_⟩) (by assumption) ?_
              rotate_left
              · intro w hSw; (try dsimp only at hSw); obtain ⟨⟨p0, p1⟩, ⟨d0, d1, d2, d3, d4, d5, d6, d7, d8, d9, d10, d11, d12⟩, f8⟩ := GF.out w hSw; have f8 := f8 h5; simp only at d0 d1 d2 d3 d4 d5 d6 d7 d8 d9 d10 d11 d12; go_simp; (try with_reducible rfl)
              simp only [List.getElem_toArray, List.getElem_cons_succ, List.getElem_cons_zero, Act.put, List.setIfInBounds_toArray, List.set_cons_zero, List.set_cons_succ]
              refine wpAnyH_take (i := 7) (v := ?_) rfl (by kernel_rfl) (by kernel_rfl) (by kernel_rfl) (fun _ _ _ h => h) (Or.inl ⟨by rfl, ?_⟩) (by assumption) ?_
              rotate_left
              · intro w hSw; (try dsimp only at hSw); obtain ⟨⟨p0, p1⟩, ⟨d0, d1, d2, d3, d4, d5, d6, d7, d8, d9, d10, d11, d12⟩, f8⟩ := GF.out w hSw; have f8 := f8 h5; simp only at d0 d1 d2 d3 d4 d5 d6 d7 d8 d9 d10 d11 d12; go_simp; (try with_reducible rfl)
              simp only [List.getElem_toArray, List.getElem_cons_succ, List.getElem_cons_zero, Act.put, List.setIfInBounds_toArray, List.set_cons_zero, List.set_cons_succ]
              refine wpAnyH_take (i := 8) (v := ?_) rfl (by kernel_rfl) (by kernel_rfl) (by kernel_rfl) (fun _ _ _ h => h) (Or.inl ⟨by rfl, ?_⟩) (by assumption) ?_
              rotate_left
              · intro w hSw; (try dsimp only at hSw); obtain ⟨⟨p0, p1⟩, ⟨d0, d1, d2, d3, d4, d5, d6, d7, d8, d9, d10, d11, d12⟩, f8⟩ := GF.out w hSw; have f8 := f8 h5; simp only at d0 d1 d2 d3 d4 d5 d6 d7 d8 d9 d10 d11 d12; go_simp; (try with_reducible rfl)
              simp only [List.getElem_toArray, List.getElem_cons_succ, List.getElem_cons_zero, Act.put, List.setIfInBounds_toArray, List.set_cons_zero, List.set_cons_succ]
              refine wpAnyH_take (i := 9) (v := ?_) rfl (by kernel_rfl) (by kernel_rfl) (by kernel_rfl) (fun _ _ _ h => h) (Or.inl ⟨by rfl, ?_⟩) (by assumption) ?_
              rotate_left
              · intro w hSw; (try dsimp only at hSw); obtain ⟨⟨p0, p1⟩, ⟨d0, d1, d2, d3, d4, d5, d6, d7, d8, d9, d10, d11, d12⟩, f8⟩ := GF.out w hSw; have f8 := f8 h5; simp only at d0 d1 d2 d3 d4 d5 d6 d7 d8 d9 d10 d11 d12; go_simp; (try with_reducible rfl)
              simp only [List.getElem_toArray, List.getElem_cons_succ, List.getElem_cons_zero, Act.put, List.setIfInBounds_toArray, List.set_cons_zero, List.set_cons_succ]
              refine wpAnyH_take (i := 10) (v := ?_) rfl (by kernel_rfl) (by kernel_rfl) (by kernel_rfl) (fun _ _ _ h => h) (Or.inl ⟨by rfl, ?_⟩) (by assumption) ?_
              rotate_left
              · intro w hSw; (try dsimp only at hSw); obtain ⟨⟨p0, p1⟩, ⟨d0, d1, d2, d3, d4, d5, d6, d7, d8, d9, d10, d11, d12⟩, f8⟩ := GF.out w hSw; have f8 := f8 h5; simp only at d0 d1 d2 d3 d4 d5 d6 d7 d8 d9 d10 d11 d12; go_simp; (try with_reducible rfl)
              simp only [List.getElem_toArray, List.getElem_cons_succ, List.getElem_cons_zero, Act.put, List.setIfInBounds_toArray, List.set_cons_zero, List.set_cons_succ]
              refine wpAnyH_take (i := 11) (v := ?_) rfl (by kernel_rfl) (by kernel_rfl) (by kernel_rfl) (fun _ _ _ h => h) (Or.inl ⟨by rfl, ?_⟩) (by assumption) ?_
              rotate_left
              · intro w hSw; (try dsimp only at hSw); obtain ⟨⟨p0, p1⟩, ⟨d0, d1, d2, d3, d4, d5, d6, d7, d8, d9, d10, d11, d12⟩, f8⟩ := GF.out w hSw; have f8 := f8 h5; simp only at d0 d1 d2 d3 d4 d5 d6 d7 d8 d9 d10 d11 d12; go_simp; (try with_reducible rfl)
              simp only [List.getElem_toArray, List.getElem_cons_succ, List.getElem_cons_zero, Act.put, List.setIfInBounds_toArray, List.set_cons_zero, List.set_cons_succ]
              refine wpAnyH_take (i := 12) (v := ?_) rfl (by kernel_rfl) (by kernel_rfl) (by kernel_rfl) (fun _ _ _ h => h) (Or.inl ⟨by rfl, ?_⟩) (by assumption) ?_
              rotate_left
              · intro w hSw; (try dsimp only at hSw); obtain ⟨⟨p0, p1⟩, ⟨d0, d1, d2, d3, d4, d5, d6, d7, d8, d9, d10, d11, d12⟩, f8⟩ := GF.out w hSw; have f8 := f8 h5; simp only at d0 d1 d2 d3 d4 d5 d6 d7 d8 d9 d10 d11 d12; go_simp; (try with_reducible rfl)
              simp only [List.getElem_toArray, List.getElem_cons_succ, List.getElem_cons_zero, Act.put, List.setIfInBounds_toArray, List.set_cons_zero, List.set_cons_succ]
              refine wpAnyH_take (i := 13) (v := ?_) rfl (by kernel_rfl) (by kernel_rfl) (by kernel_rfl) (fun _ _ _ h => h) (Or.inl ⟨by rfl, ?_⟩) (by assumption) ?_
              rotate_left
              · intro w hSw; (try dsimp only at hSw); obtain ⟨⟨p0, p1⟩, ⟨d0, d1, d2, d3, d4, d5, d6, d7, d8, d9, d10, d11, d12⟩, f8⟩ := GF.out w hSw; have f8 := f8 h5; simp only at d0 d1 d2 d3 d4 d5 d6 d7 d8 d9 d10 d11 d12; go_simp; (try with_reducible rfl)
              simp only [List.getElem_toArray, List.getElem_cons_succ, List.getElem_cons_zero, Act.put, List.setIfInBounds_toArray, List.set_cons_zero, List.set_cons_succ]
              refine wpAnyH_take (i := 14) (v := ?_) rfl (by kernel_rfl) (by kernel_rfl) (by kernel_rfl) (fun _ _ _ h => h) (Or.inl ⟨by rfl, ?_⟩) (by assumption) ?_
              rotate_left
              · intro w hSw; (try dsimp only at hSw); obtain ⟨⟨p0, p1⟩, ⟨d0, d1, d2, d3, d4, d5, d6, d7, d8, d9, d10, d11, d12⟩, f8⟩ := GF.out w hSw; have f8 := f8 h5; simp only at d0 d1 d2 d3 d4 d5 d6 d7 d8 d9 d10 d11 d12; go_simp; (try with_reducible rfl)
              simp only [List.getElem_toArray, List.getElem_cons_succ, List.getElem_cons_zero, Act.put, List.setIfInBounds_toArray, List.set_cons_zero, List.set_cons_succ]
              refine wpAnyH_take (i := 15) (v := ?_) rfl (by kernel_rfl) (by kernel_rfl) (by kernel_rfl) (fun _ _ _ h => h) (Or.inl ⟨by rfl, ?_⟩) (by assumption) ?_
              rotate_left
              · intro w hSw; (try dsimp only at hSw); obtain ⟨⟨p0, p1⟩, ⟨d0, d1, d2, d3, d4, d5, d6, d7, d8, d9, d10, d11, d12⟩, f8⟩ := GF.out w hSw; have f8 := f8 h5; simp only at d0 d1 d2 d3 d4 d5 d6 d7 d8 d9 d10 d11 d12; go_simp; (try with_reducible rfl)
              simp only [List.getElem_toArray, List.getElem_cons_succ, List.getElem_cons_zero, Act.put, List.setIfInBounds_toArray, List.set_cons_zero, List.set_cons_succ]
              refine wpAnyH_take (i := 17) (v := ?_) rfl (by kernel_rfl) (by kernel_rfl) (by kernel_rfl) (fun _ _ _ h => h) (Or.inl ⟨by rfl, ?_⟩) (by assumption) ?_
              rotate_left
              · intro w hSw; (try dsimp only at hSw); obtain ⟨⟨p0, p1⟩, ⟨d0, d1, d2, d3, d4, d5, d6, d7, d8, d9, d10, d11, d12⟩, f8⟩ := GF.out w hSw; have f8 := f8 h5; simp only at d0 d1 d2 d3 d4 d5 d6 d7 d8 d9 d10 d11 d12; go_simp; (try with_reducible rfl)
              simp only [List.getElem_toArray, List.getElem_cons_succ, List.getElem_cons_zero, Act.put, List.setIfInBounds_toArray, List.set_cons_zero, List.set_cons_succ]
              refine wpAnyH_take (i := 18) (v := ?_) rfl (by kernel_rfl) (by kernel_rfl) (by kernel_rfl) (fun _ _ _ h => h) (Or.inl ⟨by rfl, ?_⟩) (by assumption) ?_
              rotate_left
              · intro w hSw; (try dsimp only at hSw); obtain ⟨⟨p0, p1⟩, ⟨d0, d1, d2, d3, d4, d5, d6, d7, d8, d9, d10, d11, d12⟩, f8⟩ := GF.out w hSw; have f8 := f8 h5; simp only at d0 d1 d2 d3 d4 d5 d6 d7 d8 d9 d10 d11 d12; go_simp; (try with_reducible rfl)
              simp only [List.getElem_toArray, List.getElem_cons_succ, List.getElem_cons_zero, Act.put, List.setIfInBounds_toArray, List.set_cons_zero, List.set_cons_succ]
              refine wpAnyH_take (i := 19) (v := ?_) rfl (by kernel_rfl) (by kernel_rfl) (by kernel_rfl) (fun _ _ _ h => h) (Or.inl ⟨by rfl, ?_⟩) (by assumption) ?_
              rotate_left
              · intro w hSw; (try dsimp only at hSw); obtain ⟨⟨p0, p1⟩, ⟨d0, d1, d2, d3, d4, d5, d6, d7, d8, d9, d10, d11, d12⟩, f8⟩ := GF.out w hSw; have f8 := f8 h5; simp only at d0 d1 d2 d3 d4 d5 d6 d7 d8 d9 d10 d11 d12; go_simp; (try with_reducible rfl)
              simp only [List.getElem_toArray, List.getElem_cons_succ, List.getElem_cons_zero, Act.put, List.setIfInBounds_toArray, List.set_cons_zero, List.set_cons_succ]
              refine wpAnyH_take (i := 20) (v := ?_) rfl (by kernel_rfl) (by kernel_rfl) (by kernel_rfl) (fun _ _ _ h => h) (Or.inl ⟨by rfl, ?_⟩) (by assumption) ?_
              rotate_left
              · intro w hSw; (try dsimp only at hSw); obtain ⟨⟨p0, p1⟩, ⟨d0, d1, d2, d3, d4, d5, d6, d7, d8, d9, d10, d11, d12⟩, f8⟩ := GF.out w hSw; have f8 := f8 h5; simp only at d0 d1 d2 d3 d4 d5 d6 d7 d8 d9 d10 d11 d12; go_simp; (try with_reducible rfl)
              simp only [List.getElem_toArray, List.getElem_cons_succ, List.getElem_cons_zero, Act.put, List.setIfInBounds_toArray, List.set_cons_zero, List.set_cons_succ]
              refine wpAnyH_ready (rs := [16]) (by kernel_rfl) (by simp) ?_
              refine AllReadyH.cons rfl (fun K hK => ?_) AllReadyH.nil
              go_simp
              (go_at_call 18; (refine (LKZ.out _ (below_drew (Below.refl _ _))).mono ?_); rintro z w8 ⟨rfl, b8⟩; have B8 : Hid (Below wr.heap.size wr w8) := Lib.hid ((below_drew (Below.refl _ _)).trans b8); clear b8)
              refine hK.out _ _ ?_ (fun hHeld1 => ?_)
              · exact B8.out
              clear hK K hHeld0
              try simp only [List.getElem_toArray, List.getElem_cons_succ, List.getElem_cons_zero, Act.put, List.setIfInBounds_toArray, List.set_cons_zero, List.set_cons_succ]
              refine wpAnyH_take (i := 21) (v := ?_) rfl (by kernel_rfl) (by kernel_rfl) (by kernel_rfl) (fun _ _ _ h => h) (Or.inl ⟨by rfl, ?_⟩) (by assumption) ?_
              rotate_left
              · intro w hSw; (try dsimp only at hSw); obtain ⟨⟨p0, p1⟩, ⟨d0, d1, d2, d3, d4, d5, d6, d7, d8, d9, d10, d11, d12⟩, f8⟩ := GF.out w hSw; have f8 := f8 h5; simp only at d0 d1 d2 d3 d4 d5 d6 d7 d8 d9 d10 d11 d12; go_simp; (try with_reducible rfl)
              simp only [List.getElem_toArray, List.getElem_cons_succ, List.getElem_cons_zero, Act.put, List.setIfInBounds_toArray, List.set_cons_zero, List.set_cons_succ]
              refine wpAnyH_take (i := 22) (v := ?_) rfl (by kernel_rfl) (by kernel_rfl) (by kernel_rfl) (fun _ _ _ h => h) (Or.inl ⟨by rfl, ?_⟩) (by assumption) ?_
              rotate_left
              · intro w hSw; (try dsimp only at hSw); obtain ⟨⟨p0, p1⟩, ⟨d0, d1, d2, d3, d4, d5, d6, d7, d8, d9, d10, d11, d12⟩, f8⟩ := GF.out w hSw; have f8 := f8 h5; simp only at d0 d1 d2 d3 d4 d5 d6 d7 d8 d9 d10 d11 d12; go_simp; (try with_reducible rfl)
              try simp only [List.getElem_toArray, List.getElem_cons_succ, List.getElem_cons_zero, Act.put, List.setIfInBounds_toArray, List.set_cons_zero, List.set_cons_succ]
              refine wpAnyH_done (by kernel_rfl) ?_ _
              go_wp2_with fail
              go_roundw
              case rel => exact ⟨k + 1, by omega, by go_num, B5.out.trans ((BJ.out.trans (B8.out.mono BJ.out.size)).mono B5.out.size)⟩
              case measure => simp [intOf]; omega
            · have h5d : decide ((j : Int) < 5) = false := decide_eq_false (by omega)
              go_wp2_with fail
              refine wp_region_held_drew (S := fun w' => Below wr.heap.size wr w') (by kernel_rfl) ?_ (fun hHeld0 => ?_)
              · exact below_drew (Below.refl _ _)
              refine wpAnyH_take (i := 0) (v := ?_) rfl (by kernel_rfl) (by kernel_rfl) (by kernel_rfl) (fun _ _ _ h => h) (Or.inl ⟨by rfl, ?_⟩) (by assumption) ?_
              rotate_left
              · intro w hSw; (try dsimp only at hSw); obtain ⟨⟨p0, p1⟩, ⟨d0, d1, d2, d3, d4, d5, d6, d7, d8, d9, d10, d11, d12⟩, _⟩ := GF.out w hSw; simp only at d0 d1 d2 d3 d4 d5 d6 d7 d8 d9 d10 d11 d12; go_simp; (try with_reducible rfl)
              simp only [List.getElem_toArray, List.getElem_cons_zero, Act.put, List.setIfInBounds_toArray, List.set_cons_zero, List.set_cons_succ]
              refine wpAnyH_take (i := 1) (v := ?_) rfl (by kernel_rfl) (by kernel_rfl) (by kernel_rfl) (fun _ _ _ h => h) (Or.inl ⟨by rfl, ?_⟩) (by assumption) ?_
              rotate_left
              · intro w hSw; (try dsimp only at hSw); obtain ⟨⟨p0, p1⟩, ⟨d0, d1, d2, d3, d4, d5, d6, d7, d8, d9, d10, d11, d12⟩, _⟩ := GF.out w hSw; simp only at d0 d1 d2 d3 d4 d5 d6 d7 d8 d9 d10 d11 d12; go_simp; (try with_reducible rfl)
              simp only [List.getElem_toArray, List.getElem_cons_succ, List.getElem_cons_zero, Act.put, List.setIfInBounds_toArray, List.set_cons_zero, List.set_cons_succ]
              refine wpAnyH_take (i := 2) (v := ?_) rfl (by kernel_rfl) (by kernel_rfl) (by kernel_rfl) (fun _ _ _ h => h) (Or.inl ⟨by rfl, ?_⟩) (by assumption) ?_
              rotate_left
              · intro w hSw; (try dsimp only at hSw); obtain ⟨⟨p0, p1⟩, ⟨d0, d1, d2, d3, d4, d5, d6, d7, d8, d9, d10, d11, d12⟩, _⟩ := GF.out w hSw; simp only at d0 d1 d2 d3 d4 d5 d6 d7 d8 d9 d10 d11 d12; go_simp; (try with_reducible rfl)
              simp only [List.getElem_toArray, List.getElem_cons_succ, List.getElem_cons_zero, Act.put, List.setIfInBounds_toArray, List.set_cons_zero, List.set_cons_succ]
              refine wpAnyH_take (i := 3) (v := ?_) rfl (by kernel_rfl) (by kernel_rfl) (by kernel_rfl) (fun _ _ _ h => h) (Or.inl ⟨by rfl, ?_⟩) (by assumption) ?_
              rotate_left
              · intro w hSw; (try dsimp only at hSw); obtain ⟨⟨p0, p1⟩, ⟨d0, d1, d2, d3, d4, d5, d6, d7, d8, d9, d10, d11, d12⟩, _⟩ := GF.out w hSw; simp only at d0 d1 d2 d3 d4 d5 d6 d7 d8 d9 d10 d11 d12; go_simp; (try with_reducible rfl)
              simp only [List.getElem_toArray, List.getElem_cons_succ, List.getElem_cons_zero, Act.put, List.setIfInBounds_toArray, List.set_cons_zero, List.set_cons_succ]
              refine wpAnyH_take (i := 4) (v := undef) rfl (by kernel_rfl) (by kernel_rfl) (by kernel_rfl) (fun _ _ _ h => h) (Or.inr ⟨by rfl, rfl⟩) (by assumption) ?_
              simp only [List.getElem_toArray, List.getElem_cons_succ, List.getElem_cons_zero, Act.put, List.setIfInBounds_toArray, List.set_cons_zero, List.set_cons_succ]
              refine wpAnyH_take (i := 5) (v := undef) rfl (by kernel_rfl) (by kernel_rfl) (by kernel_rfl) (fun _ _ _ h => h) (Or.inr ⟨by rfl, rfl⟩) (by assumption) ?_
              simp only [List.getElem_toArray, List.getElem_cons_succ, List.getElem_cons_zero, Act.put, List.setIfInBounds_toArray, List.set_cons_zero, List.set_cons_succ]
              refine wpAnyH_take (i := 6) (v := undef) rfl (by kernel_rfl) (by kernel_rfl) (by kernel_rfl) (fun _ _ _ h => h) (Or.inr ⟨by rfl, rfl⟩) (by assumption) ?_
              simp only [List.getElem_toArray, List.getElem_cons_succ, List.getElem_cons_zero, Act.put, List.setIfInBounds_toArray, List.set_cons_zero, List.set_cons_succ]
              refine wpAnyH_take (i := 7) (v := undef) rfl (by kernel_rfl) (by kernel_rfl) (by kernel_rfl) (fun _ _ _ h => h) (Or.inr ⟨by rfl, rfl⟩) (by assumption) ?_
              simp only [List.getElem_toArray, List.getElem_cons_succ, List.getElem_cons_zero, Act.put, List.setIfInBounds_toArray, List.set_cons_zero, List.set_cons_succ]
              refine wpAnyH_take (i := 8) (v := undef) rfl (by kernel_rfl) (by kernel_rfl) (by kernel_rfl) (fun _ _ _ h => h) (Or.inr ⟨by rfl, rfl⟩) (by assumption) ?_
              simp only [List.getElem_toArray, List.getElem_cons_succ, List.getElem_cons_zero, Act.put, List.setIfInBounds_toArray, List.set_cons_zero, List.set_cons_succ]
              refine wpAnyH_take (i := 9) (v := undef) rfl (by kernel_rfl) (by kernel_rfl) (by kernel_rfl) (fun _ _ _ h => h) (Or.inr ⟨by rfl, rfl⟩) (by assumption) ?_
              simp only [List.getElem_toArray, List.getElem_cons_succ, List.getElem_cons_zero, Act.put, List.setIfInBounds_toArray, List.set_cons_zero, List.set_cons_succ]
              refine wpAnyH_take (i := 10) (v := ?_) rfl (by kernel_rfl) (by kernel_rfl) (by kernel_rfl) (fun _ _ _ h => h) (Or.inl ⟨by rfl, ?_⟩) (by assumption) ?_
              rotate_left
              · intro w hSw; (try dsimp only at hSw); obtain ⟨⟨p0, p1⟩, ⟨d0, d1, d2, d3, d4, d5, d6, d7, d8, d9, d10, d11, d12⟩, _⟩ := GF.out w hSw; simp only at d0 d1 d2 d3 d4 d5 d6 d7 d8 d9 d10 d11 d12; go_simp; (try with_reducible rfl)
              simp only [List.getElem_toArray, List.getElem_cons_succ, List.getElem_cons_zero, Act.put, List.setIfInBounds_toArray, List.set_cons_zero, List.set_cons_succ]
              refine wpAnyH_take (i := 11) (v := ?_) rfl (by kernel_rfl) (by kernel_rfl) (by kernel_rfl) (fun _ _ _ h => h) (Or.inl ⟨by rfl, ?_⟩) (by assumption) ?_
              rotate_left
              · intro w hSw; (try dsimp only at hSw); obtain ⟨⟨p0, p1⟩, ⟨d0, d1, d2, d3, d4, d5, d6, d7, d8, d9, d10, d11, d12⟩, _⟩ := GF.out w hSw; simp only at d0 d1 d2 d3 d4 d5 d6 d7 d8 d9 d10 d11 d12; go_simp; (try with_reducible rfl)
              simp only [List.getElem_toArray, List.getElem_cons_succ, List.getElem_cons_zero, Act.put, List.setIfInBounds_toArray, List.set_cons_zero, List.set_cons_succ]
              refine wpAnyH_take (i := 12) (v := ?_) rfl (by kernel_rfl) (by kernel_rfl) (by kernel_rfl) (fun _ _ _ h => h) (Or.inl ⟨by rfl, ?_⟩) (by assumption) ?_
              rotate_left
              · intro w hSw; (try dsimp only at hSw); obtain ⟨⟨p0, p1⟩, ⟨d0, d1, d2, d3, d4, d5, d6, d7, d8, d9, d10, d11, d12⟩, _⟩ := GF.out w hSw; simp only at d0 d1 d2 d3 d4 d5 d6 d7 d8 d9 d10 d11 d12; go_simp; (try with_reducible rfl)
              simp only [List.getElem_toArray, List.getElem_cons_succ, List.getElem_cons_zero, Act.put, List.setIfInBounds_toArray, List.set_cons_zero, List.set_cons_succ]
              refine wpAnyH_take (i := 13) (v := ?_) rfl (by kernel_rfl) (by kernel_rfl) (by kernel_rfl) (fun _ _ _ h => h) (Or.inl ⟨by rfl, ?_⟩) (by assumption) ?_
              rotate_left
              · intro w hSw; (try dsimp only at hSw); obtain ⟨⟨p0, p1⟩, ⟨d0, d1, d2, d3, d4, d5, d6, d7, d8, d9, d10, d11, d12⟩, _⟩ := GF.out w hSw; simp only at d0 d1 d2 d3 d4 d5 d6 d7 d8 d9 d10 d11 d12; go_simp; (try with_reducible rfl)
              simp only [List.getElem_toArray, List.getElem_cons_succ, List.getElem_cons_zero, Act.put, List.setIfInBounds_toArray, List.set_cons_zero, List.set_cons_succ]
              refine wpAnyH_take (i := 14) (v := ?_) rfl (by kernel_rfl) (by kernel_rfl) (by kernel_rfl) (fun _ _ _ h => h) (Or.inl ⟨by rfl, ?_⟩) (by assumption) ?_
              rotate_left
              · intro w hSw; (try dsimp only at hSw); obtain ⟨⟨p0, p1⟩, ⟨d0, d1, d2, d3, d4, d5, d6, d7, d8, d9, d10, d11, d12⟩, _⟩ := GF.out w hSw; simp only at d0 d1 d2 d3 d4 d5 d6 d7 d8 d9 d10 d11 d12; go_simp; (try with_reducible rfl)
              simp only [List.getElem_toArray, List.getElem_cons_succ, List.getElem_cons_zero, Act.put, List.setIfInBounds_toArray, List.set_cons_zero, List.set_cons_succ]
              refine wpAnyH_take (i := 15) (v := ?_) rfl (by kernel_rfl) (by kernel_rfl) (by kernel_rfl) (fun _ _ _ h => h) (Or.inl ⟨by rfl, ?_⟩) (by assumption) ?_
              rotate_left
              · intro w hSw; (try dsimp only at hSw); obtain ⟨⟨p0, p1⟩, ⟨d0, d1, d2, d3, d4, d5, d6, d7, d8, d9, d10, d11, d12⟩, _⟩ := GF.out w hSw; simp only at d0 d1 d2 d3 d4 d5 d6 d7 d8 d9 d10 d11 d12; go_simp; (try with_reducible rfl)
              simp only [List.getElem_toArray, List.getElem_cons_succ, List.getElem_cons_zero, Act.put, List.setIfInBounds_toArray, List.set_cons_zero, List.set_cons_succ]
              refine wpAnyH_take (i := 17) (v := ?_) rfl (by kernel_rfl) (by kernel_rfl) (by kernel_rfl) (fun _ _ _ h => h) (Or.inl ⟨by rfl, ?_⟩) (by assumption) ?_
              rotate_left
              · intro w hSw; (try dsimp only at hSw); obtain ⟨⟨p0, p1⟩, ⟨d0, d1, d2, d3, d4, d5, d6, d7, d8, d9, d10, d11, d12⟩, _⟩ := GF.out w hSw; simp only at d0 d1 d2 d3 d4 d5 d6 d7 d8 d9 d10 d11 d12; go_simp; (try with_reducible rfl)
              simp only [List.getElem_toArray, List.getElem_cons_succ, List.getElem_cons_zero, Act.put, List.setIfInBounds_toArray, List.set_cons_zero, List.set_cons_succ]
              refine wpAnyH_take (i := 18) (v := ?_) rfl (by kernel_rfl) (by kernel_rfl) (by kernel_rfl) (fun _ _ _ h => h) (Or.inl ⟨by rfl, ?_⟩) (by assumption) ?_
              rotate_left
              · intro w hSw; (try dsimp only at hSw); obtain ⟨⟨p0, p1⟩, ⟨d0, d1, d2, d3, d4, d5, d6, d7, d8, d9, d10, d11, d12⟩, _⟩ := GF.out w hSw; simp only at d0 d1 d2 d3 d4 d5 d6 d7 d8 d9 d10 d11 d12; go_simp; (try with_reducible rfl)
              simp only [List.getElem_toArray, List.getElem_cons_succ, List.getElem_cons_zero, Act.put, List.setIfInBounds_toArray, List.set_cons_zero, List.set_cons_succ]
              refine wpAnyH_take (i := 19) (v := ?_) rfl (by kernel_rfl) (by kernel_rfl) (by kernel_rfl) (fun _ _ _ h => h) (Or.inl ⟨by rfl, ?_⟩) (by assumption) ?_
              rotate_left
              · intro w hSw; (try dsimp only at hSw); obtain ⟨⟨p0, p1⟩, ⟨d0, d1, d2, d3, d4, d5, d6, d7, d8, d9, d10, d11, d12⟩, _⟩ := GF.out w hSw; simp only at d0 d1 d2 d3 d4 d5 d6 d7 d8 d9 d10 d11 d12; go_simp; (try with_reducible rfl)
              simp only [List.getElem_toArray, List.getElem_cons_succ, List.getElem_cons_zero, Act.put, List.setIfInBounds_toArray, List.set_cons_zero, List.set_cons_succ]
              refine wpAnyH_take (i := 20) (v := ?_) rfl (by kernel_rfl) (by kernel_rfl) (by kernel_rfl) (fun _ _ _ h => h) (Or.inl ⟨by rfl, ?_⟩) (by assumption) ?_
              rotate_left
              · intro w hSw; (try dsimp only at hSw); obtain ⟨⟨p0, p1⟩, ⟨d0, d1, d2, d3, d4, d5, d6, d7, d8, d9, d10, d11, d12⟩, _⟩ := GF.out w hSw; simp only at d0 d1 d2 d3 d4 d5 d6 d7 d8 d9 d10 d11 d12; go_simp; (try with_reducible rfl)
              simp only [List.getElem_toArray, List.getElem_cons_succ, List.getElem_cons_zero, Act.put, List.setIfInBounds_toArray, List.set_cons_zero, List.set_cons_succ]
              refine wpAnyH_ready (rs := [16]) (by kernel_rfl) (by simp) ?_
              refine AllReadyH.cons rfl (fun K hK => ?_) AllReadyH.nil
              go_simp
              (go_at_call 18; (refine (LKZ.out _ (below_drew (Below.refl _ _))).mono ?_); rintro z w8 ⟨rfl, b8⟩; have B8 : Hid (Below wr.heap.size wr w8) := Lib.hid ((below_drew (Below.refl _ _)).trans b8); clear b8)
              refine hK.out _ _ ?_ (fun hHeld1 => ?_)
              · exact B8.out
              clear hK K hHeld0
              try simp only [List.getElem_toArray, List.getElem_cons_succ, List.getElem_cons_zero, Act.put, List.setIfInBounds_toArray, List.set_cons_zero, List.set_cons_succ]
              refine wpAnyH_take (i := 21) (v := ?_) rfl (by kernel_rfl) (by kernel_rfl) (by kernel_rfl) (fun _ _ _ h => h) (Or.inl ⟨by rfl, ?_⟩) (by assumption) ?_
              rotate_left
              · intro w hSw; (try dsimp only at hSw); obtain ⟨⟨p0, p1⟩, ⟨d0, d1, d2, d3, d4, d5, d6, d7, d8, d9, d10, d11, d12⟩, _⟩ := GF.out w hSw; simp only at d0 d1 d2 d3 d4 d5 d6 d7 d8 d9 d10 d11 d12; go_simp; (try with_reducible rfl)
              simp only [List.getElem_toArray, List.getElem_cons_succ, List.getElem_cons_zero, Act.put, List.setIfInBounds_toArray, List.set_cons_zero, List.set_cons_succ]
              refine wpAnyH_take (i := 22) (v := ?_) rfl (by kernel_rfl) (by kernel_rfl) (by kernel_rfl) (fun _ _ _ h => h) (Or.inl ⟨by rfl, ?_⟩) (by assumption) ?_
              rotate_left
              · intro w hSw; (try dsimp only at hSw); obtain ⟨⟨p0, p1⟩, ⟨d0, d1, d2, d3, d4, d5, d6, d7, d8, d9, d10, d11, d12⟩, _⟩ := GF.out w hSw; simp only at d0 d1 d2 d3 d4 d5 d6 d7 d8 d9 d10 d11 d12; go_simp; (try with_reducible rfl)
              try simp only [List.getElem_toArray, List.getElem_cons_succ, List.getElem_cons_zero, Act.put, List.setIfInBounds_toArray, List.set_cons_zero, List.set_cons_succ]
              refine wpAnyH_done (by kernel_rfl) ?_ _
              go_wp2_with fail
              go_roundw
              case rel => exact ⟨k + 1, by omega, by go_num, B5.out.trans ((BJ.out.trans (B8.out.mono BJ.out.size)).mono B5.out.size)⟩
              case measure => simp [intOf]; omega
      · have hkp' : ¬ (k : Int) < p.ps.length := by omega
        have BQ := Lib.hid bq
        clear bq
        go_wp2_with (first
          | (go_at_call 16; (refine (CL0.out _ BQ.out).mono ?_); rintro z w5 ⟨a5, c5, rfl, b5⟩; have B5 := Lib.hid (BQ.out.trans (b5.mono BQ.out.size)); obtain ⟨n0, n1⟩ := F3.out _ B5.out; clear b5)
          | (go_at_call 18; (refine (LK0.out _ B5.out).mono ?_); rintro z w6 ⟨rfl, b6⟩; have B6 := Lib.hid (B5.out.trans (b6.mono B5.out.size)); clear b6))
        go_ret
        exact ⟨rfl, W3.out.trans (B6.out.mono W3.out.size)⟩
end Go.Proofs.YtkihleecjgoipaaDoor
