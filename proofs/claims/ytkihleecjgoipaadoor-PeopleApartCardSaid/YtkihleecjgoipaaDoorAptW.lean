/- PeopleApart: the walk. Written by wip/tools/mkapw.py. -/
import Derived.Test.YtkihleecjgoipaaDoorPld16
import Derived.Test.YtkihleecjgoipaaDoorSesP
import Derived.Test.YtkihleecjgoipaaDoorPpS
import Derived.Test.YtkihleecjgoipaaDoorPerQ
namespace Go.Proofs.YtkihleecjgoipaaDoor
open Go.RowKit Go.Maps Go.Proofs.YtkihleecjgoipaaDoor.Rw

theorem nm_of {w : World} {b : Nat} (o : Nm) (h : w.heap[b]? = some (Nm.obj o)) : w.cell? ⟨b, 0, none⟩ = some (.int .i64 o.kind) ∧ w.cell? ⟨b, 1, none⟩ = some (.int .i64 o.who) ∧ w.cell? ⟨b, 2, none⟩ = some (.int .i64 o.mail) ∧ w.cell? ⟨b, 3, none⟩ = some (.int .i64 o.salt) ∧ w.cell? ⟨b, 4, none⟩ = some (.int .i64 o.chk) ∧ w.cell? ⟨b, 5, none⟩ = some (.int .i64 o.at_) ∧ w.cell? ⟨b, 6, none⟩ = some (.int .i64 o.n) := by
  refine ⟨?_, ?_, ?_, ?_, ?_, ?_, ?_⟩ <;> rw [Lib.cell_of_heap h] <;> rfl
/-- A session of another account that lasts stays. -/
theorem apart_ses {p : Ppl} {e : Evn} {s : Ses.R} (hs : s ∈ p.ss) (ha : s.acc ≠ e.acc) (hx : e.at_ < s.exp) : (appR p e).ss.any (lives s.dig e.at_) = true := by
  have hm : s ∈ (appR p e).ss := by
    unfold appR
    split
    · unfold sgnR
      split <;> exact hs
    · split
      · exact hs
      · split
        · exact hs
        · split
          · unfold sesR
            split
            · refine List.mem_append_left _ (List.mem_filter.2 ⟨hs, ?_⟩)
              rw [decide_eq_false (by omega)]
              rfl
            · exact hs
          · split
            · refine List.mem_filter.2 ⟨hs, ?_⟩
              rw [decide_eq_false ha]
              rfl
            · split <;> exact hs
  rw [List.any_eq_true]
  exact ⟨s, hm, by unfold lives; simp [hx]⟩
set_option maxHeartbeats 16000000 in
set_option maxRecDepth 100000 in
theorem apart_walk (a0 : Option Addr) (len cap : Nat) (o : Nm) (W : World) (hm : ML W)
    (hsl : ∀ i, i < len → ∃ b off o, a0 = some ⟨b, off, none⟩ ∧ b < W.heap.size ∧ NumAt W b (off + i * 7) o) :
    Calls Tryd.prog 6 #[.slice a0 len cap, o.agg] W fun e W' => e = .returned (.bool true) ∧ Below W.heap.size W W' := by
  have b1 : Below W.heap.size W (W.alloc o.obj) := (Below.refl _ _).alloc (Nat.le_refl _) _
  have z1 : (W.alloc o.obj).heap.size = W.heap.size + 1 := by simp
  have HB1 := Lib.hid b1
  have Z1 := Lib.hid z1
  have HO1 := Lib.hid (heap_new W o.obj)
  have AW := Lib.hid (awake_any (W.alloc o.obj) (hm.below b1))
  have HM := Lib.hid hm
  have PL : Hid (∀ w2, Below W.heap.size W w2 → Calls Tryd.prog 15 #[.slice a0 len cap, .int .i64 50] w2 fun e W' => ∃ p a c a' c', e = .returned (.agg #[.slice a p.ps.length c, .slice a' p.ss.length c']) ∧ PI 50 p ∧ PC p ∧ pown W' W.heap.size (.agg #[.slice a p.ps.length c, .slice a' p.ss.length c']) p ∧ Below w2.heap.size w2 W') := Lib.hid (fun w2 b => by
    have hs2 := b.size
    refine (played_any a0 len cap 50 (by omega) w2 (fun i hi => ?_)).mono fun r w' ⟨N, p, v, q1, q2, q3, q4, q5, q6⟩ => ?_
    · obtain ⟨bb, off, oo, h1, h2, h3⟩ := hsl i hi
      exact ⟨bb, off, oo, h1, by omega, h3.below b h2⟩
    · obtain ⟨a, c, a', c', rfl⟩ := q5.form
      exact ⟨p, a, c, a', c', q1, q3.upto q2, q4, q5.mono hs2, q6⟩)
  clear b1 z1 hm hsl
  obtain ⟨kind, who, mail, salt, chk, at0, nn⟩ := o
  unfold Nm.obj at *
  unfold Nm.agg
  simp only at *
  go_enter Tryd.func6, Tryd.ntmps6
  go_upto_region 3 with (first
    | (go_at_call 9; (with_reducible refine (AW.out).mono ?_); rintro e w1 ⟨rfl, q1⟩; have W1 := Lib.hid (HB1.out.trans (q1.mono (by rw [Z1.out]; exact Nat.le_succ _))); have HO2 := Lib.hid ((q1.block W.heap.size (by rw [Z1.out]; exact Nat.lt_succ_self _)).trans HO1.out); clear q1)
    | (go_at_call 15; (refine (PL.out _ W1.out).mono ?_); rintro e w2 ⟨p, ap, cp, ap', cp', rfl, hp, hpc, ho, q2⟩; have HP := Lib.hid hp; have HPC := Lib.hid hpc; have W2 := Lib.hid (W1.out.trans (q2.mono W1.out.size)); have HO3 := Lib.hid ((q2.block W.heap.size (heap_lt HO2.out)).trans HO2.out); have OP2 := Lib.hid ho; clear q2 hp hpc ho))
  have s2 := W2.out.size
  have b3 : Below w2.heap.size w2 (w2.alloc (pobj (.slice ap p.ps.length cp) (.slice ap' p.ss.length cp'))) := (Below.refl _ _).alloc (Nat.le_refl _) _
  have HPB := Lib.hid (heap_new w2 (pobj (.slice ap p.ps.length cp) (.slice ap' p.ss.length cp')))
  have HO4 := Lib.hid ((b3.block W.heap.size (heap_lt HO3.out)).trans HO3.out)
  have W3 := Lib.hid (W2.out.trans (b3.mono s2))
  have OP3 := Lib.hid (OP2.out.below b3)
  unfold pobj at b3 HPB HO4 W3 OP3
  obtain ⟨w3, hw3⟩ : ∃ w3, w2.alloc (.cells #[.slice ap p.ps.length cp, .slice ap' p.ss.length cp'] 27) = w3 := ⟨_, rfl⟩
  rw [hw3] at b3 HPB HO4 W3 OP3 ⊢
  clear hw3 b3
  obtain ⟨ev, hev⟩ : ∃ ev, evN ⟨kind, who, mail, salt, chk, at0, nn⟩ p = ev := ⟨_, rfl⟩
  have hok : EvOk ev := by rw [← hev]; exact evN_ok _ _
  have EV : Hid (Calls Tryd.prog 10 #[.agg #[.int .i64 kind, .int .i64 who, .int .i64 mail, .int .i64 salt, .int .i64 chk, .int .i64 at0, .int .i64 nn], .agg #[.slice ap p.ps.length cp, .slice ap' p.ss.length cp']] w3 fun e w' => e = .returned ev.agg ∧ Below w3.heap.size w3 w') := Lib.hid (by
    have h := event_any ⟨kind, who, mail, salt, chk, at0, nn⟩ OP3.out HP.out.few (HP.out.small (by omega))
    rwa [hev] at h)
  have AP : Hid (∀ w2, Below w3.heap.size w3 w2 → Calls Tryd.prog 11 #[.agg #[.slice ap p.ps.length cp, .slice ap' p.ss.length cp'], ev.agg] w2 fun r w' => ∃ a c a' c', r = .returned (.tuple #[.agg #[.slice a (appR p ev).ps.length c, .slice a' (appR p ev).ss.length c'], .int .i64 (appE p ev)]) ∧ pown w' W.heap.size (.agg #[.slice a (appR p ev).ps.length c, .slice a' (appR p ev).ss.length c']) (appR p ev) ∧ Below w2.heap.size w2 w') := Lib.hid (fun w2 b2 => by
    have bw := W3.out.trans (b2.mono W3.out.size)
    refine (papply_any (OP3.out.below b2) HP.out.few (HP.out.small (by omega)) bw.size ev (by have := hok.sz; omega) (HM.out.below bw)).mono fun r w' ⟨v', q1, q2, q3⟩ => ?_
    obtain ⟨a, c, a', c', rfl⟩ := q2.form
    exact ⟨a, c, a', c', q1, q2, q3⟩)
  have HX := Lib.hid (HP.out.app (e := ev) (by omega) hok)
  have NA := Lib.hid (fun k (hk : k < p.ps.length) => HP.out.next_at (e := ev) hk)
  have GR := Lib.hid (HP.out.grows (e := ev))
  have AS := Lib.hid (fun s hs ha hx => apart_ses (p := p) (e := ev) (s := s) hs ha hx)
  have FDX : Hid (∀ w2 v, pown w2 W.heap.size v (appR p ev) → ∀ k (hk : k < p.ps.length), Calls Tryd.prog 12 #[v, .int .i64 ((k : Int) + 1)] w2 fun r w' => r = .returned (.tuple #[(if hits p ev k = true then doesF p p.ps[k] ev else p.ps[k]).agg, .bool true]) ∧ Below w2.heap.size w2 w') := Lib.hid (fun w2 v o k hk => by
    have hx := HX.out
    have hkx : k < (appR p ev).ps.length := Nat.lt_of_lt_of_le hk GR.out
    have h := find_any o hx.few ((k : Int) + 1)
    have hf := hx.find hkx
    unfold pick at h
    rw [hf.1, hf.2] at h
    have hn := NA.out k hk
    rw [List.getElem?_eq_getElem hkx] at hn
    rw [Option.some.inj hn] at h
    exact h)
  have PSX : Hid (∀ w2 v d, pown w2 W.heap.size v (appR p ev) → Calls Tryd.prog 14 #[v, .string d, .int .i64 ev.at_] w2 fun r w' => r = .returned (.tuple #[(spick (appR p ev).ss (lives d ev.at_)).agg, .bool ((appR p ev).ss.any (lives d ev.at_))]) ∧ Below w2.heap.size w2 w') := Lib.hid (fun w2 v d o => psession_any o HX.out.few d ev.at_)
  have YX : Hid (∀ k (hk : k < p.ps.length), ev.acc ≠ (k : Int) + 1 → (if hits p ev k = true then doesF p p.ps[k] ev else p.ps[k]) = p.ps[k]) := Lib.hid (fun k hk hne => by
    have hh : hits p ev k = false := by
      unfold hits
      rw [decide_eq_false hne, Bool.and_false]
    rw [hh]
    rfl)
  have YID : Hid (∀ k (hk : k < p.ps.length), (if hits p ev k = true then doesF p p.ps[k] ev else p.ps[k]).id = (k : Int) + 1) := Lib.hid (fun k hk => by
    split
    · rw [doesF_keep]; exact HP.out.id k hk
    · exact HP.out.id k hk)
  have IDS := Lib.hid HP.out.id
  have hlp := HP.out.len
  have hls := HP.out.slen
  clear hev GR NA HX AW PL
  generalize appR p ev = X at *
  generalize appE p ev = fe at *
  obtain ⟨kd, ac, pu, t, nu, ea, eb, ec⟩ := ev
  have EVG : Hid (∀ w2 g, w2.heap[g]? = some (Evn.obj ⟨kd, ac, pu, t, nu, ea, eb, ec⟩) → EvAt w2 g ⟨kd, ac, pu, t, nu, ea, eb, ec⟩) := Lib.hid (fun w2 g h => EvAt.of h)
  unfold Evn.agg at EV AP
  unfold Evn.obj at EVG
  simp only at *
  obtain ⟨n0, n1, n2, n3, n4, n5, n6⟩ := nm_of ⟨kind, who, mail, salt, chk, at0, nn⟩ HO4.out
  simp only at n0 n1 n2 n3 n4 n5 n6
  obtain ⟨⟨p0, p1⟩, _⟩ := pcell_of (v1 := .slice ap p.ps.length cp) (v2 := .slice ap' p.ss.length cp') HPB.out
  go_upto_region 5 with (first
    | (go_at_call 10; (refine (EV.out).mono ?_); rintro e w4 ⟨rfl, b4⟩; have B5 := Lib.hid (b4.alloc b4.size (.cells #[.int .i64 kd, .int .i64 ac, .int .i64 pu, .int .i64 t, .int .i64 nu, .string ea, .string eb, .string ec] 29)); have HE5 := Lib.hid (heap_new w4 (.cells #[.int .i64 kd, .int .i64 ac, .int .i64 pu, .int .i64 t, .int .i64 nu, .string ea, .string eb, .string ec] 29)); obtain ⟨y0, y1, y2, y3, y4, y5, y6, y7⟩ := EVG.out _ _ HE5.out; simp only at y0 y1 y2 y3 y4 y5 y6 y7; obtain ⟨⟨k0, k1⟩, _⟩ := pcell_of (v1 := .slice ap p.ps.length cp) (v2 := .slice ap' p.ss.length cp') ((B5.out.block w2.heap.size (heap_lt HPB.out)).trans HPB.out); clear b4)
    | (go_at_call 11; (refine (AP.out _ B5.out).mono ?_); rintro z w6 ⟨a, c, a', c', rfl, o6, b6⟩; have B6 := Lib.hid (B5.out.trans (b6.mono B5.out.size)); have HE6 := Lib.hid ((b6.block w4.heap.size (heap_lt HE5.out)).trans HE5.out); have O6 := Lib.hid o6; clear b6 o6))
  have b7 : Below w6.heap.size w6 (w6.alloc (pobj (.slice a X.ps.length c) (.slice a' X.ss.length c'))) := (Below.refl _ _).alloc (Nat.le_refl _) _
  have HX7 := Lib.hid (heap_new w6 (pobj (.slice a X.ps.length c) (.slice a' X.ss.length c')))
  have HE7 := Lib.hid ((b7.block w4.heap.size (heap_lt HE6.out)).trans HE6.out)
  have B7 := Lib.hid (B6.out.trans (b7.mono B6.out.size))
  have OX7 := Lib.hid (O6.out.below b7)
  unfold pobj at b7 HX7 HE7 B7 OX7
  obtain ⟨w7, hw7⟩ : ∃ w7, w6.alloc (.cells #[.slice a X.ps.length c, .slice a' X.ss.length c'] 27) = w7 := ⟨_, rfl⟩
  rw [hw7] at b7 HX7 HE7 B7 OX7 ⊢
  clear hw7 b7
  have HPB7 := Lib.hid ((B7.out.block w2.heap.size (heap_lt HPB.out)).trans HPB.out)
  have OP7 := Lib.hid (OP3.out.below B7.out)
  have W7 := Lib.hid (W3.out.trans (B7.out.mono W3.out.size))
  obtain ⟨a2, c2, a2', c2', hpe, or1, os1⟩ := id OP7.out
  simp only [Value.agg.injEq, Array.mk.injEq, List.cons.injEq, and_true] at hpe
  obtain ⟨he1, he2⟩ := hpe
  rw [← he1] at or1
  rw [← he2] at os1
  have ORW := Lib.hid or1
  have OSW := Lib.hid os1
  clear or1 os1 he1 he2 EV AP
  have F7 : Hid (∀ wq, Below w7.heap.size w7 wq → (wq.cell? ⟨w2.heap.size, 0, none⟩ = some (.slice ap p.ps.length cp) ∧ wq.cell? ⟨w2.heap.size, 1, none⟩ = some (.slice ap' p.ss.length cp')) ∧ (wq.cell? ⟨w6.heap.size, 0, none⟩ = some (.slice a X.ps.length c) ∧ wq.cell? ⟨w6.heap.size, 1, none⟩ = some (.slice a' X.ss.length c')) ∧ EvAt wq w4.heap.size ⟨kd, ac, pu, t, nu, ea, eb, ec⟩) := Lib.hid (fun wq b => ⟨(pcell_of ((b.block _ (heap_lt HPB7.out)).trans HPB7.out)).1, (pcell_of ((b.block _ (heap_lt HX7.out)).trans HX7.out)).1, EVG.out _ _ ((b.block _ (heap_lt HE7.out)).trans HE7.out)⟩)
  obtain ⟨⟨k0, k1⟩, ⟨s0, s1⟩, _⟩ := F7.out _ (Below.refl _ _)
  go_wp2_with fail
  go_loopw [10] (fun i wr => ∃ k : Nat, k ≤ p.ps.length ∧ i = .int .i64 k ∧ Below w7.heap.size w7 wr) (fun i _ => p.ps.length - (intOf i).toNat)
  case atStart => exact ⟨0, Nat.zero_le _, rfl, Below.refl _ _⟩
  case round =>
    obtain ⟨k, hk, rfl, bq⟩ := hrel
    obtain ⟨⟨u0, u1⟩, ⟨t0, t1⟩, q0, q1, q2, q3, q4, q5, q6, q7⟩ := F7.out _ bq
    by_cases hkp : k < p.ps.length
    · have hkp' : (k : Int) < p.ps.length := by omega
      have hk0 : (0 : Int) ≤ k := by omega
      obtain ⟨g, hg, hgl, hgu, m0, m1, m2, m3, m4, m5, m6, m7, m8, m9, m10, m11, m12⟩ := (ORW.out.below bq).all k hkp
      subst hg
      rw [List.getElem?_eq_getElem hkp, Option.getD_some] at m0 m1 m2 m3 m4 m5 m6 m7 m8 m9 m10 m11 m12
      have hid := IDS.out k hkp
      have hyid := YID.out k hkp
      have hyx := YX.out k hkp
      have FY : Hid (∀ wq, Below w7.heap.size w7 wq → Calls Tryd.prog 12 #[.agg #[.slice a X.ps.length c, .slice a' X.ss.length c'], .int .i64 ((k : Int) + 1)] wq fun r w' => r = .returned (.tuple #[(if hits p ⟨kd, ac, pu, t, nu, ea, eb, ec⟩ k = true then doesF p p.ps[k] ⟨kd, ac, pu, t, nu, ea, eb, ec⟩ else p.ps[k]).agg, .bool true]) ∧ Below wq.heap.size wq w') := Lib.hid (fun wq b => FDX.out wq _ (OX7.out.below b) k hkp)
      generalize (if hits p ⟨kd, ac, pu, t, nu, ea, eb, ec⟩ k = true then doesF p p.ps[k] ⟨kd, ac, pu, t, nu, ea, eb, ec⟩ else p.ps[k]) = y at *
      generalize p.ps[k] = x at *
      have NER := fun w => Per.ne_run x x w
      rw [(Per.eqB_iff x x).2 rfl] at NER
      have HYX := Lib.hid hyx
      clear hyx
      obtain ⟨xid, xmail, xver, xsalt, xchk, xvers, xmiss, xlock, xc0, xc1, xc2, xc3, xc4⟩ := x
      simp only at m0 m1 m2 m3 m4 m5 m6 m7 m8 m9 m10 m11 m12 hid
      subst hid
      unfold Per.R.agg at NER
      simp only at NER
      have bx := bq.alloc bq.size (.cells #[.int .i64 ((k : Int) + 1), .string xmail, .bool xver, .string xsalt, .string xchk, .int .i64 xvers, .int .i64 xmiss, .int .i64 xlock, .string xc0, .string xc1, .string xc2, .string xc3, .string xc4] 38)
      have HXN := Lib.hid (heap_new wr (.cells #[.int .i64 ((k : Int) + 1), .string xmail, .bool xver, .string xsalt, .string xchk, .int .i64 xvers, .int .i64 xmiss, .int .i64 xlock, .string xc0, .string xc1, .string xc2, .string xc3, .string xc4] 38))
      have BX := Lib.hid bx
      obtain ⟨d0, d1, d2, d3, d4, d5, d6, d7, d8, d9, d10, d11, d12⟩ := Per.At.of_heap (m := ⟨(k : Int) + 1, xmail, xver, xsalt, xchk, xvers, xmiss, xlock, xc0, xc1, xc2, xc3, xc4⟩) HXN.out
      obtain ⟨⟨u0, u1⟩, ⟨t0, t1⟩, q0, q1, q2, q3, q4, q5, q6, q7⟩ := F7.out _ bx
      simp only at d0 d1 d2 d3 d4 d5 d6 d7 d8 d9 d10 d11 d12 q0 q1 q2 q3 q4 q5 q6 q7
      by_cases hac : ac = (k : Int) + 1
      · have hacb : ((k : Int) + 1 != ac) = false := by simpa using hac.symm
        obtain ⟨yid, ymail, yver, ysalt, ychk, yvers, ymiss, ylock, yc0, yc1, yc2, yc3, yc4⟩ := y
        simp only at hyid
        subst hyid
        unfold Per.R.agg at FY
        simp only at FY
        clear bq bx hac NER HYX
        go_wp2_with (go_at_call 12; (refine (FY.out _ BX.out).mono ?_); rintro z w8 ⟨rfl, b8⟩; have b9 := b8.alloc b8.size (.cells #[.int .i64 ((k : Int) + 1), .string ymail, .bool yver, .string ysalt, .string ychk, .int .i64 yvers, .int .i64 ymiss, .int .i64 ylock, .string yc0, .string yc1, .string yc2, .string yc3, .string yc4] 38); have B9 := Lib.hid (BX.out.trans (b9.mono BX.out.size)); have HX9 := (b9.block wr.heap.size (by simp)).trans HXN.out; have HY9 := heap_new w8 (.cells #[.int .i64 ((k : Int) + 1), .string ymail, .bool yver, .string ysalt, .string ychk, .int .i64 yvers, .int .i64 ymiss, .int .i64 ylock, .string yc0, .string yc1, .string yc2, .string yc3, .string yc4] 38); obtain ⟨d0, d1, d2, d3, d4, d5, d6, d7, d8, d9, d10, d11, d12⟩ := Per.At.of_heap (m := ⟨(k : Int) + 1, xmail, xver, xsalt, xchk, xvers, xmiss, xlock, xc0, xc1, xc2, xc3, xc4⟩) HX9; obtain ⟨i0, i1, i2, i3, i4, i5, i6, i7, i8, i9, i10, i11, i12⟩ := Per.At.of_heap (m := ⟨(k : Int) + 1, ymail, yver, ysalt, ychk, yvers, ymiss, ylock, yc0, yc1, yc2, yc3, yc4⟩) HY9; obtain ⟨⟨u0, u1⟩, ⟨t0, t1⟩, q0, q1, q2, q3, q4, q5, q6, q7⟩ := F7.out _ B9.out; simp only at d0 d1 d2 d3 d4 d5 d6 d7 d8 d9 d10 d11 d12 i0 i1 i2 i3 i4 i5 i6 i7 i8 i9 i10 i11 i12 q0 q1 q2 q3 q4 q5 q6 q7; clear b8 b9 HX9 HY9)
        go_roundw
        case rel => exact ⟨k + 1, by omega, by go_num, B9.out⟩
        case measure => simp [intOf]; omega
      · have hacb : ((k : Int) + 1 != ac) = true := by simpa using fun h => hac h.symm
        obtain rfl := HYX.out hac
        unfold Per.R.agg at FY
        simp only at FY
        clear bq bx hac HYX
        go_wp2_with (go_at_call 12; (refine (FY.out _ BX.out).mono ?_); rintro z w8 ⟨rfl, b8⟩; have b9 := b8.alloc b8.size (.cells #[.int .i64 ((k : Int) + 1), .string xmail, .bool xver, .string xsalt, .string xchk, .int .i64 xvers, .int .i64 xmiss, .int .i64 xlock, .string xc0, .string xc1, .string xc2, .string xc3, .string xc4] 38); have B9 := Lib.hid (BX.out.trans (b9.mono BX.out.size)); have HX9 := (b9.block wr.heap.size (by simp)).trans HXN.out; have HY9 := heap_new w8 (.cells #[.int .i64 ((k : Int) + 1), .string xmail, .bool xver, .string xsalt, .string xchk, .int .i64 xvers, .int .i64 xmiss, .int .i64 xlock, .string xc0, .string xc1, .string xc2, .string xc3, .string xc4] 38); obtain ⟨d0, d1, d2, d3, d4, d5, d6, d7, d8, d9, d10, d11, d12⟩ := Per.At.of_heap (m := ⟨(k : Int) + 1, xmail, xver, xsalt, xchk, xvers, xmiss, xlock, xc0, xc1, xc2, xc3, xc4⟩) HX9; obtain ⟨i0, i1, i2, i3, i4, i5, i6, i7, i8, i9, i10, i11, i12⟩ := Per.At.of_heap (m := ⟨(k : Int) + 1, xmail, xver, xsalt, xchk, xvers, xmiss, xlock, xc0, xc1, xc2, xc3, xc4⟩) HY9; obtain ⟨⟨u0, u1⟩, ⟨t0, t1⟩, q0, q1, q2, q3, q4, q5, q6, q7⟩ := F7.out _ B9.out; simp only at d0 d1 d2 d3 d4 d5 d6 d7 d8 d9 d10 d11 d12 i0 i1 i2 i3 i4 i5 i6 i7 i8 i9 i10 i11 i12 q0 q1 q2 q3 q4 q5 q6 q7; clear b8 b9 HX9 HY9)
        go_roundw
        case rel => exact ⟨k + 1, by omega, by go_num, B9.out⟩
        case measure => simp [intOf]; omega
    · have hkp' : ¬ (k : Int) < p.ps.length := by omega
      have BQ := Lib.hid bq
      clear bq
      go_wp2_with fail
      go_loopw [14] (fun i wq => ∃ k : Nat, k ≤ p.ss.length ∧ i = .int .i64 k ∧ Below w7.heap.size w7 wq) (fun i _ => p.ss.length - (intOf i).toNat)
      case atStart => exact ⟨0, Nat.zero_le _, rfl, BQ.out⟩
      case round =>
        obtain ⟨k, hk, rfl, bq⟩ := hrel
        obtain ⟨⟨u0, u1⟩, ⟨t0, t1⟩, q0, q1, q2, q3, q4, q5, q6, q7⟩ := F7.out _ bq
        by_cases hkp : k < p.ss.length
        · have hkp' : (k : Int) < p.ss.length := by omega
          have hk0 : (0 : Int) ≤ k := by omega
          obtain ⟨g, hg, hgl, hgu, m0, m1, m2⟩ := (OSW.out.below bq).all k hkp
          subst hg
          rw [List.getElem?_eq_getElem hkp, Option.getD_some] at m0 m1 m2
          have hap := AS.out _ (List.getElem_mem hkp)
          generalize p.ss[k] = s at *
          have SY : Hid (∀ wq, Below w7.heap.size w7 wq → Calls Tryd.prog 14 #[.agg #[.slice a X.ps.length c, .slice a' X.ss.length c'], .string s.dig, .int .i64 t] wq fun r w' => r = .returned (.tuple #[(spick X.ss (lives s.dig t)).agg, .bool (X.ss.any (lives s.dig t))]) ∧ Below wq.heap.size wq w') := Lib.hid (fun wq b => PSX.out wq _ s.dig (OX7.out.below b))
          generalize spick X.ss (lives s.dig t) = y at *
          generalize X.ss.any (lives s.dig t) = q at *
          have HAP := Lib.hid hap
          clear hap
          obtain ⟨dig, acc, exp⟩ := s
          obtain ⟨ydig, yacc, yexp⟩ := y
          unfold Ses.R.agg at SY
          simp only at *
          have bx := bq.alloc bq.size (.cells #[.string dig, .int .i64 acc, .int .i64 exp] 47)
          have HXN := Lib.hid (heap_new wr (.cells #[.string dig, .int .i64 acc, .int .i64 exp] 47))
          have BX := Lib.hid bx
          obtain ⟨d0, d1, d2⟩ := Ses.At.of_heap (m := ⟨dig, acc, exp⟩) HXN.out
          obtain ⟨⟨u0, u1⟩, ⟨t0, t1⟩, q0, q1, q2, q3, q4, q5, q6, q7⟩ := F7.out _ bx
          simp only at d0 d1 d2 q0 q1 q2 q3 q4 q5 q6 q7
          by_cases hac : acc = ac
          · have hacb : (acc != ac) = false := by simpa using hac
            clear bq bx hac
            go_wp2_with (go_at_call 14; (refine (SY.out _ BX.out).mono ?_); rintro z w8 ⟨rfl, b8⟩; have b9 := b8.alloc b8.size (.cells #[.string ydig, .int .i64 yacc, .int .i64 yexp] 47); have B9 := Lib.hid (BX.out.trans (b9.mono BX.out.size)); obtain ⟨d0, d1, d2⟩ := Ses.At.of_heap (m := ⟨dig, acc, exp⟩) ((b9.block wr.heap.size (by simp)).trans HXN.out); obtain ⟨⟨u0, u1⟩, ⟨t0, t1⟩, q0, q1, q2, q3, q4, q5, q6, q7⟩ := F7.out _ B9.out; simp only at d0 d1 d2 q0 q1 q2 q3 q4 q5 q6 q7; clear b8 b9)
            go_roundw
            case rel => exact ⟨k + 1, by omega, by go_num, B9.out⟩
            case measure => simp [intOf]; omega
          · have hacb : (acc != ac) = true := by simpa using hac
            by_cases hx : t < exp
            · have hqt : q = true := HAP.out hac hx
              subst hqt
              clear bq bx hac
              go_wp2_with (go_at_call 14; (refine (SY.out _ BX.out).mono ?_); rintro z w8 ⟨rfl, b8⟩; have b9 := b8.alloc b8.size (.cells #[.string ydig, .int .i64 yacc, .int .i64 yexp] 47); have B9 := Lib.hid (BX.out.trans (b9.mono BX.out.size)); obtain ⟨d0, d1, d2⟩ := Ses.At.of_heap (m := ⟨dig, acc, exp⟩) ((b9.block wr.heap.size (by simp)).trans HXN.out); obtain ⟨⟨u0, u1⟩, ⟨t0, t1⟩, q0, q1, q2, q3, q4, q5, q6, q7⟩ := F7.out _ B9.out; simp only at d0 d1 d2 q0 q1 q2 q3 q4 q5 q6 q7; clear b8 b9)
              go_roundw
              case rel => exact ⟨k + 1, by omega, by go_num, B9.out⟩
              case measure => simp [intOf]; omega
            · clear bq bx hac
              go_wp2_with (go_at_call 14; (refine (SY.out _ BX.out).mono ?_); rintro z w8 ⟨rfl, b8⟩; have b9 := b8.alloc b8.size (.cells #[.string ydig, .int .i64 yacc, .int .i64 yexp] 47); have B9 := Lib.hid (BX.out.trans (b9.mono BX.out.size)); obtain ⟨d0, d1, d2⟩ := Ses.At.of_heap (m := ⟨dig, acc, exp⟩) ((b9.block wr.heap.size (by simp)).trans HXN.out); obtain ⟨⟨u0, u1⟩, ⟨t0, t1⟩, q0, q1, q2, q3, q4, q5, q6, q7⟩ := F7.out _ B9.out; simp only at d0 d1 d2 q0 q1 q2 q3 q4 q5 q6 q7; clear b8 b9)
              go_roundw
              case rel => exact ⟨k + 1, by omega, by go_num, B9.out⟩
              case measure => simp [intOf]; omega
        · have hkp' : ¬ (k : Int) < p.ss.length := by omega
          have BE := Lib.hid (W7.out.trans (bq.mono W7.out.size))
          clear bq
          go_wp2_with fail
          go_ret
          exact ⟨rfl, BE.out⟩
end Go.Proofs.YtkihleecjgoipaaDoor
