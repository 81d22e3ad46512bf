/- OutboxKeeps: the walk. -/
import Derived.Test.YtleobnfmbhobgaaDoorKeepA
import Derived.Deep.DeepCutAuto
import Derived.Deep.CutBlock
namespace Go.Proofs.YtleobnfmbhobgaaDoor
open Go.RowKit Go.Maps

theorem mod21 (x : Int) : ∃ n : Nat, n < 21 ∧ (wrap64 (Int.tmod x 21 + 21)).tmod 21 = (n : Int) := by
  have h1 := Int.lt_tmod_of_pos x (show (0 : Int) < 21 by decide)
  have h2 := Int.tmod_lt_of_pos x (show (0 : Int) < 21 by decide)
  have hw : wrap64 (Int.tmod x 21 + 21) = Int.tmod x 21 + 21 := by unfold wrap64; omega
  rw [hw, Int.tmod_eq_emod_of_nonneg (by omega)]
  exact ⟨((Int.tmod x 21 + 21) % 21).toNat, by omega, by omega⟩
def zT : Array Value := #[.int .i64 0, .int .i64 0, .int .i64 0, .int .i64 0, .int .i64 0, .int .i64 0, .int .i64 0, .int .i64 0, .int .i64 0, .int .i64 0, .int .i64 0, .int .i64 0, .int .i64 0, .int .i64 0, .int .i64 0, .int .i64 0, .int .i64 0, .int .i64 0, .int .i64 0, .int .i64 0, .int .i64 0]
def zD : Array Value := #[.bool false, .bool false, .bool false, .bool false, .bool false, .bool false, .bool false, .bool false, .bool false, .bool false, .bool false, .bool false, .bool false, .bool false, .bool false, .bool false, .bool false, .bool false, .bool false, .bool false, .bool false]
theorem zT_eq : zT = Array.replicate 21 (.int .i64 0) := rfl
theorem zD_eq : zD = Array.replicate 21 (.bool false) := rfl
theorem zT_at (j : Nat) (hj : j < 21) : zT[j]? = some (.int .i64 0) := by rw [zT_eq, Array.getElem?_replicate, if_pos hj]
theorem zD_at (j : Nat) (hj : j < 21) : zD[j]? = some (.bool false) := by rw [zD_eq, Array.getElem?_replicate, if_pos hj]

theorem arr_new {W w : World} (b : Below W.heap.size W w) : KW W w.heap.size (w.heap.size + 1) (fun _ => 0) (fun _ => false) ((w.alloc (.cells zT 44)).alloc (.cells zD 45)) := by
  have e1 : (w.alloc (.cells zT 44)).heap.size = w.heap.size + 1 := by simp
  have e2 : ((w.alloc (.cells zT 44)).alloc (.cells zD 45)).heap.size = w.heap.size + 2 := by simp
  have n1 : ((w.alloc (.cells zT 44)).alloc (.cells zD 45)).heap[w.heap.size]? = some (.cells zT 44) := by
    rw [Lib.alloc_old _ _ _ (by omega)]; exact heap_new _ _
  have n2 : ((w.alloc (.cells zT 44)).alloc (.cells zD 45)).heap[w.heap.size + 1]? = some (.cells zD 45) := by
    have := heap_new (w.alloc (.cells zT 44)) (.cells zD 45)
    rwa [e1] at this
  refine ⟨⟨by omega, by omega, by omega, fun j hj => ?_, fun j hj => ?_, fun j => frozen_of_row _ _ _ _ _ n1, fun j => frozen_of_row _ _ _ _ _ n2⟩, (b.alloc b.size _).alloc (by rw [e1]; have := b.size; omega) _, b.size, by have := b.size; omega⟩
  · rw [Lib.cell_of_heap n1]
    exact zT_at j hj
  · rw [Lib.cell_of_heap n2]
    exact zD_at j hj
theorem row_old {W w : World} {v : Value} {L : List Msg} (h : mowns w W.heap.size v L) (x y : Obj) : OW W ((w.alloc x).alloc y) w.heap.size (w.heap.size + 1) v L := by
  have e1 : (w.alloc x).heap.size = w.heap.size + 1 := by simp
  refine ⟨h.below (((Below.refl _ _).alloc (Nat.le_refl _) _).alloc (by omega) _), fun e => ?_, fun e => ?_⟩
  · have := (World.ownsRow.lt h _ e).2; omega
  · have := (World.ownsRow.lt h _ e).2; omega

set_option maxHeartbeats 8000000 in
set_option maxRecDepth 100000 in
theorem keep_walk (many each : Int) (a0 : Option Addr) (len cap : Nat) (W : World) (hm : ML W)
    (hsl : ∀ i, i < len → ∃ b off x, a0 = some ⟨b, off, none⟩ ∧ b < W.heap.size ∧ W.cell? ⟨b, off + i, none⟩ = some (.int .u64 x)) :
    Calls Tryd.prog 6 #[.int .i64 many, .slice a0 len cap, .int .i64 each] W fun e W' => e = .returned (.bool true) ∧ Below W.heap.size W W' := by
  obtain ⟨n, hn, hnq⟩ := mod21 many
  obtain ⟨s, hs⟩ : ∃ s, bits .and .i64 each 7 = s := ⟨_, rfl⟩
  have hs' : s = each % 8 := by rw [← hs]; exact i64_mask each 3 (by omega)
  have hs0 : 0 ≤ s := by omega
  have hs7 : s ≤ 7 := by omega
  clear hs'
  have AW := Lib.hid (awake_any W hm)
  have HM := Lib.hid hm
  have PO : Hid (∀ (w : World) (k : Nat) (v : Value) (L : List Msg), k < 20 → KP k L → mowns w W.heap.size v L → Below W.heap.size W w → Calls Tryd.prog 11 #[v, .agg #[.int .u64 ((k : Int) + 1), .string ⟨#[43, 49, 50, 51, 52, 53, 54, 55, 56]⟩, .string ⟨#[99, 111, 100, 101]⟩, .int .i64 0, .int .i64 0, .bool false], .int .i64 k] w fun e w' => ∃ a c L', e = .returned (.tuple #[.slice a (k + 1) c, .int .i64 0]) ∧ KP (k + 1) L' ∧ mowns w' W.heap.size (.slice a (k + 1) c) L' ∧ Below W.heap.size W w') := Lib.hid (fun w k v L hk kp ow b => by
    obtain ⟨e1, e2, e3⟩ := kp.post hk
    have h := post_v ow (by rw [kp.len]; omega) (keepL k) (by show plus.size ≤ 4000000000; decide) k (hm.below b)
    rw [e1, e2] at h
    refine h.mono ?_
    rintro e w' ⟨a, c, rfl, f⟩
    obtain ⟨f1, f2⟩ := f.then b
    exact ⟨a, c, _, rfl, e3, f1, f2⟩)
  have HN := Lib.hid hnq
  clear hm hnq
  go_enter Tryd.func6, Tryd.ntmps6
  have hnq := HN.out
  go_wp2_with ((go_at_call 8; (with_reducible refine (AW.out).mono ?_); rintro e w1 ⟨rfl, q1⟩; have B1 := Lib.hid q1; clear q1))
  clear AW hnq HN
  go_loopw [9, 10] (fun l i wr => ∃ (k : Nat) (a : Option Addr) (c : Nat) (L : List Msg), k ≤ n ∧ i = .int .i64 k ∧ l = .slice a k c ∧ KP k L ∧ mowns wr W.heap.size (.slice a k c) L ∧ Below W.heap.size W wr) (fun _ i _ => n - (intOf i).toNat)
  case atStart => exact ⟨0, none, 0, [], Nat.zero_le _, rfl, rfl, KP.nil, mowns_nil _ _, B1.out⟩
  case round =>
    obtain ⟨k, a, c, L, hk, rfl, rfl, kp, ow, bel⟩ := hrel
    have KPH := Lib.hid kp
    have OWH := Lib.hid ow
    have BEH := Lib.hid bel
    clear kp ow bel B1
    by_cases hkn : k < n
    · as_aux_lemma =>
        have hkn' : (k : Int) < n := by omega
        have hw1 : IntKind.i64.wrap ((k : Int) + 1) = (k : Int) + 1 := by rw [IntKind.wrap_i64] <;> omega
        have hw2 : IntKind.u64.wrap ((k : Int) + 1) = (k : Int) + 1 := by rw [IntKind.wrap_u64]; omega
        go_wp2_with ((go_at_call 11; (with_reducible refine (PO.out _ _ _ _ (by omega) KPH.out OWH.out BEH.out).mono ?_); rintro e w2 ⟨a2, c2, L2, rfl, p1, p2, p3⟩; have P1 := Lib.hid p1; have P2 := Lib.hid p2; have P3 := Lib.hid p3; clear p1 p2 p3))
        go_roundw
        case rel => exact ⟨k + 1, a2, c2, L2, by omega, by go_num, rfl, P1.out, P2.out, P3.out⟩
        case measure => first | (simp only [intOf]; omega) | (simp [intOf]; omega)
    · have hkn' : ¬ (k : Int) < n := by omega
      have hke : k = n := by omega
      subst hke
      clear hkn hkn' hk PO
      have KW0 : KW W wr.heap.size (wr.heap.size + 1) (fun _ => 0) (fun _ => false) ((wr.alloc (.cells zT 44)).alloc (.cells zD 45)) := arr_new BEH.out
      have OW0 : OW W ((wr.alloc (.cells zT 44)).alloc (.cells zD 45)) wr.heap.size (wr.heap.size + 1) (.slice a k c) L := row_old OWH.out _ _
      have hkl := KPH.out.len
      go_wp2_with fail
      obtain ⟨bT, hbT⟩ : ∃ bT, wr.heap.size = bT := ⟨_, rfl⟩
      rw [hbT] at KW0 OW0 ⊢
      have KW0 := Lib.hid KW0
      have OW0 := Lib.hid OW0
      have HKL := Lib.hid hkl
      clear hbT OWH BEH hkl
      go_loopw [9, 15] (fun l nw wx => ∃ (now : Int) (Lo : List Msg) (ao : Option Addr) (co : Nat) (T : Nat → Nat) (D : Nat → Bool), nw = .int .i64 now ∧ 0 ≤ now ∧ now ≤ 407 ∧ l = .slice ao Lo.length co ∧ KO k T D now Lo ∧ KW W bT (bT + 1) T D wx ∧ OW W wx bT (bT + 1) (.slice ao Lo.length co) Lo) (fun _ nw _ => 400 - (intOf nw).toNat)
      case atStart => exact ⟨0, L, a, c, _, _, rfl, by omega, by omega, by rw [HKL.out], KPH.out.begin, KW0.out, by rw [HKL.out]; exact OW0.out⟩
      case round =>
        obtain ⟨now, Lo, ao, co, T, D, rfl, hn0, hn7, rfl, ko, kw, ow⟩ := hrel
        have KO1 := Lib.hid ko
        have KW1 := Lib.hid kw
        have OW1 := Lib.hid ow
        clear ko kw ow KW0 OW0 HKL KPH
        have hLo : Lo.length ≤ 40 := KO1.out.inv.2.2
        by_cases h4 : now < 400
        · as_aux_lemma =>
            have DU : Hid (Calls Tryd.prog 13 #[.slice ao Lo.length co, .int .i64 now] wr fun e w' => ∃ a c, e = .returned (.slice a (Lo.filter (dueB now)).length c) ∧ Fresh wr w' (.slice a (Lo.filter (dueB now)).length c) (Lo.filter (dueB now))) := Lib.hid (due_v OW1.out.1 (by omega) now)
            have KI1 := Lib.hid (KO1.out.begin hn0 (by omega))
            have hRl : (Lo.filter (dueB now)).length ≤ 40 := Nat.le_trans (List.length_filter_le _ _) hLo
            generalize Lo.filter (dueB now) = R at DU KI1 hRl
            go_wp2_with ((go_at_call 13; (with_reducible refine (DU.out).mono ?_); rintro e w3 ⟨a3, c3, rfl, f3⟩; have F3 := Lib.hid f3; clear f3))
            have OW3 := Lib.hid (OW1.out.later F3.out.2)
            have KWR := Lib.hid (KW1.out.fresh F3.out)
            clear DU KO1 KW1 OW1 F3
            go_loopw [9, 17] (fun l i wx => ∃ (j : Nat) (L5 : List Msg) (a5 : Option Addr) (c5 : Nat) (T5 : Nat → Nat) (D5 : Nat → Bool), j ≤ R.length ∧ i = .int .i64 j ∧ l = .slice a5 L5.length c5 ∧ KI k T5 D5 now (R.drop j) L5 ∧ KW W bT (bT + 1) T5 D5 wx ∧ OW W wx bT (bT + 1) (.slice a5 L5.length c5) L5 ∧ OW W wx bT (bT + 1) (.slice a3 R.length c3) R) (fun _ i _ => R.length - (intOf i).toNat)
            case atStart => exact ⟨0, Lo, ao, co, T, D, Nat.zero_le _, rfl, rfl, by rw [List.drop_zero]; exact KI1.out, KWR.out.1, OW3.out, KWR.out.2⟩
            case round =>
              obtain ⟨j, L5, a5, c5, T5, D5, hj, rfl, rfl, ki, kw5, ow5, owr⟩ := hrel
              have hL5 : L5.length ≤ 40 := ki.inv.2.2
              have KI5 := Lib.hid ki
              have KW5 := Lib.hid kw5
              have OW5 := Lib.hid ow5
              have OWR := Lib.hid owr
              clear ki kw5 ow5 owr KI1 KWR OW3
              by_cases hjl : j < R.length
              · as_aux_lemma =>
                  have hjl' : (j : Int) < R.length := by omega
                  have hdr : R.drop j = R[j] :: R.drop (j + 1) := List.drop_eq_getElem_cons hjl
                  have KI6 : Hid (KI k T5 D5 now (R[j] :: R.drop (j + 1)) L5) := Lib.hid (by rw [← hdr]; exact KI5.out)
                  obtain ⟨g, rfl, _, _, x0, _, _, x3, _, _⟩ := OWR.out.1.six j hjl
                  rw [List.getElem?_eq_getElem hjl, Option.getD_some] at x0 x3
                  generalize R[j] = m at x0 x3 KI6
                  obtain ⟨_, _, hid1, hidn, hD, hT, hat, hlv⟩ := KI6.out.first
                  obtain ⟨q, hq⟩ : ∃ q, m.id = q + 1 := ⟨m.id - 1, by omega⟩
                  have y0 := KW5.out.ar.t q (by omega)
                  have y1 := KW5.out.ar.d q (by omega)
                  have yf := KW5.out.ar.tf q
                  have zf := KW5.out.ar.df q
                  rw [hq, Nat.add_sub_cancel] at hD hT hat
                  rw [hD] at y1
                  rw [hat] at x3
                  have hx0 : ((m.id : Nat) : Int) = (q : Int) + 1 := by omega
                  rw [hx0] at x0
                  have hqk : (q : Int) + 1 ≤ k := by omega
                  have hqk' : (q : Int) + 1 < 21 := by omega
                  have HQ := Lib.hid hq
                  have HLV := Lib.hid hlv
                  have HD := Lib.hid hD
                  have HT := Lib.hid hT
                  obtain ⟨tq, htq⟩ : ∃ tq, T5 q = tq := ⟨_, rfl⟩
                  rw [htq] at y0 x3 hT
                  have HTQ := Lib.hid htq
                  clear hdr KI5 hq hlv hD htq hx0 hat hid1 hidn
                  have hw1 : IntKind.i64.wrap ((q : Int) + 1) = (q : Int) + 1 := by rw [IntKind.wrap_i64] <;> omega
                  have hw2 : IntKind.i64.wrap ((q : Int) + 1 - 1) = (q : Int) := by rw [IntKind.wrap_i64] <;> omega
                  have hw3 : IntKind.i64.wrap (q : Int) = (q : Int) := by rw [IntKind.wrap_i64] <;> omega
                  have hg1 : decide ((q : Int) + 1 < 1) = false := by simpa using (by omega : (1 : Int) ≤ q + 1)
                  have hg2 : decide ((k : Int) < (q : Int) + 1) = false := by simpa using hqk
                  have hg4 : decide ((8 : Int) ≤ (tq : Int)) = false := by simpa using (by omega : (tq : Int) < 8)
                  have hq21 : (q : Int) < 21 := by omega
                  have hq21' : q < 21 := by omega
                  have hq0 : (0 : Int) ≤ q := by omega
                  have htn : ((q : Int)).toNat = q := by omega
                  have hgb : bT ≠ g := fun e => OWR.out.2.1 (by rw [e]; rfl)
                  have hfar : ∀ (nn : Nat) (v : Value), ((wr.drewN nn).setCell ⟨bT, q, none⟩ v).cell? ⟨g, j * 6, none⟩ = some (.int .u64 ((q : Int) + 1)) := fun nn v => by
                    rw [World.cell?_setCell_far _ _ _ _ hgb]
                    exact x0
                  have eqi : ((q + 1 : Nat) : Int) = (q : Int) + 1 := by omega
                  have eti : ((tq + 1 : Nat) : Int) = (tq : Int) + 1 := by omega
                  have WX : Hid (∀ nn : Nat, KW W bT (bT + 1) (upd T5 q (tq + 1)) D5 ((wr.drewN nn).setCell ⟨bT, q, none⟩ (.int .i64 ((tq : Int) + 1))) ∧ OW W ((wr.drewN nn).setCell ⟨bT, q, none⟩ (.int .i64 ((tq : Int) + 1))) bT (bT + 1) (.slice a5 L5.length c5) L5 ∧ OW W ((wr.drewN nn).setCell ⟨bT, q, none⟩ (.int .i64 ((tq : Int) + 1))) bT (bT + 1) (.slice (some ⟨g, 0, none⟩) R.length c3) R) := Lib.hid (fun nn => by
                    have bd := below_drewN (Below.refl wr.heap.size wr) nn
                    have h1 := (KW5.out.later bd).setT q hq21' (tq + 1)
                    rw [eti] at h1
                    exact ⟨h1, (OW5.out.later bd).setB q _, (OWR.out.later bd).setB q _⟩)
                  have FL : Hid (∀ w : World, OW W w bT (bT + 1) (.slice a5 L5.length c5) L5 → Calls Tryd.prog 9 #[.slice a5 L5.length c5, .int .u64 ((q : Int) + 1), .int .i64 now] w fun e w' => ∃ a c, e = .returned (.tuple #[.slice a (failR L5 (q + 1) now).length c, .int .i64 0]) ∧ Fresh w w' (.slice a (failR L5 (q + 1) now).length c) (failR L5 (q + 1) now)) := Lib.hid (fun w h => by
                    have h2 := failed_v h.1 (by omega) (q + 1) now
                    have h3 := HLV.out
                    rw [HQ.out] at h3
                    rw [eqi, h3] at h2
                    exact h2)
                  have TK : Hid (∀ w : World, OW W w bT (bT + 1) (.slice a5 L5.length c5) L5 → Calls Tryd.prog 15 #[.slice a5 L5.length c5, .int .u64 ((q : Int) + 1)] w fun e w' => ∃ a c, e = .returned (.tuple #[.slice a (takeR L5 (q + 1)).length c, .int .i64 0]) ∧ Fresh w w' (.slice a (takeR L5 (q + 1)).length c) (takeR L5 (q + 1))) := Lib.hid (fun w h => by
                    have h2 := taken_v h.1 (by omega) (q + 1)
                    have h3 := HLV.out
                    rw [HQ.out] at h3
                    rw [eqi, h3] at h2
                    exact h2)
                  have KF : Hid (KI k (upd T5 q (tq + 1)) D5 now (R.drop (j + 1)) (failR L5 (q + 1) now)) := Lib.hid (by
                    have h := KI6.out.fail
                    rw [HQ.out, Nat.add_sub_cancel, HTQ.out] at h
                    exact h)
                  have KT : Hid (KI k (upd T5 q (tq + 1)) (upd D5 q true) now (R.drop (j + 1)) (takeR L5 (q + 1))) := Lib.hid (by
                    have h := KI6.out.take
                    rw [HQ.out, Nat.add_sub_cancel, HTQ.out] at h
                    exact h)
                  generalize failR L5 (q + 1) now = L6 at FL KF
                  generalize takeR L5 (q + 1) = L7 at TK KT
                  clear KI6 HLV HQ HT HTQ eqi eti hgb
                  go_wp2_with fail
                  refine wp_region_quiet_lit (by kernel_rfl) (by kernel_rfl) ?_
                  repeat (with_reducible refine wpQuiet_step (fun K hK => ?_); go_simp; with_reducible refine hK _ ?_; clear hK K)
                  refine wpQuiet_nil ?_
                  intro _ hw'
                  obtain ⟨nq, hw''⟩ := hw'
                  subst hw''
                  go_wp2_with fail
                  by_cases hA : q < len
                  · obtain ⟨bb, off, x, rfl, hb, hx⟩ := hsl q hA
                    have hx5 := (KW5.out.bel.cell (p := ⟨bb, off + q, none⟩) hb).trans hx
                    have hA1 : (q : Int) + 1 ≤ len := by omega
                    have hA2 : decide ((q : Int) + 1 ≤ len) = true := by simpa using hA1
                    have hA3 : (q : Int) < len := by omega
                    clear hx hb hsl
                    obtain ⟨y, hy⟩ : ∃ y, (bits .and .u64 (x / 2 ^ min (IntKind.u64.wrap (tq : Int)).toNat 64) 1 == 1) = y := ⟨_, rfl⟩
                    have HY := Lib.hid hy
                    clear hy
                    refine wp_region_quiet_lit (by kernel_rfl) (by kernel_rfl) ?_
                    repeat (with_reducible refine wpQuiet_step (fun K hK => ?_); go_simp; with_reducible refine hK _ ?_; clear hK K)
                    refine wpQuiet_nil ?_
                    intro _ hw'
                    obtain ⟨nq, hw''⟩ := hw'
                    subst hw''
                    rw [HY.out]
                    clear HY
                    cases y
                    · go_wp2_with ((go_at_call 9; (with_reducible refine (FL.out _ (WX.out _).2.1).mono ?_); rintro e w6 ⟨a6, c6, rfl, f6⟩; have K6 := Lib.hid ((WX.out _).1.fresh f6); have R6 := Lib.hid ((WX.out _).2.2.later f6.2); clear f6))
                      go_roundw
                      case rel => exact ⟨j + 1, L6, a6, c6, _, _, by omega, by go_num, rfl, KF.out, K6.out.1, K6.out.2, R6.out⟩
                      case measure => first | (simp only [intOf]; omega) | (simp [intOf]; omega)
                    · go_wp2_with ((go_at_call 15; (with_reducible refine (TK.out _ (WX.out _).2.1).mono ?_); rintro e w6 ⟨a6, c6, rfl, f6⟩; have K6 := Lib.hid ((WX.out _).1.fresh f6); have R6 := Lib.hid ((WX.out _).2.2.later f6.2); have y6 := K6.out.1.ar.d q hq21'; rw [HD.out] at y6; have z6 := K6.out.1.ar.df q; clear f6))
                      go_roundw
                      case rel => exact ⟨j + 1, L7, a6, c6, _, _, by omega, by go_num, rfl, KT.out, K6.out.1.setD q hq21' true, K6.out.2.setC q _, R6.out.setC q _⟩
                      case measure => first | (simp only [intOf]; omega) | (simp [intOf]; omega)
                  · have hA1 : ¬ (q : Int) + 1 ≤ len := by omega
                    have hA2 : decide ((q : Int) + 1 ≤ len) = false := by simpa using hA1
                    refine wp_region_quiet_lit (by kernel_rfl) (by kernel_rfl) ?_
                    repeat (with_reducible refine wpQuiet_step (fun K hK => ?_); go_simp; with_reducible refine hK _ ?_; clear hK K)
                    refine wpQuiet_nil ?_
                    intro _ hw'
                    obtain ⟨nq, hw''⟩ := hw'
                    subst hw''
                    go_wp2_with ((go_at_call 9; (with_reducible refine (FL.out _ (WX.out _).2.1).mono ?_); rintro e w6 ⟨a6, c6, rfl, f6⟩; have K6 := Lib.hid ((WX.out _).1.fresh f6); have R6 := Lib.hid ((WX.out _).2.2.later f6.2); clear f6))
                    go_roundw
                    case rel => exact ⟨j + 1, L6, a6, c6, _, _, by omega, by go_num, rfl, KF.out, K6.out.1, K6.out.2, R6.out⟩
                    case measure => first | (simp only [intOf]; omega) | (simp [intOf]; omega)

              · as_aux_lemma =>
                  have hjl' : ¬ (j : Int) < R.length := by omega
                  have hje : R.drop j = [] := List.drop_eq_nil_of_le (by omega)
                  have KO5 : Hid (KO k T5 D5 (now + 1 + s) L5) := Lib.hid (by
                    have h := KI5.out
                    rw [hje] at h
                    have h2 := h.done (1 + s) (by omega)
                    rwa [show now + (1 + s) = now + 1 + s by omega] at h2)
                  clear KI5 OWR hje hjl hj
                  go_wp2_with fail
                  go_roundw
                  case rel => exact ⟨now + 1 + s, L5, a5, c5, T5, D5, rfl, by omega, by omega, rfl, KO5.out, KW5.out, OW5.out⟩
                  case measure => first | (simp only [intOf]; omega) | (simp [intOf]; omega)

        · as_aux_lemma =>
            obtain ⟨_, ov1, ov2, ov3⟩ := KO1.out.over (by omega)
            have hinv := KO1.out.inv
            have hcnt := KO1.out.cnt
            have DD : Hid (∀ w : World, OW W w bT (bT + 1) (.slice ao Lo.length co) Lo → Calls Tryd.prog 18 #[.slice ao Lo.length co] w fun e w' => ∃ a c, e = .returned (.slice a Lo.length c) ∧ Below w.heap.size w w') := Lib.hid (fun w h => by
              have h2 := deads_v h.1 (by omega)
              rw [ov1] at h2
              exact h2.mono fun e w' ⟨a, c, he, f⟩ => ⟨a, c, he, f.2⟩)
            have CK : Hid (∀ w : World, OW W w bT (bT + 1) (.slice ao Lo.length co) Lo → Below W.heap.size W w → Calls Tryd.prog 19 #[.slice ao Lo.length co] w fun e w' => e = .returned (.bool true) ∧ Below w.heap.size w w') := Lib.hid (fun w h b => by
              have hc := inv_check hinv
              have h2 := check_v h.1 (by omega) hc.2 (HM.out.below b)
              rw [hc.1] at h2
              exact h2)
            have FG : Hid (∀ w : World, OW W w bT (bT + 1) (.slice ao Lo.length co) Lo → Calls Tryd.prog 14 #[.slice ao Lo.length co] w fun e w' => ∃ a c, e = .returned (.slice a 0 c) ∧ Below w.heap.size w w') := Lib.hid (fun w h => by
              have h2 := forget_v h.1 (by omega)
              rw [ov2] at h2
              exact h2.mono fun e w' ⟨a, c, he, f⟩ => ⟨a, c, he, f.2⟩)
            have OV3 := Lib.hid ov3
            have HC := Lib.hid hcnt
            clear ov1 ov2 ov3 hinv hcnt KO1
            go_wp2_with ((go_at_call 18; (with_reducible refine (DD.out _ OW1.out).mono ?_); rintro e w3 ⟨a3, c3, rfl, b3⟩; have B3 := Lib.hid b3; clear b3))
            have KW3 := Lib.hid (KW1.out.later B3.out)
            have OW3 := Lib.hid (OW1.out.later B3.out)
            clear DD KW1 OW1 B3
            go_loop [25, 26] (fun lv i => ∃ j : Nat, j ≤ k ∧ i = .int .i64 j ∧ lv = .int .i64 (lf D j : Nat)) (fun _ i => k - (intOf i).toNat)
            case atStart => exact ⟨0, Nat.zero_le _, rfl, rfl⟩
            case round =>
              obtain ⟨j, hj, rfl, rfl⟩ := hrel
              by_cases hjl : j < k
              · as_aux_lemma =>
                  have hjl' : (j : Int) < k := by omega
                  have hj21 : (j : Int) < 21 := by omega
                  have hj0 : (0 : Int) ≤ j := by omega
                  have y1 := KW3.out.ar.d j (by omega)
                  have y0 := KW3.out.ar.t j (by omega)
                  have hl1 : lf D (j + 1) = lf D j + (if D j then 0 else 1) := rfl
                  have hle := lf_le D j
                  cases hd : D j
                  · rw [hd] at y1 hl1
                    rw [OV3.out j hjl hd] at y0
                    simp only [Bool.false_eq_true, if_false] at hl1
                    have HL := Lib.hid hl1
                    clear hl1 hd
                    generalize lf D j = l1 at *
                    go_wp2_with fail
                    go_round
                    case rel => exact ⟨j + 1, by omega, by simp, by rw [HL.out]; first | (simp; done) | go_num⟩
                    case measure => first | (simp only [intOf]; omega) | (simp [intOf]; omega)
                  · rw [hd] at y1 hl1
                    simp only [if_true] at hl1
                    have HL := Lib.hid hl1
                    clear hl1 hd
                    generalize lf D j = l1 at *
                    go_wp2_with fail
                    go_round
                    case rel => exact ⟨j + 1, by omega, by simp, by rw [HL.out]; simp⟩
                    case measure => first | (simp only [intOf]; omega) | (simp [intOf]; omega)
              · as_aux_lemma =>
                  have hjl' : ¬ (j : Int) < k := by omega
                  have hje : j = k := by omega
                  subst hje
                  have hlc : (lf D j : Nat) = Lo.length := HC.out
                  rw [hlc]
                  clear hlc HC OV3
                  go_wp2_with (first
                    | (go_at_call 19; (with_reducible refine (CK.out _ OW3.out KW3.out.bel).mono ?_); rintro e w4 ⟨rfl, b4⟩; have B4 := Lib.hid b4; clear b4)
                    | (go_at_call 14; (with_reducible refine (FG.out _ (OW3.out.later B4.out)).mono ?_); rintro e w5 ⟨a5, c5, rfl, b5⟩; have B5 := Lib.hid b5; clear b5))
                  go_ret
                  have b45 := B4.out.trans (B5.out.mono B4.out.size)
                  exact ⟨rfl, KW3.out.bel.trans (b45.mono KW3.out.bel.size)⟩

end Go.Proofs.YtleobnfmbhobgaaDoor
