/- slices.DeleteFunc of cases, with open's closure: those that are over go. -/
import Derived.Test.YtcidllckmidkoaaDoorCset
import Derived.Test.YtcidllckmidkoaaDoorCixf
namespace Go.Proofs.YtcidllckmidkoaaDoor
open Go.RowKit Go.Maps

def keepO (now : Int) (c : Cas) : Bool := !overB c now
/-- A row of which the first j were looked at, and i kept. -/
structure DF (L : List Cas) (now : Int) (j i : Nat) (ms : List Cas) : Prop where
  len : ms.length = L.length
  lt : i < j
  le : j ≤ L.length
  tk : ms.take i = (L.take j).filter (keepO now)
  dr : ms.drop j = L.drop j
theorem DF.at {L ms : List Cas} {now : Int} {j i : Nat} (h : DF L now j i ms) (hj : j < L.length) : ms[j]?.getD noCas = L[j] := by
  have e := congrArg (fun l => l[0]?) h.dr
  simp only [List.getElem?_drop, Nat.add_zero] at e
  rw [e, List.getElem?_eq_getElem hj]
  rfl
theorem DF.keep {L ms : List Cas} {now : Int} {j i : Nat} (h : DF L now j i ms) (hj : j < L.length) (hk : overB L[j] now = false) : DF L now (j + 1) (i + 1) (ms.set i L[j]) := by
  have hl := h.len
  have ht := h.lt
  refine ⟨by rw [List.length_set]; exact h.len, by omega, by omega, ?_, ?_⟩
  · rw [List.take_succ_eq_append_getElem (by rw [List.length_set]; omega), List.getElem_set_self, List.take_set_of_le (by omega), h.tk, List.take_succ_eq_append_getElem hj, List.filter_append]
    congr 1
    simp [keepO, hk]
  · rw [List.drop_set_of_lt (by omega)]
    have e := congrArg (List.drop 1) h.dr
    rw [List.drop_drop, List.drop_drop] at e
    exact e
theorem DF.go {L ms : List Cas} {now : Int} {j i : Nat} (h : DF L now j i ms) (hj : j < L.length) (hk : overB L[j] now = true) : DF L now (j + 1) i ms := by
  have ht := h.lt
  refine ⟨h.len, by omega, by omega, ?_, ?_⟩
  · rw [h.tk, List.take_succ_eq_append_getElem hj, List.filter_append]
    simp [keepO, hk]
  · have e := congrArg (List.drop 1) h.dr
    rw [List.drop_drop, List.drop_drop] at e
    exact e
theorem posO_lt {L : List Cas} {now : Int} (h : posO L now < L.length) : overB L[posO L now] now = true ∧ ∀ j (hj : j < posO L now), overB (L[j]'(by omega)) now = false := by
  refine ⟨List.findIdx_getElem (w := h), fun j hj => ?_⟩
  have := List.not_of_lt_findIdx (p := fun c => overB c now) (xs := L) hj
  simpa using this
theorem take_all_kept {L : List Cas} {now : Int} : ∀ k, (hk : k ≤ L.length) → (∀ j (hj : j < k), overB (L[j]'(by omega)) now = false) → (L.take k).filter (keepO now) = L.take k
  | k, hk, h => by
    rw [List.filter_eq_self]
    intro x hx
    obtain ⟨j, hj, rfl⟩ := List.mem_iff_getElem.1 hx
    rw [List.length_take] at hj
    rw [List.getElem_take]
    unfold keepO
    rw [h j (by omega)]
    rfl
theorem DF.begin {L : List Cas} {now : Int} (h : posO L now < L.length) : DF L now (posO L now + 1) (posO L now) L := by
  obtain ⟨h1, h2⟩ := posO_lt h
  refine ⟨rfl, by omega, by omega, ?_, rfl⟩
  rw [List.take_succ_eq_append_getElem h, List.filter_append, take_all_kept _ (by omega) h2]
  simp [keepO, h1]
theorem filter_none {L : List Cas} {now : Int} (h : ¬ posO L now < L.length) : L.filter (keepO now) = L := by
  have h1 := List.findIdx_eq_length.1 (show posO L now = L.length by have := List.findIdx_le_length (xs := L) (p := fun c => overB c now); unfold posO at *; omega)
  rw [List.filter_eq_self]
  intro x hx
  have := h1 x hx
  unfold keepO
  rw [this]
  rfl
theorem mowns.put9 {w : World} {B c g n : Nat} {ms : List Cas} (h : mowns w B (.slice (some ⟨g, 0, none⟩) n c) ms) (hn : ms.length = n) (i : Nat) (hi : i < ms.length) (x : Cas) :
    mowns (((((((((w.setCell ⟨g, i * 9, none⟩ (.int .i64 x.acc)).setCell ⟨g, i * 9 + 1, none⟩ (.int .i64 x.opened)).setCell ⟨g, i * 9 + 2, none⟩ (.int .i64 x.ripe)).setCell ⟨g, i * 9 + 3, none⟩ (.int .i64 x.quorum)).setCell ⟨g, i * 9 + 4, none⟩ (.string x.v0)).setCell ⟨g, i * 9 + 5, none⟩ (.string x.v1)).setCell ⟨g, i * 9 + 6, none⟩ (.string x.v2)).setCell ⟨g, i * 9 + 7, none⟩ (.string x.v3)).setCell ⟨g, i * 9 + 8, none⟩ (.string x.v4)) B (.slice (some ⟨g, 0, none⟩) n c) (ms.set i x) := by
  unfold mowns
  rw [List.length_set, ← cset_flat ms i x hi]
  subst hn
  have hl := mflat_len ms
  unfold mowns at h
  have k : ∀ j, j < 9 → i * 9 + j < ms.length * 9 := fun j hj => by omega
  have h0 := ownsRow_put h (k := i * 9) (by rw [hl]; exact k 0 (by omega)) (.int .i64 x.acc)
  have h1 := ownsRow_put h0 (k := i * 9 + 1) (by simp only [List.length_set, hl]; exact k 1 (by omega)) (.int .i64 x.opened)
  have h2 := ownsRow_put h1 (k := i * 9 + 2) (by simp only [List.length_set, hl]; exact k 2 (by omega)) (.int .i64 x.ripe)
  have h3 := ownsRow_put h2 (k := i * 9 + 3) (by simp only [List.length_set, hl]; exact k 3 (by omega)) (.int .i64 x.quorum)
  have h4 := ownsRow_put h3 (k := i * 9 + 4) (by simp only [List.length_set, hl]; exact k 4 (by omega)) (.string x.v0)
  have h5 := ownsRow_put h4 (k := i * 9 + 5) (by simp only [List.length_set, hl]; exact k 5 (by omega)) (.string x.v1)
  have h6 := ownsRow_put h5 (k := i * 9 + 6) (by simp only [List.length_set, hl]; exact k 6 (by omega)) (.string x.v2)
  have h7 := ownsRow_put h6 (k := i * 9 + 7) (by simp only [List.length_set, hl]; exact k 7 (by omega)) (.string x.v3)
  exact ownsRow_put h7 (k := i * 9 + 8) (by simp only [List.length_set, hl]; exact k 8 (by omega)) (.string x.v4)
theorem below_nine {B g o : Nat} {w W : World} (b : Below B w W) (hg : B ≤ g) (v0 v1 v2 v3 v4 v5 v6 v7 v8 : Value) :
    Below B w (((((((((W.setCell ⟨g, o, none⟩ v0).setCell ⟨g, o + 1, none⟩ v1).setCell ⟨g, o + 2, none⟩ v2).setCell ⟨g, o + 3, none⟩ v3).setCell ⟨g, o + 4, none⟩ v4).setCell ⟨g, o + 5, none⟩ v5).setCell ⟨g, o + 6, none⟩ v6).setCell ⟨g, o + 7, none⟩ v7).setCell ⟨g, o + 8, none⟩ v8) :=
  ((((((((b.setCell hg _).setCell hg _).setCell hg _).setCell hg _).setCell hg _).setCell hg _).setCell hg _).setCell hg _).setCell hg _
/-- clear behind what was kept. -/
theorem clear_rest {w : World} {B n i cap g : Nat} {ms : List Cas} (h : mowns w B (.slice (some ⟨g, 0, none⟩) n cap) ms) (hn : ms.length = n) (hi : i < n) (ty : TypeId) (c : Nat) :
    ∃ w', (Builtin.clear_ #[22] ty #[.slice (some ⟨g, i * 9, none⟩) (n - i) c]).run Tryd.prog w = .ok (.tuple #[]) w' ∧ mowns w' B (.slice (some ⟨g, 0, none⟩) i cap) (ms.take i) ∧ w.grownBy w' (some g) := by
  subst hn
  unfold mowns at h
  have h1 := own_head h (i := i) (by omega)
  rw [mflat_take] at h1
  obtain ⟨hc, _⟩ := own_cap h
  obtain ⟨w', e1, e2, e3⟩ := clear_behind h1 (k := ms.length - i) (by omega) (by omega) ty c (i * 9) rfl
  refine ⟨w', e1, ?_, e3⟩
  unfold mowns
  rw [List.length_take, Nat.min_eq_left (by omega)]
  exact e2
set_option maxHeartbeats 4000000 in
set_option maxRecDepth 100000 in
theorem odel_any {Bs c : Nat} {a : Option Addr} {L : List Cas} {w : World} (hown : mowns w Bs (.slice a L.length c) L) (lim : L.length ≤ 1000000) (now : Int) (B : Nat) (hB : w.cell? ⟨B, 3, none⟩ = some (.int .i64 now)) (hlt : B < Bs) (hBs : Bs ≤ w.heap.size) :
    Calls Tryd.prog 41 #[.slice a L.length c, .func (.func 42) #[] #[.pointer (some ⟨B, 0, none⟩)]] w fun e w' => ∃ a' c', e = .returned (.slice a' (L.filter (keepO now)).length c') ∧ mowns w' Bs (.slice a' (L.filter (keepO now)).length c') (L.filter (keepO now)) ∧ Below Bs w w' := by
  obtain ⟨n, hn⟩ : ∃ n, L.length = n := ⟨_, rfl⟩
  have HB := Lib.hid hB
  have OW := Lib.hid hown
  have HN := Lib.hid hn
  have IX := Lib.hid (oidx_any hown lim now B hB (by omega))
  have WR := Lib.hid (Below.refl Bs w)
  rw [hn] at IX ⊢
  rw [hn] at lim
  by_cases hp : posO L now < L.length
  · have hix : idxO L now = (posO L now : Nat) := by unfold idxO; rw [if_pos hp]
    have D0 := Lib.hid (DF.begin hp)
    rw [hix] at IX
    obtain ⟨k, hk⟩ : ∃ k, posO L now = k := ⟨_, rfl⟩
    rw [hk] at IX D0
    have hkn : k < n := by omega
    have hk1 : (((k : Nat) : Int) == -1) = false := by simp
    clear hown hB hn hp hix hk
    go_enter Tryd.func41, Tryd.ntmps41
    go_wp2_with (go_at_call 48; (with_reducible refine (IX.out).mono ?_); rintro e w2 ⟨rfl, b2⟩; have B2 := Lib.hid b2; clear b2)
    go_loopw [5, 6] (fun x y wr => ∃ (i j : Nat) (ms : List Cas), x = .int .i64 i ∧ y = .int .i64 j ∧ DF L now j i ms ∧ mowns wr Bs (.slice a n c) ms ∧ Below Bs w wr) (fun _ y _ => n - (intOf y).toNat)
    case atStart => exact ⟨k, k + 1, L, rfl, by go_num, D0.out, by rw [← HN.out]; exact OW.out.below B2.out, B2.out.mono hBs⟩
    case round =>
      obtain ⟨i, j, ms, rfl, rfl, hd, ow, bw⟩ := hrel
      have hjn := hd.le
      have hij := hd.lt
      have hml := hd.len
      rw [HN.out] at hjn hml
      have BW := Lib.hid bw
      have HB2 : Hid (wr.cell? ⟨B, 3, none⟩ = some (.int .i64 now)) := Lib.hid ((bw.cell (p := ⟨B, 3, none⟩) hlt).trans HB.out)
      have hsz := Nat.le_trans hBs bw.size
      by_cases hjl : j < n
      · have hjl' : (j : Int) < n := by omega
        obtain ⟨g, rfl, hg, hg2, m0, m1, m2, m3, m4, m5, m6, m7, m8⟩ := ow.nine j (by omega)
        have hx0 := hd.at (by rw [HN.out]; exact hjl)
        obtain ⟨x, hx⟩ : ∃ x, L[j]'(by rw [HN.out]; exact hjl) = x := ⟨_, rfl⟩
        rw [hx0, hx] at m0 m1 m2 m3 m4 m5 m6 m7 m8
        obtain ⟨b, hbq⟩ : ∃ b, overB x now = b := ⟨_, rfl⟩
        have BY : Hid (∀ w2, Below wr.heap.size wr w2 → Calls Tryd.prog 42 #[x.agg, .pointer (some ⟨B, 0, none⟩)] w2 fun e w' => e = .returned (.bool b) ∧ Below w2.heap.size w2 w') := Lib.hid (fun w2 bb => by
          have h := openc_any x now B w2 ((bb.cell (p := ⟨B, 3, none⟩) (show B < wr.heap.size by omega)).trans HB2.out) (by have := bb.size; omega)
          rwa [hbq] at h)
        have OW2 := Lib.hid ow
        have DD := Lib.hid hd
        have BA : Hid (Below wr.heap.size wr (wr.alloc x.obj)) := Lib.hid ((Below.refl _ _).alloc (Nat.le_refl _) _)
        unfold Cas.obj at BA
        unfold Cas.agg at BY
        clear ow hd bw hx0
        cases b
        · have DK : Hid (DF L now (j + 1) (i + 1) (ms.set i x)) := Lib.hid (by rw [← hx]; exact DD.out.keep (by rw [HN.out]; exact hjl) (by rw [hx]; exact hbq))
          clear hx hbq
          go_wp2_with (go_at_call 42; (with_reducible refine (BY.out _ BA.out).mono ?_); rintro e w4 ⟨rfl, b4⟩; obtain ⟨⟨y0, y1, y2, y3, y4, y5, y6, y7, y8⟩, yf⟩ := box_later x b4; have B4 := Lib.hid (BA.out.trans (b4.mono BA.out.size)); clear b4; have ow4 := OW2.out.below B4.out; obtain ⟨g', hg', _, _, n0, n1, n2, n3, n4, n5, n6, n7, n8⟩ := ow4.nine i (by omega); cases hg'; have kf := ow4.free; have O4 := Lib.hid ow4; clear ow4)
          have b5 : Below Bs w w4 := BW.out.trans (B4.out.mono hsz)
          have o5 := O4.out.put9 (by omega) i (by omega) x
          have b6 := fun v0 v1 v2 v3 v4 v5 v6 v7 v8 => below_nine (o := i * 9) b5 hg v0 v1 v2 v3 v4 v5 v6 v7 v8
          have O5 := Lib.hid o5
          have B6 := Lib.hid b6
          clear o5 b6
          go_roundw
          case rel => exact ⟨i + 1, j + 1, _, by go_num, by go_num, DK.out, O5.out, B6.out _ _ _ _ _ _ _ _ _⟩
          case measure => simp [intOf]; omega
        · have DK : Hid (DF L now (j + 1) i ms) := Lib.hid (DD.out.go (by rw [HN.out]; exact hjl) (by rw [hx]; exact hbq))
          clear hx hbq
          go_wp2_with (go_at_call 42; (with_reducible refine (BY.out _ BA.out).mono ?_); rintro e w4 ⟨rfl, b4⟩; obtain ⟨⟨y0, y1, y2, y3, y4, y5, y6, y7, y8⟩, yf⟩ := box_later x b4; have B4 := Lib.hid (BA.out.trans (b4.mono BA.out.size)); clear b4; have ow4 := OW2.out.below B4.out; have O4 := Lib.hid ow4; clear ow4)
          go_roundw
          case rel => exact ⟨i, j + 1, ms, rfl, by go_num, DK.out, O4.out, BW.out.trans (B4.out.mono hsz)⟩
          case measure => simp [intOf]; omega
      · have hjl' : ¬ (j : Int) < n := by omega
        obtain rfl : j = n := by omega
        obtain ⟨g, rfl, hg, hg2, m0, m1, m2, m3, m4, m5, m6, m7, m8⟩ := ow.nine i (by omega)
        have hcap : j ≤ c ∧ c ≤ maxLen := by
          have ow' := ow
          rw [← hml] at ow'
          unfold mowns at ow'
          rw [← hml]
          exact own_cap ow'
        unfold maxLen at hcap
        obtain ⟨w5, hc5, ow5, hg5⟩ := clear_rest ow hml hij 0 (c - i)
        have htk := hd.tk
        rw [List.take_of_length_le (l := L) (by rw [HN.out]; omega)] at htk
        have HL : Hid (ms.take i = L.filter (keepO now)) := Lib.hid htk
        have OW5 := Lib.hid ow5
        have HG5 := Lib.hid hg5
        have hlq : (List.filter (keepO now) L).length = i := by rw [← htk, List.length_take]; omega
        clear ow hd bw hg5 ow5 htk
        go_wp2_with fail
        go_ret
        refine ⟨some ⟨g, 0, none⟩, c, by simp only []; rfl, ?_, ?_⟩
        · rw [← HL.out]; exact OW5.out
        · exact BW.out.grown HG5.out (by omega) (fun k hk => by cases hk; exact hg)
  · have hix : idxO L now = -1 := by unfold idxO; rw [if_neg hp]
    have HF := Lib.hid (filter_none hp)
    rw [hix] at IX
    rw [filter_none hp, HN.out]
    clear hown hB hn hp hix
    go_enter Tryd.func41, Tryd.ntmps41
    go_wp2_with (go_at_call 48; (with_reducible refine (IX.out).mono ?_); rintro e w2 ⟨rfl, b2⟩; have B2 := Lib.hid b2; clear b2)
    go_ret
    exact ⟨a, c, rfl, by rw [← HN.out]; exact OW.out.below B2.out, B2.out.mono hBs⟩
end Go.Proofs.YtcidllckmidkoaaDoor
