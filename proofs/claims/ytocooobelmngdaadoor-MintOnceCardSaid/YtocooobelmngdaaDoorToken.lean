/- token.Encode and token.Token: the digits of a text, five bits each. -/
import Derived.Test.YtocooobelmngdaaDoorBld
import Derived.Laws.BitsAllLaws
namespace Go.Proofs.YtocooobelmngdaaDoor
open Go.RowKit

theorem i64_or_nat (a b : Nat) (ha : a < 9223372036854775808) (hb : b < 9223372036854775808) : bits .or .i64 (a : Int) (b : Int) = ((a ||| b : Nat) : Int) := by
  have hx : a ||| b < 2 ^ 63 := Nat.or_lt_two_pow (by omega) (by omega)
  show IntKind.i64.wrap ((BitVec.ofInt 64 (a : Int) ||| BitVec.ofInt 64 (b : Int)).toNat : Int) = _
  rw [BitVec.toNat_or, ofInt_u64 a (by omega), ofInt_u64 b (by omega)]
  exact IntWalk.i64_in _ (by omega)
theorem i64_and_nat (a b : Nat) (ha : a < 9223372036854775808) (hb : b < 9223372036854775808) : bits .and .i64 (a : Int) (b : Int) = ((a &&& b : Nat) : Int) := by
  have hx : a &&& b < 2 ^ 63 := Nat.and_lt_two_pow _ (by omega)
  show IntKind.i64.wrap ((BitVec.ofInt 64 (a : Int) &&& BitVec.ofInt 64 (b : Int)).toNat : Int) = _
  rw [BitVec.toNat_and, ofInt_u64 a (by omega), ofInt_u64 b (by omega)]
  exact IntWalk.i64_in _ (by omega)

theorem join_bits (v by_ more : Nat) (h : v * 2 ^ by_ + more < 4096) (hm : more < 2 ^ by_) : bits .or .i64 (wrap64 ((v : Int) * 2 ^ by_)) (more : Int) = ((v * 2 ^ by_ + more : Nat) : Int) := by
  have h9 : ((v * 2 ^ by_ : Nat) : Int) = (v : Int) * 2 ^ by_ := by push_cast; rfl
  have hj := nat_join by_ (v * 2 ^ by_) more (Nat.mul_mod_left _ _) hm
  rw [← h9, ← hj]
  generalize v * 2 ^ by_ = x at *
  have e0 : wrap64 (x : Int) = (x : Int) := by unfold wrap64; omega
  rw [e0]
  exact i64_or_nat x more (by omega) (by omega)
/-- The alphabet. -/
def alpha : List UInt8 := [97, 98, 99, 100, 101, 102, 103, 104, 105, 106, 107, 108, 109, 110, 111, 112, 113, 114, 115, 116, 117, 118, 119, 120, 121, 122, 50, 51, 52, 53, 54, 55]
theorem and31 (x : Nat) (h : x < 4096) : bits .and .i64 (x : Int) 31 = ((x % 32 : Nat) : Int) := by
  have := i64_and_nat x 31 (by omega) (by omega)
  rw [nat_mask5] at this
  exact this
theorem mask_bits (x m : Nat) (h : x < 4096) (hm : m < 5) : bits .and .i64 (x : Int) (wrap64 (wrap64 (2 ^ m) - 1)) = ((x % 2 ^ m : Nat) : Int) := by
  have hc : m = 0 ∨ m = 1 ∨ m = 2 ∨ m = 3 ∨ m = 4 := by omega
  have e := fun b hb => i64_and_nat x b (by omega) hb
  rcases hc with rfl | rfl | rfl | rfl | rfl
  · rw [show wrap64 (wrap64 (2 ^ 0) - 1) = ((0 : Nat) : Int) by decide +kernel, e 0 (by decide), Nat.and_zero, show x % 2 ^ 0 = 0 by omega]
  · rw [show wrap64 (wrap64 (2 ^ 1) - 1) = ((1 : Nat) : Int) by decide +kernel, e 1 (by decide), nat_mask1]
  · rw [show wrap64 (wrap64 (2 ^ 2) - 1) = ((3 : Nat) : Int) by decide +kernel, e 3 (by decide), nat_mask2]
  · rw [show wrap64 (wrap64 (2 ^ 3) - 1) = ((7 : Nat) : Int) by decide +kernel, e 7 (by decide), nat_mask3]
  · rw [show wrap64 (wrap64 (2 ^ 4) - 1) = ((15 : Nat) : Int) by decide +kernel, e 15 (by decide), nat_mask4]
/-- A digit. -/
def dig (v : Nat) : UInt8 := alpha.getD (v % 32) 0
theorem alpha_at (d : Nat) (h : d < 32) (h' : d < (⟨#[97, 98, 99, 100, 101, 102, 103, 104, 105, 106, 107, 108, 109, 110, 111, 112, 113, 114, 115, 116, 117, 118, 119, 120, 121, 122, 50, 51, 52, 53, 54, 55]⟩ : ByteArray).size) :
    (((⟨#[97, 98, 99, 100, 101, 102, 103, 104, 105, 106, 107, 108, 109, 110, 111, 112, 113, 114, 115, 116, 117, 118, 119, 120, 121, 122, 50, 51, 52, 53, 54, 55]⟩ : ByteArray)[d]'h').toNat : Int) = ((alpha.getD d 0).toNat : Int) := by
  have hc : d = 0 ∨ d = 1 ∨ d = 2 ∨ d = 3 ∨ d = 4 ∨ d = 5 ∨ d = 6 ∨ d = 7 ∨ d = 8 ∨ d = 9 ∨ d = 10 ∨ d = 11 ∨ d = 12 ∨ d = 13 ∨ d = 14 ∨ d = 15 ∨ d = 16 ∨ d = 17 ∨ d = 18 ∨ d = 19 ∨ d = 20 ∨ d = 21 ∨ d = 22 ∨ d = 23 ∨ d = 24 ∨ d = 25 ∨ d = 26 ∨ d = 27 ∨ d = 28 ∨ d = 29 ∨ d = 30 ∨ d = 31 := by omega
  rcases hc with rfl | rfl | rfl | rfl | rfl | rfl | rfl | rfl | rfl | rfl | rfl | rfl | rfl | rfl | rfl | rfl | rfl | rfl | rfl | rfl | rfl | rfl | rfl | rfl | rfl | rfl | rfl | rfl | rfl | rfl | rfl | rfl <;> rfl
/-- The digits that n bits of v give, five each, from the front; fewer than five are left. -/
def emits (v : Nat) : Nat → List UInt8
  | n => if h : n < 5 then [] else dig (v / 2 ^ (n - 5)) :: emits v (n - 5)
termination_by n => n
decreasing_by omega

theorem emits_lo (v n : Nat) (h : n < 5) : emits v n = [] := by rw [emits, dif_pos h]
theorem emits_hi (v n : Nat) (h : ¬ n < 5) : emits v n = dig (v / 2 ^ (n - 5)) :: emits v (n - 5) := by rw [emits, dif_neg h]

theorem heap_set {w : World} {g : Nat} {v : Value} {T : TypeId} {fz : Nat × Nat} (h : w.heap[g]? = some (.cells #[v] T fz)) (u : Value) : (w.setCell ⟨g, 0, none⟩ u).heap[g]? = some (.cells #[u] T fz) := by
  simp only [World.setCell, Array.getElem?_modify]
  rw [h]; simp
theorem heap_set_ne {w : World} {g k : Nat} {o : Obj} (h : w.heap[k]? = some o) (hne : k ≠ g) (i : Nat) (u : Value) : (w.setCell ⟨g, i, none⟩ u).heap[k]? = some o := by
  rw [Below.heap_setCell _ _ _ _ hne]; exact h
theorem BldAt.set_other {T T' : TypeId} {B b g : Nat} {p : Value} {bs : List Value} {w : World} {cs : Array Value} {fz : Nat × Nat} (h : Lib.BuilderAt T 5 B b p bs w) (hg : w.heap[g]? = some (.cells cs T' fz)) (hT : T' ≠ 5) (hgb : g ≠ b) (i : Nat) (u : Value) :
    Lib.BuilderAt T 5 B b p bs (w.setCell ⟨g, i, none⟩ u) := by
  obtain ⟨hB, v, hbk, hown, hne⟩ := h
  refine ⟨hB, v, heap_set_ne hbk (Ne.symm hgb) i u, ⟨hown.1, ?_⟩, hne⟩
  rcases hown.2 with h1 | ⟨g', cap, cur, hv, hB', hg', r⟩
  · exact .inl h1
  · refine .inr ⟨g', cap, cur, hv, hB', heap_set_ne hg' (fun e => ?_) i u, r⟩
    rw [e, hg] at hg'
    injection hg' with e1
    injection e1 with _ e2
    exact hT e2
theorem Bld.set_other {T T' : TypeId} {B b g : Nat} {bs : List Value} {w : World} {cs : Array Value} {fz : Nat × Nat} (h : Bld T B b bs w) (hg : w.heap[g]? = some (.cells cs T' fz)) (hT : T' ≠ 5) (hgb : g ≠ b) (i : Nat) (u : Value) :
    Bld T B b bs (w.setCell ⟨g, i, none⟩ u) := h.imp (fun h => BldAt.set_other h hg hT hgb i u) (fun h => BldAt.set_other h hg hT hgb i u)

set_option maxHeartbeats 2000000 in
set_option maxRecDepth 100000 in
theorem put_any (B b g1 g2 : Nat) (l : List UInt8) (v n more by_ : Nat) (w : World) (hb : Bld 74 B b (Lib.byteCells l) w) (h1 : w.heap[g1]? = some (.cells #[.int .i64 v] 3 (0, 0))) (h2 : w.heap[g2]? = some (.cells #[.int .i64 n] 3 (0, 0)))
    (hv : v < 2 ^ n) (hn : n ≤ 4) (hby : by_ ≤ 8) (hm : more < 2 ^ by_) (e1 : B ≤ g1) (e2 : B ≤ g2) (n1 : g1 ≠ b) (n2 : g2 ≠ b) (n3 : g1 ≠ g2) (hlen : l.length + 10 ≤ 140737488355328) (hBw : B ≤ w.heap.size) :
    Calls Tryd.prog 48 #[.int .i64 more, .int .i64 by_, .pointer (some ⟨g1, 0, none⟩), .pointer (some ⟨g2, 0, none⟩), .pointer (some ⟨b, 0, none⟩)] w fun e w' =>
      e = .returned (.tuple #[]) ∧ (Bld 74 B b (Lib.byteCells (l ++ emits (v * 2 ^ by_ + more) (n + by_))) w' ∧ w'.heap[g1]? = some (.cells #[.int .i64 ((v * 2 ^ by_ + more) % 2 ^ ((n + by_) % 5) : Nat)] 3 (0, 0)) ∧ w'.heap[g2]? = some (.cells #[.int .i64 ((n + by_) % 5 : Nat)] 3 (0, 0)) ∧ Below B w w') := by
  have c1 : w.cell? ⟨g1, 0, none⟩ = some (.int .i64 v) := by rw [Lib.cell_of_heap h1]; rfl
  have c2 : w.cell? ⟨g2, 0, none⟩ = some (.int .i64 n) := by rw [Lib.cell_of_heap h2]; rfl
  have f1 : w.frozen? ⟨g1, 0, none⟩ = false := Lib.frozen_of_heap h1 0
  have f2 : w.frozen? ⟨g2, 0, none⟩ = false := Lib.frozen_of_heap h2 0
  have H1 := Lib.hid h1
  have H2 := Lib.hid h2
  have Hv := Lib.hid hv
  have Hm := Lib.hid hm
  obtain ⟨v1, hv1⟩ : ∃ v1, v1 = v * 2 ^ by_ + more := ⟨_, rfl⟩
  have hb0 : v1 < 4096 := by
    have h2n : (2 : Nat) ^ n ≤ 2 ^ 4 := Nat.pow_le_pow_right (by decide) hn
    have h2b : (2 : Nat) ^ by_ ≤ 2 ^ 8 := Nat.pow_le_pow_right (by decide) hby
    have h3 : v * 2 ^ by_ ≤ 15 * 2 ^ by_ := Nat.mul_le_mul_right _ (by omega)
    omega
  have ho : bits .or .i64 (wrap64 ((v : Int) * 2 ^ by_)) (more : Int) = ((v1 : Nat) : Int) := by
    rw [hv1]; exact join_bits v by_ more (by rw [← hv1]; exact hb0) hm
  have HO := Lib.hid ho
  have HV := Lib.hid hv1
  rw [← hv1]
  clear h1 h2 hv hm ho hv1
  go_enter Tryd.func48, Tryd.ntmps48
  go_wp2_with fail
  go_region
  rw [HO.out]
  obtain ⟨w2, hw2⟩ : ∃ w2, w2 = ((w.setCell ⟨g1, 0, none⟩ (.int .i64 (v1 : Nat))).setCell ⟨g2, 0, none⟩ (.int .i64 ((n : Int) + (by_ : Int)))).drew := ⟨_, rfl⟩
  have k1 : w2.heap[g1]? = some (.cells #[.int .i64 (v1 : Nat)] 3 (0, 0)) := by
    rw [hw2]; exact heap_set_ne (heap_set H1.out _) n3 0 _
  have k2 : w2.heap[g2]? = some (.cells #[.int .i64 ((n + by_ : Nat) : Int)] 3 (0, 0)) := by
    rw [hw2]; exact heap_set (heap_set_ne H2.out (Ne.symm n3) 0 _) _
  have k3 : Bld 74 B b (Lib.byteCells l) w2 := by
    rw [hw2]; exact Bld.set_other (Bld.set_other hb H1.out (by decide) n1 0 _) (heap_set_ne H2.out (Ne.symm n3) 0 _) (by decide) n2 0 _
  have k4 : Below B w w2 := by
    rw [hw2]; exact below_drew (((Below.refl B w).setCell (p := ⟨g1, 0, none⟩) e1 _).setCell (p := ⟨g2, 0, none⟩) e2 _)
  rw [← hw2]
  clear hw2 c1 c2 f1 f2 hb
  have K1 := Lib.hid k1
  have K2 := Lib.hid k2
  clear k1 k2
  go_wp2_with fail
  go_loopw [15] (fun _ wr => ∃ (m : Nat) (l' : List UInt8), m ≤ 12 ∧ m % 5 = (n + by_) % 5 ∧ l' ++ emits v1 m = l ++ emits v1 (n + by_) ∧ l'.length + m / 5 = l.length + (n + by_) / 5 ∧ Bld 74 B b (Lib.byteCells l') wr ∧ wr.heap[g1]? = some (.cells #[.int .i64 (v1 : Nat)] 3 (0, 0)) ∧ wr.heap[g2]? = some (.cells #[.int .i64 (m : Nat)] 3 (0, 0)) ∧ Below B w wr)
    (fun _ wr => match wr.cell? ⟨g2, 0, none⟩ with | some x => (intOf x).toNat | none => 0)
  case atStart => exact ⟨n + by_, l, by omega, rfl, rfl, rfl, k3, K1.out, K2.out, k4⟩
  case round =>
    obtain ⟨m, l', hm12, hm5, hl, hll, hb, h1, h2, hbel⟩ := hrel
    have c1 : wr.cell? ⟨g1, 0, none⟩ = some (.int .i64 (v1 : Nat)) := by rw [Lib.cell_of_heap h1]; rfl
    have c2 : wr.cell? ⟨g2, 0, none⟩ = some (.int .i64 (m : Nat)) := by rw [Lib.cell_of_heap h2]; rfl
    have f1 : wr.frozen? ⟨g1, 0, none⟩ = false := Lib.frozen_of_heap h1 0
    have f2 : wr.frozen? ⟨g2, 0, none⟩ = false := Lib.frozen_of_heap h2 0
    have H1' := Lib.hid h1
    have H2' := Lib.hid h2
    have H5 := Lib.hid hm5
    have Hl := Lib.hid hl
    have Hll := Lib.hid hll
    clear h1 h2 hm5 hl hll
    by_cases h5 : m < 5
    · go_wp2_with fail
      go_region
      rw [mask_bits v1 m hb0 h5]
      go_wp2_with fail
      go_end0
      have hmm : m = (n + by_) % 5 := by have := H5.out; omega
      refine ⟨rfl, ?_, ?_, ?_, hbel.trans (below_drew ((Below.refl B wr).setCell (p := ⟨g1, 0, none⟩) e1 _))⟩
      · have h7 := Hl.out
        rw [emits_lo v1 m h5, List.append_nil] at h7
        rw [← h7]
        exact Bld.set_other hb H1'.out (by decide) n1 0 _
      · rw [← hmm]; exact heap_set H1'.out _
      · rw [← hmm]; exact heap_set_ne H2'.out (Ne.symm n3) 0 _
    · obtain ⟨d, hd, hd32⟩ : ∃ d, d = v1 / 2 ^ (m - 5) % 32 ∧ d < 32 := ⟨_, rfl, Nat.mod_lt _ (by decide)⟩
      have ha : bits .and .i64 ((v1 : Int) / 2 ^ (m - 5)) 31 = ((d : Nat) : Int) := by
        have h9 : ((v1 / 2 ^ (m - 5) : Nat) : Int) = (v1 : Int) / 2 ^ (m - 5) := by push_cast; rfl
        have h8 : v1 / 2 ^ (m - 5) < 4096 := Nat.lt_of_le_of_lt (Nat.div_le_self _ _) hb0
        rw [← h9, hd]; exact and31 _ h8
      have Hd := Lib.hid hd
      clear hd
      have hz := hbel.size
      have h1l : l'.length + 1 ≤ 140737488355328 := by have := Hll.out; omega
      have Hal := fun h' => Lib.hid (alpha_at d hd32 h')
      go_wp2_with fail
      refine (writeByte_any _ bldT_builder B b _ _ _ (Bld.set_other hb H2'.out (by decide) n2 0 _) (by rw [Lib.byteCells_length]; exact h1l) (by simp; omega)).mono ?_
      rintro e w3 ⟨rfl, hb3, hbel3, hk3⟩
      have q1 := Lib.hid (cell_others hk3 (heap_set_ne H1'.out n3 0 (.int .i64 ((m : Int) - 5))) (fun e => n1 (Option.some.inj e)) (by decide))
      have q2 := Lib.hid (cell_others hk3 (heap_set H2'.out (.int .i64 ((m : Int) - 5))) (fun e => n2 (Option.some.inj e)) (by decide))
      go_wp2_with fail
      go_roundw
      case rel =>
        refine ⟨m - 5, l' ++ [dig (v1 / 2 ^ (m - 5))], by omega, by have := H5.out; omega, ?_, ?_, ?_, q1.out, ?_, hbel.trans ((((Below.refl B wr).setCell (p := ⟨g2, 0, none⟩) e2 _)).trans hbel3)⟩
        · rw [← Hl.out, emits_hi v1 m h5]; simp
        · have := Hll.out; simp; omega
        · rw [Lib.byteCells_append]
          rw [(Hal _).out] at hb3
          have hdg : alpha.getD d 0 = dig (v1 / 2 ^ (m - 5)) := by rw [Hd.out]; rfl
          rw [hdg] at hb3
          exact hb3
        · have := q2.out
          rwa [show (m : Int) - 5 = ((m - 5 : Nat) : Int) by omega] at this
      case measure =>
        rw [Lib.cell_of_heap q2.out, Lib.cell_of_heap H2'.out]
        simp [intOf]; omega
end Go.Proofs.YtocooobelmngdaaDoor
