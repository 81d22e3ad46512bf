/- token.Encode of a text that is not empty, and token.Token of ten bytes: the digits of the text's bits, five each. -/
import Derived.Test.YtocooobelmngdaaDoorToken
namespace Go.Proofs.YtocooobelmngdaaDoor
open Go.RowKit

/-- What is kept while bits are turned into digits: bits left, how many, digits so far. -/
structure EncSt where
  v : Nat
  n : Nat
  out : List UInt8
def encStep (st : EncSt) (c : UInt8) : EncSt := ⟨(st.v * 2 ^ 8 + c.toNat) % 2 ^ ((st.n + 8) % 5), (st.n + 8) % 5, st.out ++ emits (st.v * 2 ^ 8 + c.toNat) (st.n + 8)⟩
def encRun (s : List UInt8) : EncSt := s.foldl encStep ⟨0, 0, []⟩
/-- A text's digits. -/
def encF (s : List UInt8) : List UInt8 := let st := encRun s; if 0 < st.n then st.out ++ emits (st.v * 2 ^ (5 - st.n) + 0) (st.n + (5 - st.n)) else st.out

theorem snocInd {α : Type} {P : List α → Prop} (h0 : P []) (hs : ∀ r c, P r → P (r ++ [c])) : ∀ s, P s := by
  intro s
  have h : ∀ r : List α, P r.reverse := by
    intro r
    induction r with
    | nil => exact h0
    | cons c r ih => rw [List.reverse_cons]; exact hs _ _ ih
  have := h s.reverse
  rwa [List.reverse_reverse] at this
theorem encRun_snoc (s : List UInt8) (c : UInt8) : encRun (s ++ [c]) = encStep (encRun s) c := by simp [encRun, List.foldl_append]
theorem encStep_inv (st : EncSt) (c : UInt8) : (encStep st c).n ≤ 4 ∧ (encStep st c).v < 2 ^ (encStep st c).n := by
  refine ⟨by show (st.n + 8) % 5 ≤ 4; omega, ?_⟩
  exact Nat.mod_lt _ (Nat.two_pow_pos _)
theorem encRun_inv (s : List UInt8) : (encRun s).n ≤ 4 ∧ (encRun s).v < 2 ^ (encRun s).n := by
  rcases List.eq_nil_or_concat s with rfl | ⟨r, c, rfl⟩
  · exact ⟨by decide, by decide⟩
  · rw [List.concat_eq_append, encRun_snoc]; exact encStep_inv _ _
theorem emits_len (v : Nat) : ∀ n, (emits v n).length = n / 5 := by
  intro n
  induction n using Nat.strongRecOn with
  | _ n ih =>
    by_cases h : n < 5
    · rw [emits_lo v n h]; simp; omega
    · rw [emits_hi v n h, List.length_cons, ih (n - 5) (by omega)]; omega
theorem encRun_len : ∀ s : List UInt8, 5 * (encRun s).out.length + (encRun s).n = 8 * s.length := by
  refine snocInd rfl ?_
  intro r c ih
  rw [encRun_snoc]
  show 5 * ((encRun r).out ++ emits _ ((encRun r).n + 8)).length + ((encRun r).n + 8) % 5 = _
  rw [List.length_append, emits_len, List.length_append]
  simp; omega

set_option maxHeartbeats 2000000 in
set_option maxRecDepth 100000 in
theorem encode_any (s : ByteArray) (w : World) (h0 : 0 < s.size) (hs : s.size ≤ 100000) :
    Calls Tryd.prog 35 #[.string s] w fun e w' => e = .returned (.string ⟨(encF s.data.toList).toArray⟩) ∧ Below w.heap.size w w' := by
  go_enter Tryd.func35, Tryd.ntmps35
  obtain ⟨w2, hw2⟩ : ∃ w2, w2 = ((w.alloc (.cells #[.pointer none, .slice none 0 0] 74)).alloc (.cells #[.int .i64 0] 3)).alloc (.cells #[.int .i64 0] 3) := ⟨_, rfl⟩
  have k0 : Bld 74 w.heap.size w.heap.size (Lib.byteCells []) w2 := by
    rw [hw2]; exact Bld.alloc (Bld.alloc (freshBld w _ (Nat.le_refl _) _) _) _
  have k1 : w2.heap[w.heap.size + 1]? = some (.cells #[.int .i64 ((0 : Nat) : Int)] 3 (0, 0)) := by
    rw [hw2]; exact heap_keep (heap_push2 _ _ _) _
  have k2 : w2.heap[w.heap.size + 1 + 1]? = some (.cells #[.int .i64 ((0 : Nat) : Int)] 3 (0, 0)) := by
    rw [hw2]; exact heap_push3 _ _ _ _
  have k3 : Below w.heap.size w w2 := by
    rw [hw2]; exact below_alloc (below_alloc (below_alloc (Below.refl _ _) _) _) _
  have K1 := Lib.hid k1
  have K2 := Lib.hid k2
  have HW := Lib.hid hw2
  clear k1 k2 hw2
  go_wp2_with fail
  rw [← HW.out]
  clear HW
  go_loopw [7, 11] (fun _ v wr => ∃ k : Nat, k ≤ s.size ∧ v = .int .i64 k ∧ Bld 74 w.heap.size w.heap.size (Lib.byteCells (encRun (s.data.toList.take k)).out) wr ∧ wr.heap[w.heap.size + 1]? = some (.cells #[.int .i64 ((encRun (s.data.toList.take k)).v : Nat)] 3 (0, 0)) ∧
      wr.heap[w.heap.size + 1 + 1]? = some (.cells #[.int .i64 ((encRun (s.data.toList.take k)).n : Nat)] 3 (0, 0)) ∧ Below w.heap.size w wr)
    (fun _ v _ => s.size - (intOf v).toNat)
  case atStart => exact ⟨0, Nat.zero_le _, rfl, k0, K1.out, K2.out, k3⟩
  case round =>
    obtain ⟨k, hk, rfl, hb, h1, h2, hbel⟩ := hrel
    have hsz := hbel.size
    have H1 := Lib.hid h1
    have H2 := Lib.hid h2
    have hi := encRun_inv (s.data.toList.take k)
    have hl := encRun_len (s.data.toList.take k)
    rw [List.length_take] at hl
    have Hi := Lib.hid hi
    have Hl := Lib.hid hl
    clear h1 h2 k0 k3 K1 K2 hi hl
    by_cases hlt : k < s.size
    · have hsnoc : s.data.toList.take (k + 1) = s.data.toList.take k ++ [s[k]] := by
        rw [List.take_succ_eq_append_getElem (by simpa using hlt)]; rfl
      have HS : Hid (encRun (s.data.toList.take (k + 1)) = encStep (encRun (s.data.toList.take k)) s[k]) := by
        show _ = _
        rw [hsnoc, encRun_snoc]
      clear hsnoc
      generalize encRun (s.data.toList.take k) = st at *
      have hb8 : wrap64 (s[k].toNat : Int) = (s[k].toNat : Int) := by
        have := s[k].toNat_lt; unfold wrap64; omega
      go_wp2_with fail
      refine (put_any w.heap.size w.heap.size (w.heap.size + 1) (w.heap.size + 1 + 1) st.out st.v st.n s[k].toNat 8 wr hb H1.out H2.out Hi.out.2 Hi.out.1 (by decide) (by have := s[k].toNat_lt; omega) (by omega) (by omega) (by omega) (by omega) (by omega) (by have := Hl.out; omega) hsz).mono ?_
      rintro e w3 ⟨rfl, hb3, hg1, hg2, hbel3⟩
      have G1 := Lib.hid hg1
      have G2 := Lib.hid hg2
      clear hg1 hg2
      go_wp2_with fail
      go_roundw
      case rel =>
        refine ⟨k + 1, by omega, by go_num, ?_, ?_, ?_, hbel.trans hbel3⟩
        · rw [HS.out]; exact hb3
        · rw [HS.out]; exact G1.out
        · rw [HS.out]; exact G2.out
      case measure => simp [intOf]; omega
    · have hkk : k = s.size := by omega
      subst hkk
      have hfull : s.data.toList.take s.size = s.data.toList := List.take_of_length_le (by rw [Array.length_toList]; exact Nat.le_refl _)
      rw [hfull] at hb H1 H2 Hi Hl
      clear hfull hk
      have HF : Hid (encF s.data.toList = if 0 < (encRun s.data.toList).n then (encRun s.data.toList).out ++ emits ((encRun s.data.toList).v * 2 ^ (5 - (encRun s.data.toList).n) + 0) ((encRun s.data.toList).n + (5 - (encRun s.data.toList).n)) else (encRun s.data.toList).out) := rfl
      generalize encRun s.data.toList = st at *
      have c2 : wr.cell? ⟨w.heap.size + 1 + 1, 0, none⟩ = some (.int .i64 (st.n : Nat)) := by rw [Lib.cell_of_heap H2.out]; rfl
      have hne : st.out ≠ [] := by
        intro e
        have h9 := Hl.out
        rw [e, Nat.min_eq_left (by rw [Array.length_toList]; exact Nat.le_refl _)] at h9
        have := Hi.out.1
        simp at h9; omega
      have Hne := Lib.hid hne
      clear hne
      by_cases hn : 0 < st.n
      · have hn4 : st.n ≤ 4 := Hi.out.1
        have h5 : (5 : Int) - (st.n : Int) = ((5 - st.n : Nat) : Int) := by omega
        go_wp2_with fail
        refine (put_any w.heap.size w.heap.size (w.heap.size + 1) (w.heap.size + 1 + 1) st.out st.v st.n 0 (5 - st.n) wr hb H1.out H2.out Hi.out.2 Hi.out.1 (by omega) (Nat.two_pow_pos _) (by omega) (by omega) (by omega) (by omega) (by omega) (by have := Hl.out; omega) hsz).mono ?_
        rintro e w3 ⟨rfl, hb3, -, -, hbel3⟩
        go_wp2_with fail
        refine (string_any 74 _ _ _ _ hb3 (by have := Hne.out; simp [this])).mono ?_
        rintro e w4 ⟨rfl, hbel4⟩
        go_wp2_with fail
        go_ret
        refine ⟨?_, (hbel.trans hbel3).trans hbel4⟩
        rw [HF.out, if_pos hn]; rfl
      · go_wp2_with fail
        refine (string_any 74 _ _ _ _ hb Hne.out).mono ?_
        rintro e w4 ⟨rfl, hbel4⟩
        go_wp2_with fail
        go_ret
        refine ⟨?_, hbel.trans hbel4⟩
        rw [HF.out, if_neg hn]; rfl

set_option maxHeartbeats 1000000 in
set_option maxRecDepth 100000 in
theorem token_any (s : ByteArray) (w : World) (hs : s.size = 10) :
    Calls Tryd.prog 19 #[.string s] w fun e w' => e = .returned (.string ⟨(encF s.data.toList).toArray⟩) ∧ Below w.heap.size w w' := by
  have h1 : ((s.size : Int) != 10) = false := by rw [hs]; rfl
  have Hs := Lib.hid hs
  clear hs
  go_enter Tryd.func19, Tryd.ntmps19
  go_wp2_with fail
  refine (encode_any s w (by rw [Hs.out]; decide) (by rw [Hs.out]; decide)).mono ?_
  rintro e w1 ⟨rfl, hbel⟩
  go_wp2_with fail
  go_ret
  exact ⟨rfl, hbel⟩
end Go.Proofs.YtocooobelmngdaaDoor
