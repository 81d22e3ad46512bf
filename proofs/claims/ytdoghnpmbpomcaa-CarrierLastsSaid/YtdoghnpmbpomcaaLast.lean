/- Last of a carrier: a range over slices.Backward of a box. -/
import Derived.Test.YtdoghnpmbpomcaaCarOps
import Derived.Test.YtdoghnpmbpomcaaLastNil
import Derived.Test.YtdoghnpmbpomcaaPfx
namespace Go.Proofs.Ytdoghnpmbpomcaa
open Go.RowKit Go.Maps Go.Shelf
attribute [local go_sem] Oper.semAt_some

/-- The letter that round k of a range backwards has. -/
def bk (ls : List Ltr) (k : Nat) : Ltr := ls[ls.length - 1 - k]?.getD ⟨0, ⟨#[]⟩, ⟨#[]⟩, 0⟩
def Ltr.agg (l : Ltr) : Value := .agg #[.int .u64 l.id, .string l.dest, .string l.body, .int .i64 l.tm]
def bkEnc (ls : List Ltr) (k : Nat) : Array Value := #[.int .i64 (((ls.length - 1 - k : Nat) : Int)), (bk ls k).agg]
/-- A row of letters below a block's number. -/
def rowAt (n₀ : Nat) (w : World) (a : Option Addr) (ls : List Ltr) : Prop := ∀ j, j < ls.length → ∃ g, a = some ⟨g, 0, none⟩ ∧ g < n₀ ∧ ∀ i v, (ls[j]?.getD ⟨0, ⟨#[]⟩, ⟨#[]⟩, 0⟩).cells[i]? = some v → w.cell? ⟨g, j * 4 + i, none⟩ = some v
theorem rowAt.below {n₀ : Nat} {w W : World} {a : Option Addr} {ls : List Ltr} (h : rowAt n₀ w a ls) (b : Below n₀ w W) : rowAt n₀ W a ls := fun j hj => by
  obtain ⟨g, h1, h2, h3⟩ := h j hj
  exact ⟨g, h1, h2, fun i v hv => (b.cell (p := ⟨g, j * 4 + i, none⟩) h2).trans (h3 i v hv)⟩

set_option maxRecDepth 100000 in
set_option maxHeartbeats 4000000 in
theorem backward1_in (F : Fence) (n : Nat) (h7 : F.fn 34) (hro : F.round = none) (hn : 1 ≤ n) (l Bs n₀ : Nat) (a : Option Addr) (cap : Nat) (ls : List Ltr) (lim : ls.length ≤ 1000000) (J Jx : List Nat → World → Prop)
    (hY : ∀ pre x W, J pre W → pre.length < ls.length → YieldAt F (n - 1) Try.prog l (bkEnc ls x) W fun e W' =>
      (e = .returned (.bool true) ∧ J (pre ++ [x]) W' ∧ Below n₀ W W') ∨ (e = .returned (.bool false) ∧ Jx (pre ++ [x]) W'))
    (W : World) (hBs0 : Bs < n₀) (hBs : W.cell? ⟨Bs, 0, none⟩ = some (.slice a ls.length cap)) (hc : rowAt n₀ W a ls) (h0 : J [] W) :
    CallsIn F n Try.prog 34 #[.func (.yield l) #[] #[], .pointer (some ⟨Bs, 0, none⟩)] W fun e W' => (∃ v, e = .returned v) ∧
      ((∃ ys, ys = List.range ls.length ∧ J ys W') ∨ (∃ pre, (∃ k, k ≤ ls.length ∧ pre = List.range k) ∧ Jx pre W')) := by
  refine callsIn_of_wp Try.func34 rfl h7 ?_ hro
  simp only [Try.ntmps34, List.size_toArray, List.length_cons, List.length_nil, Nat.reduceAdd, Nat.reduceSub, Array.replicate_succ, Array.replicate_zero, List.push_toArray, List.append_toArray, List.nil_append, List.cons_append]
  have HC := Lib.hid hc
  clear hc
  have hwr : IntKind.i64.wrap ((ls.length : Int) - 1) = (ls.length : Int) - 1 := by rw [IntKind.wrap_i64] <;> omega
  gi_wp2
  clear hwr
  gi_loopw [3] (fun i wr => ∃ k : Nat, k ≤ ls.length ∧ i = .int .i64 ((ls.length : Int) - 1 - k) ∧ J (List.range k) wr ∧ Below n₀ W wr)
    (fun i _ => (intOf i + 1).toNat)
  case atStart => exact ⟨0, Nat.zero_le _, by simp, h0, Below.refl _ _⟩
  case round =>
    obtain ⟨k, hk, rfl, hJs, hnx⟩ := hrel
    have hBs2 := (hnx.cell (p := ⟨Bs, 0, none⟩) hBs0).trans hBs
    by_cases hlt : k < ls.length
    · obtain ⟨g, rfl, hg, hcs⟩ := (HC.out.below hnx) (ls.length - 1 - k) (by omega)
      have q0 := hcs 0 _ rfl
      rw [Nat.add_zero] at q0
      have q1 := hcs 1 _ rfl
      have q2 := hcs 2 _ rfl
      have q3 := hcs 3 _ rfl
      clear hcs
      obtain ⟨fn, tmps, assign, body, hy, hR⟩ := hY (List.range k) k wr hJs (by simpa using hlt)
      obtain ⟨m, hm⟩ : ∃ m : Nat, m = ls.length - 1 - k := ⟨_, rfl⟩
      have hmi : (ls.length : Int) - 1 - k = (m : Int) := by omega
      have hml : (m : Int) < ls.length := by omega
      unfold bkEnc bk Ltr.agg at hy
      rw [← hm] at hy q0 q1 q2 q3
      rw [hmi]
      generalize ls[m]?.getD ⟨0, ⟨#[]⟩, ⟨#[]⟩, 0⟩ = x at hy q0 q1 q2 q3
      have hmw : IntKind.i64.wrap ((m : Int) - 1) = (m : Int) - 1 := by rw [IntKind.wrap_i64] <;> omega
      have hm2 : (m : Int) - 1 = (ls.length : Int) - 1 - ((k + 1 : Nat) : Int) := by omega
      have HM := Lib.hid hm2
      have HR := Lib.hid hR
      clear hm2 hmi hm HC hBs hY hR
      gi_wp2
      refine (HR.out).mono ?_
      rintro e W3 (⟨rfl, hJ3, hk3⟩ | ⟨rfl, hJx3⟩)
      · gi_wp2
        go_roundw
        case rel => exact ⟨k + 1, by omega, by rw [HM.out], by rw [List.range_succ]; exact hJ3, hnx.trans hk3⟩
        case measure => simp [intOf]
      · gi_wp2
        refine bodyPost_ret (results_none rfl _ _ _) rfl ?_
        exact ⟨⟨_, rfl⟩, .inr ⟨_, ⟨k + 1, by omega, List.range_succ.symm⟩, hJx3⟩⟩
    · obtain rfl : k = ls.length := by omega
      have e1 : (ls.length : Int) - 1 - (ls.length : Int) = -1 := by omega
      rw [e1]
      clear HC hBs hBs2 hY e1
      gi_wp2
      go_end0
      exact ⟨⟨_, rfl⟩, .inl ⟨_, rfl, hJs⟩⟩
theorem backward_stops (F : Fence) (n : Nat) (h7 : F.fn 34) (hro : F.round = none) (hn : 1 ≤ n) (Bs n₀ : Nat) (a : Option Addr) (cap : Nat) (ls : List Ltr) (lim : ls.length ≤ 1000000) (w : World) (hBs : Bs < n₀) (hn₀ : n₀ ≤ w.heap.size)
    (hc : w.cell? ⟨Bs, 0, none⟩ = some (.slice a ls.length cap)) (hI : rowAt n₀ w a ls) :
    SeqStopsK F n Try.prog 34 #[.pointer (some ⟨Bs, 0, none⟩)] (bkEnc ls) (Below n₀) (fun ys => ys = List.range ls.length) (fun pre => ∃ k, k ≤ ls.length ∧ pre = List.range k) ls.length w := fun l J Jx W hW _ _ hY h0 => by
  have hW0 := hW.mono hn₀
  have hc' := (hW0.cell (p := ⟨Bs, 0, none⟩) hBs).trans hc
  exact backward1_in F n h7 hro hn l Bs n₀ a cap ls lim J Jx hY W hBs hc' (hI.below hW0) h0

/-- What the last letter of a row says behind a text, of those that begin so. -/
def lastS (ls : List Ltr) (p : ByteArray) : Option ByteArray := (ls.reverse.find? fun l => begins l.body p).map fun l => rest l.body p
def lastT (ls : List Ltr) (p : ByteArray) : ByteArray := (lastS ls p).getD ⟨#[]⟩
def lastB (ls : List Ltr) (p : ByteArray) : Bool := (lastS ls p).isSome

theorem bk_rev (ls : List Ltr) (k : Nat) (h : k < ls.length) : ls.reverse[k]? = some (bk ls k) := by
  rw [List.getElem?_reverse h]
  unfold bk
  rw [List.getElem?_eq_getElem (by omega)]
  rfl
theorem lastS_none (ls : List Ltr) (p : ByteArray) (h : ∀ k, k < ls.length → begins (bk ls k).body p = false) : lastS ls p = none := by
  unfold lastS
  rw [Option.map_eq_none_iff, List.find?_eq_none]
  intro x hx
  obtain ⟨k, hk, e⟩ := List.getElem_of_mem hx
  simp at hk
  have e2 := bk_rev ls k hk
  rw [List.getElem?_eq_getElem (by simpa using hk), e] at e2
  cases e2
  simp [h k hk]
theorem lastS_some (ls : List Ltr) (p : ByteArray) (k : Nat) (hk : k < ls.length) (h : ∀ j, j < k → begins (bk ls j).body p = false) (hb : begins (bk ls k).body p = true) : lastS ls p = some (rest (bk ls k).body p) := by
  unfold lastS
  have : ls.reverse.find? (fun l => begins l.body p) = some (bk ls k) := by
    rw [List.find?_eq_some_iff_getElem]
    refine ⟨hb, k, by simpa using hk, ?_, fun j hj => ?_⟩
    · have e2 := bk_rev ls k hk
      rw [List.getElem?_eq_getElem (by simpa using hk)] at e2
      exact Option.some.inj e2
    · have e2 := bk_rev ls j (by omega)
      rw [List.getElem?_eq_getElem (by simp; omega)] at e2
      rw [Option.some.inj e2]
      simp [h j hj]
  rw [this]
  rfl
theorem owns_rowAt {w : World} {B : Nat} {a : Option Addr} {c : Nat} {ls : List Ltr} (o : owns w B (.slice a ls.length c) ls) : rowAt w.heap.size w a ls := fun j hj => by
  rcases o.2 with ⟨e1, e2⟩ | ⟨g, cap, cur, e1, r⟩
  · omega
  · cases e1
    have hg1 : ls[j]? = some ls[j] := List.getElem?_eq_getElem hj
    refine ⟨g, rfl, ?_, fun i v hv => ?_⟩
    · have := World.ownsRow.lt o g rfl
      exact this.2
    · rw [hg1] at hv
      have hi : i < 4 := by
        rcases Nat.lt_or_ge i 4 with x | x
        · exact x
        · rw [List.getElem?_eq_none (by simp [Ltr.cells]; omega)] at hv
          cases hv
      have e1 := World.ownsRow.cells o (g := g) rfl (j * 4 + i) v (by rw [flat_at j i ls ls[j] hg1 hi]; exact hv)
      rwa [addP, Nat.zero_add] at e1

theorem cell_set_same (W : World) (b : Nat) (v u : Value) (h : W.cell? ⟨b, 0, none⟩ = some u) : (W.setCell ⟨b, 0, none⟩ v).cell? ⟨b, 0, none⟩ = some v := World.cell?_setCell_same' W _ _ (by rw [h]; rfl)
theorem cell_set_other (W : World) (b c : Nat) (v u : Value) (hne : c ≠ b) (h : W.cell? ⟨c, 0, none⟩ = some u) : (W.setCell ⟨b, 0, none⟩ v).cell? ⟨c, 0, none⟩ = some u := (World.cell?_of_block (Below.heap_setCell W ⟨b, 0, none⟩ v c (by show c ≠ b; exact hne))).trans h

set_option maxRecDepth 100000 in
set_option maxHeartbeats 4000000 in
theorem last_any {h N : Nat} {S : Nat → Prop} {us : List Ltr} {G : ByteArray → List Ltr} {C : Nat → Nat} {w : World} (c : Car h S N us G C w) (s p : ByteArray) (hs : s.size ≤ maxLen) (lim : (G s).length ≤ 1000000) :
    Calls Try.prog 17 #[.pointer (some ⟨h + 1 + 1, 0, none⟩), .string s, .string p] w fun e w' => e = .returned (.tuple #[.string (lastT (G s) p), .bool (lastB (G s) p)]) ∧ w.grownBy w' none := by
  obtain ⟨wa, hwa⟩ : ∃ wa, wa = ((w.alloc (.cells #[.string p] 9)).alloc (.cells #[.string ⟨#[]⟩] 9)).alloc (.cells #[.bool false] 4) := ⟨_, rfl⟩
  have ga : w.grownBy wa none := by rw [hwa]; exact World.grownBy.trans (World.grownBy.trans (World.grownBy_alloc w _ none) (World.grownBy_alloc _ _ none)) (World.grownBy_alloc _ _ none)
  have BX := Lib.hid (box_any (c.keeps ga (by simp)) s hs lim)
  have hsz : wa.heap.size = w.heap.size + 1 + 1 + 1 := by rw [hwa]; simp
  have c0 : wa.cell? ⟨w.heap.size, 0, none⟩ = some (.string p) := by
    rw [hwa]; exact cell_alloc_l _ (cell_alloc_l _ (cell_new_l w (.string p) 9).1)
  have c1 : wa.cell? ⟨w.heap.size + 1, 0, none⟩ = some (.string ⟨#[]⟩) ∧ wa.frozen? ⟨w.heap.size + 1, 0, none⟩ = false := by
    have x := cell_new_l (w.alloc (.cells #[.string p] 9)) (.string ⟨#[]⟩) 9
    simp only [World.size_alloc] at x
    rw [hwa]; exact ⟨cell_alloc_l _ x.1, frozen_alloc_l _ x.1 x.2⟩
  have c2 : wa.cell? ⟨w.heap.size + 1 + 1, 0, none⟩ = some (.bool false) ∧ wa.frozen? ⟨w.heap.size + 1 + 1, 0, none⟩ = false := by
    have x := cell_new_l ((w.alloc (.cells #[.string p] 9)).alloc (.cells #[.string ⟨#[]⟩] 9)) (.bool false) 4
    simp only [World.size_alloc] at x
    rw [hwa]; exact x
  have fin : ∀ {W : World}, Below w.heap.size w W → w.grownBy W none := fun b => ⟨b.os, b.tape, b.output, b.size, fun k hk _ => b.block k hk⟩
  have ba : Below w.heap.size w wa := ⟨ga.os, ga.tape, ga.output, ga.size, fun k hk => ga.block k hk (by simp)⟩
  generalize G s = ls at lim BX ⊢
  have C0 := Lib.hid c0
  have C1 := Lib.hid c1
  have C2 := Lib.hid c2
  have HZ := Lib.hid hsz
  clear c c0 c1 c2 ga hsz
  refine (callsIn_wide (n := 3)).1 ?_
  refine callsIn_of_wp_marks Try.func17 rfl trivial ?_ rfl
  simp only [Try.ntmps17, List.size_toArray, List.length_cons, List.length_nil, Nat.reduceAdd, Nat.reduceSub, Array.replicate_succ, Array.replicate_zero, List.push_toArray, List.append_toArray, List.nil_append, List.cons_append]
  gi_wp2_with (first
    | (refine ⟨trivial, ?_⟩; gi_at_call 14; rw [← hwa]; refine (callsIn_wide.2 BX.out).mono ?_; rintro e w1 ⟨a', c', rfl, o1, g1⟩; have O1 := Lib.hid o1; clear o1)
    | (refine ⟨trivial, ?_⟩; gi_at_call 29; refine (callsIn_wide.2 (backward_any _ _ _ _)).mono ?_; rintro e w' ⟨rfl, rfl⟩))
  have g2 : wa.grownBy (w1.alloc (.cells #[.slice a' ls.length c'] 37)) none := World.grownBy.trans g1 (World.grownBy_alloc w1 _ none)
  have c0 := cell_kept C0.out g2 (fun r e => by cases e)
  have c1 := cell_kept C1.out.1 g2 (fun r e => by cases e)
  have f1 := (frozen_kept C1.out.1 g2 (fun r e => by cases e)).trans C1.out.2
  have c2 := cell_kept C2.out.1 g2 (fun r e => by cases e)
  have f2 := (frozen_kept C2.out.1 g2 (fun r e => by cases e)).trans C2.out.2
  have hb2 : Below w.heap.size w (w1.alloc (.cells #[.slice a' ls.length c'] 37)) := ba.grown g2 ba.size (by simp)
  have hs1 : w.heap.size + 3 ≤ w1.heap.size := by have h1 := g1.size; have h2 := HZ.out; omega
  have hs2 : (w1.alloc (.cells #[.slice a' ls.length c'] 37)).heap.size = w1.heap.size + 1 := by simp
  have hr2 : rowAt (w1.alloc (.cells #[.slice a' ls.length c'] 37)).heap.size (w1.alloc (.cells #[.slice a' ls.length c'] 37)) a' ls := by
    have x := (owns_rowAt O1.out).below (below_alloc (Below.refl _ w1) (.cells #[.slice a' ls.length c'] 37))
    exact fun j hj => by obtain ⟨g, e1, e2, e3⟩ := x j hj; exact ⟨g, e1, by omega, e3⟩
  have cs := (cell_new_l w1 (.slice a' ls.length c') 37).1
  clear O1 BX C0 C1 C2 g2 g1
  generalize hw2 : w1.alloc (.cells #[.slice a' ls.length c'] 37) = w2 at *
  refine wpIn_rangeFunc_ownH (α := Nat) rfl (by omega) (gf := 34) (lb := #[.pointer (some ⟨w1.heap.size, 0, none⟩)]) rfl trivial (enters_of Try.func34 (by kernel_rfl) rfl)
    (backward_stops Fence.wide 2 trivial rfl (by omega) w1.heap.size w2.heap.size a' c' ls lim w2 (by omega) (Nat.le_refl _) cs hr2) belowK_t (belowK_b (Nat.le_refl _)) (Below.refl _ _) (fun _ => rfl)
    (fun pre W => ((∀ k ∈ pre, begins (bk ls k).body p = false) ∧ W.cell? ⟨w.heap.size, 0, none⟩ = some (.string p) ∧ (W.cell? ⟨w.heap.size + 1, 0, none⟩ = some (.string ⟨#[]⟩) ∧ W.frozen? ⟨w.heap.size + 1, 0, none⟩ = false) ∧ (W.cell? ⟨w.heap.size + 1 + 1, 0, none⟩ = some (.bool false) ∧ W.frozen? ⟨w.heap.size + 1 + 1, 0, none⟩ = false)) ∧ Below w.heap.size w W ∧ w2.heap.size ≤ W.heap.size)
    (fun c pre W => (c = .ret ∧ ∃ ini last, pre = ini ++ [last] ∧ (∀ k ∈ ini, begins (bk ls k).body p = false) ∧ begins (bk ls last).body p = true ∧ W.cell? ⟨w.heap.size + 1, 0, none⟩ = some (.string (rest (bk ls last).body p)) ∧ W.cell? ⟨w.heap.size + 1 + 1, 0, none⟩ = some (.bool true)) ∧ Below w.heap.size w W)
    (OwnFrom.and (Own.from (fun s A B row hs hg hr => ⟨hs.1, cell_kept hs.2.1 hg hr, ⟨cell_kept hs.2.2.1.1 hg hr, (frozen_kept hs.2.2.1.1 hg hr).trans hs.2.2.1.2⟩, ⟨cell_kept hs.2.2.2.1 hg hr, (frozen_kept hs.2.2.2.1 hg hr).trans hs.2.2.2.2⟩⟩) _) (OwnFrom.and (ownFrom_below (Nat.le_refl _) (by omega)) (fun s A B row hs hg hr => Nat.le_trans hs hg.size)))
    (fun c => OwnFrom.and (Own.from (fun s A B row hs hg hr => by obtain ⟨hc, ini, last, e1, e2, e3, e4, e5⟩ := hs; exact ⟨hc, ini, last, e1, e2, e3, cell_kept e4 hg hr, cell_kept e5 hg hr⟩) _) (ownFrom_below (Nat.le_refl _) (by omega)))
    ⟨⟨by simp, c0, ⟨c1, f1⟩, ⟨c2, f2⟩⟩, hb2, Nat.le_refl _⟩
    (fun x a W => ∃ b v16 v17, a = { tmps := #[.pointer (some ⟨h + 1 + 1, 0, none⟩), .string s, .string p, undef, undef, .pointer (some ⟨w.heap.size, 0, none⟩), .pointer (some ⟨w.heap.size + 1, 0, none⟩), .pointer (some ⟨w.heap.size + 1 + 1, 0, none⟩), undef, .pointer (some ⟨b, 0, none⟩), undef, undef, .pointer (some ⟨h + 1 + 1, 0, none⟩), .string s, .slice a' ls.length c', .func (.func 34) #[] #[.pointer (some ⟨w1.heap.size, 0, none⟩)], v16, v17, undef, undef, undef, undef, undef, undef, undef, undef, undef], defers := [] } ∧ W.cell? ⟨b, 2, none⟩ = some (.string (bk ls x).body))
    (fun x a => fun s A B row hs hg hr => by obtain ⟨b, v16, v17, e1, e2⟩ := hs; exact ⟨b, v16, v17, e1, cell_kept e2 hg (fun r e => (hr r e).2)⟩)
    ?assign ?body ?done ?stop
  case assign =>
    rintro l pre x W K ⟨⟨i1, i2, i3, i4⟩, i5, i6⟩ hK
    unfold bkEnc Ltr.agg
    generalize bk ls x = y at *
    gi_wp2
    have cn : (W.alloc (.cells #[.int .u64 y.id, .string y.dest, .string y.body, .int .i64 y.tm] 40)).cell? ⟨W.heap.size, 2, none⟩ = some (.string y.body) := by
      rw [Lib.cell_of_heap (heap_push1 W _)]; rfl
    exact hK _ _ ((KeepsOthers.alloc W _).from _) ((Below.refl _ W).alloc i6 _) ⟨⟨i1, cell_alloc_l _ i2, ⟨cell_alloc_l _ i3.1, frozen_alloc_l _ i3.1 i3.2⟩, ⟨cell_alloc_l _ i4.1, frozen_alloc_l _ i4.1 i4.2⟩⟩, below_alloc i5 _, by simp; omega⟩ ⟨_, _, _, rfl, cn⟩
  case body =>
    rintro l pre x a W _ _ ⟨⟨i1, i2, ⟨i3, i4⟩, i5, i6⟩, i7, i8⟩ ⟨b, v16, v17, rfl, q2⟩ _
    have CP := fun W => Lib.hid (cutPrefix_any (bk ls x).body p W)
    cases hbg : begins (bk ls x).body p
    · simp only [hbg] at CP
      have HB := Lib.hid hbg
      have I1 := Lib.hid i1
      clear hbg i1
      gi_wp2_with ((refine ⟨trivial, ?_⟩; gi_at_call 30; refine (CallsIn.inRound l (callsIn_wide.2 (CP _).out)).mono ?_; rintro e w' ⟨rfl, rfl⟩))
      exact ⟨KeepsFrom.refl _ _, Below.refl _ _, ⟨fun k hk => (List.mem_append.1 hk).elim (I1.out k) (fun e => by simp at e; subst e; exact HB.out), i2, ⟨i3, i4⟩, i5, i6⟩, i7, i8⟩
    · simp only [hbg] at CP
      have HB := Lib.hid hbg
      have I1 := Lib.hid i1
      clear hbg i1
      gi_wp2_with ((refine ⟨trivial, ?_⟩; gi_at_call 30; refine (CallsIn.inRound l (callsIn_wide.2 (CP _).out)).mono ?_; rintro e w' ⟨rfl, rfl⟩))
      refine ⟨((KeepsOthers.setCell _ _ _).trans (KeepsOthers.setCell _ _ _)).from _, ⟨rfl, pre, x, rfl, I1.out, HB.out, ?_, ?_⟩, (i7.setCell (p := ⟨w.heap.size + 1, 0, none⟩) (by show w.heap.size ≤ w.heap.size + 1; omega) _).setCell (p := ⟨w.heap.size + 1 + 1, 0, none⟩) (by show w.heap.size ≤ w.heap.size + 1 + 1; omega) _⟩
      · exact cell_set_other _ _ _ _ _ (by omega) (cell_set_same _ _ _ _ i3)
      · exact cell_set_same _ _ _ _ (cell_set_other _ _ _ _ _ (by omega) i5)
  case done =>
    rintro D ys W hD rfl ⟨⟨i1, i2, ⟨i3, i4⟩, i5, i6⟩, i7, i8⟩ hK
    have e0 : lastS ls p = none := lastS_none ls p (fun k hk => i1 k (by simpa using hk))
    have eT : lastT ls p = ⟨#[]⟩ := by simp [lastT, e0]
    have eB : lastB ls p = false := by simp [lastB, e0]
    have ET := Lib.hid eT
    have EB := Lib.hid eB
    clear eT eB e0 i1
    gi_wp2
    have hK' := ((KeepsOthers.setCell W ⟨w.heap.size + 1, 0, none⟩ (.string { data := #[] })).trans (KeepsOthers.setCell _ ⟨w.heap.size + 1 + 1, 0, none⟩ (.bool false))).same D _ hK rfl
    refine ⟨by simp, .inl ⟨_, _, rfl, run_takeDeferred hK', ?_⟩⟩
    have hk5 := cell_kept (cell_set_other (W.setCell ⟨w.heap.size + 1, 0, none⟩ (.string { data := #[] })) (w.heap.size + 1 + 1) (w.heap.size + 1) (.bool false) _ (by omega) (cell_set_same W (w.heap.size + 1) (.string { data := #[] }) _ i3)) (grownBy_putObj' _ D (.deferred none)) (fun r e => by cases e; exact ⟨_, hK', rfl⟩)
    have hb5 := cell_kept (cell_set_same (W.setCell ⟨w.heap.size + 1, 0, none⟩ (.string { data := #[] })) (w.heap.size + 1 + 1) (.bool false) _ (cell_set_other W (w.heap.size + 1) (w.heap.size + 1 + 1) _ _ (by omega) i5)) (grownBy_putObj' _ D (.deferred none)) (fun r e => by cases e; exact ⟨_, hK', rfl⟩)
    refine ⟨.tuple #[.string ⟨#[]⟩, .bool false], ?_, by rw [ET.out, EB.out], fin (((i7.setCell (p := ⟨w.heap.size + 1, 0, none⟩) (by show w.heap.size ≤ w.heap.size + 1; omega) _).setCell (p := ⟨w.heap.size + 1 + 1, 0, none⟩) (by show w.heap.size ≤ w.heap.size + 1 + 1; omega) _).trans (belowK_b (w := w) (Nat.le_refl _) _ D _ _ (by omega) hK' rfl rfl))⟩
    simp [results, Try.f17, go_sem, hk5, hb5]
  case stop =>
    rintro D c pre W hD ⟨k, hk, rfl⟩ ⟨⟨rfl, ini, last, e1, e2, e3, e4, e5⟩, hB⟩ hK
    obtain ⟨k', rfl⟩ : ∃ k', k = k' + 1 := by
      cases k with
      | zero => simp at e1
      | succ k' => exact ⟨k', rfl⟩
    rw [List.range_succ] at e1
    obtain ⟨rfl, e6⟩ := List.append_inj' e1 rfl
    obtain rfl : k' = last := by simpa using e6
    have e0 : lastS ls p = some (rest (bk ls k').body p) := lastS_some ls p k' (by omega) (fun j hj => e2 j (by simpa using hj)) e3
    have eT : lastT ls p = rest (bk ls k').body p := by simp [lastT, e0]
    have eB : lastB ls p = true := by simp [lastB, e0]
    have ET := Lib.hid eT
    have EB := Lib.hid eB
    clear eT eB e0 e2 e3 e1 e6
    gi_wp2
    refine ⟨by simp, .inl ⟨_, _, rfl, run_takeDeferred hK, ?_⟩⟩
    have hk5 := cell_kept e4 (grownBy_putObj' _ D (.deferred none)) (fun r e => by cases e; exact ⟨_, hK, rfl⟩)
    have hb5 := cell_kept e5 (grownBy_putObj' _ D (.deferred none)) (fun r e => by cases e; exact ⟨_, hK, rfl⟩)
    refine ⟨.tuple #[.string (rest (bk ls k').body p), .bool true], ?_, by rw [ET.out, EB.out], fin (hB.trans (belowK_b (w := w) (Nat.le_refl _) _ D _ _ (by omega) hK rfl rfl))⟩
    simp [results, Try.f17, go_sem, hk5, hb5]
end Go.Proofs.Ytdoghnpmbpomcaa
