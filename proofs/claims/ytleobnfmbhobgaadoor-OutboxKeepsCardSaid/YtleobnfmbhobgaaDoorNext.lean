/- outbox.Next, for any row of messages. -/
import Derived.Test.YtleobnfmbhobgaaDoorRow14
namespace Go.Proofs.YtleobnfmbhobgaaDoor
open Go.RowKit Go.Maps Go.Shelf
attribute [local go_sem] Oper.semAt_some

def nextStep (s : Int × Bool) (m : Msg) : Int × Bool := if s.2 = false ∨ m.due < s.1 then (m.due, true) else s
def nextF (ms : List Msg) : Int × Bool := ms.foldl nextStep (0, false)
theorem nextF_snoc (ms : List Msg) (m : Msg) : nextF (ms ++ [m]) = nextStep (nextF ms) m := by simp [nextF]
def twoN (N k : Nat) : Prop := k = N ∨ k = N + 1

def NI (w : World) (z : Nat) (pre : List Msg) (W : World) : Prop := (Boxed W w.heap.size 2 (.int .i64 (nextF pre).1) ∧ Boxed W (w.heap.size + 1) 4 (.bool (nextF pre).2)) ∧ Below w.heap.size w W ∧ z ≤ W.heap.size
theorem ni_own (w : World) (z B : Nat) (hB : w.heap.size ≤ B) : OwnFrom B (NI w z) :=
  OwnFrom.and (OwnFrom.and (Own.from (boxed_own w.heap.size 2 (fun pre : List Msg => Value.int .i64 (nextF pre).1)) B) (Own.from (boxed_own (w.heap.size + 1) 4 (fun pre : List Msg => Value.bool (nextF pre).2)) B)) (OwnFrom.and (ownFrom_below (Nat.le_refl _) hB) (fun _ _ _ _ hs hg _ => Nat.le_trans hs hg.size))

theorem next_step {w W : World} {pre : List Msg} {z : Nat} (x : Msg) (h : NI w z pre W) (hc : (nextF pre).2 = false ∨ x.due < (nextF pre).1) :
    KeepsFrom z W ((W.setCell ⟨w.heap.size, 0, none⟩ (.int .i64 x.due)).setCell ⟨w.heap.size + 1, 0, none⟩ (.bool true)) ∧ KB z (twoN w.heap.size) W ((W.setCell ⟨w.heap.size, 0, none⟩ (.int .i64 x.due)).setCell ⟨w.heap.size + 1, 0, none⟩ (.bool true)) ∧ NI w z (pre ++ [x]) ((W.setCell ⟨w.heap.size, 0, none⟩ (.int .i64 x.due)).setCell ⟨w.heap.size + 1, 0, none⟩ (.bool true)) := by
  obtain ⟨⟨b1, b2⟩, i1, i2⟩ := h
  have e : nextF (pre ++ [x]) = (x.due, true) := by rw [nextF_snoc, nextStep, if_pos hc]
  refine ⟨((KeepsOthers.setCell _ _ _).trans (KeepsOthers.setCell _ _ _)).from _, ⟨by simp, fun k hk hx => ?_⟩, ⟨?_, ?_⟩, (i1.setCell (p := ⟨w.heap.size, 0, none⟩) (Nat.le_refl _) _).setCell (p := ⟨w.heap.size + 1, 0, none⟩) (Nat.le_succ _) _, by simpa using i2⟩
  · rw [Below.heap_setCell _ _ _ _ (by show k ≠ w.heap.size + 1; exact fun e => hx (.inr e)), Below.heap_setCell _ _ _ _ (by show k ≠ w.heap.size; exact fun e => hx (.inl e))]
  · rw [e]
    exact (b1.set (.int .i64 x.due)).other (by omega) _
  · rw [e]
    exact (b2.other (by omega) _).set (.bool true)
theorem next_same {w W : World} {pre : List Msg} {z : Nat} (x : Msg) (h : NI w z pre W) (hc : ¬ ((nextF pre).2 = false ∨ x.due < (nextF pre).1)) : NI w z (pre ++ [x]) W := by
  have e : nextF (pre ++ [x]) = nextF pre := by rw [nextF_snoc, nextStep, if_neg hc]
  unfold NI
  rw [e]
  exact h
theorem mowns_rowAt2 {w W : World} {Bs c : Nat} {a : Option Addr} {ms : List Msg} (h : mowns w Bs (.slice a ms.length c) ms) (b : Below w.heap.size w W) (z : Nat) (hz : w.heap.size ≤ z) : mrowAt z (twoN w.heap.size) W a ms := fun j hj => by
  obtain ⟨g, e1, _, e3, e4⟩ := h.at j hj
  exact ⟨g, e1, ⟨by omega, fun e => by unfold twoN at e; omega⟩, fun i v hv => (b.cell (p := ⟨g, j * 6 + i, none⟩) e3).trans (e4 i v hv)⟩

set_option maxRecDepth 100000 in
set_option maxHeartbeats 4000000 in
theorem next_any {Bs c : Nat} {a : Option Addr} {ms : List Msg} {w : World} (hown : mowns w Bs (.slice a ms.length c) ms) (lim : ms.length ≤ 1000000) :
    Calls Tryd.prog 20 #[.slice a ms.length c] w fun e w' => e = .returned (.tuple #[.int .i64 (nextF (ms.filter alvB)).1, .bool (nextF (ms.filter alvB)).2]) ∧ Below w.heap.size w w' := by
  have hb2 : Below w.heap.size w ((((w.alloc (.cells #[.int .i64 0] 2)).alloc (.cells #[.bool false] 4)).alloc (.cells #[.slice a ms.length c] 24)).alloc (.cells #[.func (.func 29) #[] #[]] 56)) := below_alloc (below_alloc (below_alloc (below_alloc (Below.refl _ w) _) _) _) _
  have hz : ((((w.alloc (.cells #[.int .i64 0] 2)).alloc (.cells #[.bool false] 4)).alloc (.cells #[.slice a ms.length c] 24)).alloc (.cells #[.func (.func 29) #[] #[]] 56)).heap.size = w.heap.size + 4 := by simp
  have b0 := (((Boxed.new w 2 (.int .i64 0)).alloc (.cells #[.bool false] 4)).alloc (.cells #[.slice a ms.length c] 24)).alloc (.cells #[.func (.func 29) #[] #[]] 56)
  have b1 := ((Boxed.new (w.alloc (.cells #[.int .i64 0] 2)) 4 (.bool false)).alloc (.cells #[.slice a ms.length c] 24)).alloc (.cells #[.func (.func 29) #[] #[]] 56)
  have bL := (Boxed.new ((w.alloc (.cells #[.int .i64 0] 2)).alloc (.cells #[.bool false] 4)) 24 (.slice a ms.length c)).alloc (.cells #[.func (.func 29) #[] #[]] 56)
  have bI := Boxed.new (((w.alloc (.cells #[.int .i64 0] 2)).alloc (.cells #[.bool false] 4)).alloc (.cells #[.slice a ms.length c] 24)) 56 (.func (.func 29) #[] #[])
  simp only [World.size_alloc] at b1 bL bI
  have hr0 := mowns_rowAt2 hown hb2 (w.heap.size + 4) (by omega)
  clear hown
  refine (callsIn_wide (n := 3)).1 ?_
  refine callsIn_of_wp_marks Tryd.func20 rfl trivial ?_ rfl
  simp only [Tryd.ntmps20, List.size_toArray, List.length_cons, List.length_nil, Nat.reduceAdd, Nat.reduceSub, Array.replicate_succ, Array.replicate_zero, List.push_toArray, List.append_toArray, List.nil_append, List.cons_append]
  gi_wp2_with (refine ⟨trivial, ?_⟩; gi_at_call 42; refine (callsIn_wide.2 (some_any _ _ _ _ _ _)).mono ?_; rintro e w' ⟨rfl, rfl⟩)
  generalize hw2 : (((w.alloc (.cells #[.int .i64 0] 2)).alloc (.cells #[.bool false] 4)).alloc (.cells #[.slice a ms.length c] 24)).alloc (.cells #[.func (.func 29) #[] #[]] 56) = w2 at *
  clear hw2
  refine wpIn_rangeFunc_ownH (α := Msg) (encs := fun x => #[x.agg]) (N := ms.length) (Kp := KB (w.heap.size + 4) (twoN w.heap.size)) (S := fun ys => ys = ms.filter alvB) (Sp := fun _ => True) (w0 := w2) rfl (by omega) (gf := 51) (lb := #[.pointer (some ⟨w.heap.size + 1 + 1, 0, none⟩), .pointer (some ⟨w.heap.size + 1 + 1 + 1, 0, none⟩)]) rfl trivial (enters_of Tryd.func51 (by kernel_rfl) rfl)
    (fun l J Jx W hW hJ _ hY h0 => some1_alv 2 (by omega) l (w.heap.size + 1 + 1) (w.heap.size + 1 + 1 + 1) (w.heap.size + 4) (twoN w.heap.size) a c ms lim J Jx W hJ (by have := hW.size; omega) hY
      ((hW.cell (p := ⟨w.heap.size + 1 + 1, 0, none⟩) (show w.heap.size + 1 + 1 < w2.heap.size by omega)).trans bL.cell) ⟨by omega, fun e => by unfold twoN at e; omega⟩ ((hW.cell (p := ⟨w.heap.size + 1 + 1 + 1, 0, none⟩) (show w.heap.size + 1 + 1 + 1 < w2.heap.size by omega)).trans bI.cell) (hr0.kept (KB.of_below hW (by omega))) h0)
    (fun h k => h.trans k) (fun W l o o' hl _ _ _ => KB.putObj W l o' (by omega)) (Below.refl _ _) (fun _ => rfl)
    (NI w w2.heap.size) (fun _ _ _ => False) (ni_own w _ _ (by omega)) (fun _ _ _ _ _ hs _ _ => hs)
    ⟨⟨b0, b1⟩, hb2, Nat.le_refl _⟩
    (fun x a' W => ∃ b v9, a' = { tmps := #[.slice a ms.length c, undef, .int .i64 0, .bool false, .pointer (some ⟨w.heap.size, 0, none⟩), .pointer (some ⟨w.heap.size + 1, 0, none⟩), .pointer (some ⟨b, 0, none⟩), .slice a ms.length c, .func (.func 51) #[] #[.pointer (some ⟨w.heap.size + 1 + 1, 0, none⟩), .pointer (some ⟨w.heap.size + 1 + 1 + 1, 0, none⟩)], v9, undef, undef, undef, undef, undef, undef, undef, undef, undef, undef, undef, undef], defers := [] } ∧ W.heap[b]? = some x.obj)
    (fun x a' => fun s A B row hs hg hr => by
      obtain ⟨b, v9, e1, e2⟩ := hs
      refine ⟨b, v9, e1, ?_⟩
      rw [hg.block b (Array.getElem?_eq_some_iff.1 e2).1 (fun e => by
        obtain ⟨_, o, ho, hc⟩ := hr b e.symm
        rw [e2] at ho
        cases ho
        cases hc)]
      exact e2)
    ?assign ?body ?done ?stop
  case assign =>
    rintro l pre x W K ⟨⟨v1, v2⟩, i5, i6⟩ hK
    have hnew := heap_new W x.obj
    have KK : K { tmps := #[.slice a ms.length c, undef, .int .i64 0, .bool false, .pointer (some ⟨w.heap.size, 0, none⟩), .pointer (some ⟨w.heap.size + 1, 0, none⟩), .pointer (some ⟨W.heap.size, 0, none⟩), .slice a ms.length c, .func (.func 51) #[] #[.pointer (some ⟨w.heap.size + 1 + 1, 0, none⟩), .pointer (some ⟨w.heap.size + 1 + 1 + 1, 0, none⟩)], x.agg, undef, undef, undef, undef, undef, undef, undef, undef, undef, undef, undef, undef], defers := [] } (W.alloc x.obj) :=
      hK _ _ ((KeepsOthers.alloc W _).from _) (KB.of_below ((Below.refl W.heap.size W).alloc (Nat.le_refl _) _) (by omega)) ⟨⟨v1.alloc _, v2.alloc _⟩, below_alloc i5 _, by simp; omega⟩ ⟨_, _, rfl, hnew⟩
    clear hK hnew v1 v2
    unfold Msg.obj Msg.agg at KK
    unfold Msg.agg
    gi_wp2
    exact KK
  case body =>
    rintro l pre x a' W _ _ hNI ⟨b, v9, rfl, hx⟩ _
    have c4 := hNI.1.1.cell
    have f4 := hNI.1.1.frozen
    have c5 := hNI.1.2.cell
    have f5 := hNI.1.2.frozen
    have x4 : W.cell? ⟨b, 4, none⟩ = some (.int .i64 x.due) := by rw [Lib.cell_of_heap hx]; rfl
    have HN := Lib.hid hNI
    have HZ := Lib.hid hz
    obtain ⟨bst, hbs⟩ : ∃ bst, (nextF pre).1 = bst := ⟨_, rfl⟩
    obtain ⟨is, his⟩ : ∃ is, (nextF pre).2 = is := ⟨_, rfl⟩
    have HB := Lib.hid hbs
    have HI := Lib.hid his
    rw [hbs] at c4
    rw [his] at c5
    clear hNI hx hbs his
    cases is
    · have FN := Lib.hid (next_step x HN.out (.inl HI.out))
      clear hz
      gi_wp2
      exact ⟨FN.out.1, by rw [← HZ.out]; exact FN.out.2.1, FN.out.2.2⟩
    · by_cases hd : x.due < bst
      · have FN := Lib.hid (next_step x HN.out (.inr (by rw [HB.out]; exact hd)))
        clear hz
        gi_wp2
        exact ⟨FN.out.1, by rw [← HZ.out]; exact FN.out.2.1, FN.out.2.2⟩
      · have FN := Lib.hid (next_same x HN.out (fun h => h.elim (fun h => by rw [HI.out] at h; cases h) (fun h => hd (by rw [← HB.out]; exact h))))
        have hd2 : decide (x.due < bst) = false := by simpa using hd
        clear hz
        gi_wp2
        exact ⟨KeepsFrom.refl _ _, KB.refl _ _ _, FN.out⟩
  case done =>
    rintro D ys W hD rfl ⟨⟨v1, v2⟩, i5, i6⟩ hK
    have c4 := v1.cell
    have c5 := v2.cell
    obtain ⟨bst, hbs⟩ : ∃ bst, (nextF (ms.filter alvB)).1 = bst := ⟨_, rfl⟩
    obtain ⟨is, his⟩ : ∃ is, (nextF (ms.filter alvB)).2 = is := ⟨_, rfl⟩
    have HB := Lib.hid hbs
    have HI := Lib.hid his
    rw [hbs] at c4
    rw [his] at c5
    clear v1 v2 hbs his
    gi_wp2
    gi_region
    gi_wp2
    have hKd : W.drew.heap[D]? = some (.deferred (some [])) := hK
    refine ⟨by simp, .inl ⟨_, _, rfl, run_takeDeferred hKd, ?_⟩⟩
    refine ⟨.tuple #[.int .i64 bst, .bool is], ?_, by rw [HB.out, HI.out], (below_drew i5).trans (belowK_b (w := w) (Nat.le_refl _) W.drew D _ _ (by omega) hKd rfl rfl)⟩
    simp [results, Tryd.f20, go_sem]
  case stop =>
    rintro D c pre W _ _ h _
    exact h.elim
end Go.Proofs.YtleobnfmbhobgaaDoor
