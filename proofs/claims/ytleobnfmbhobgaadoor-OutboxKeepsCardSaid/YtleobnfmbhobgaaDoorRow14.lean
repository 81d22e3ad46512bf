/- outbox.row, at each predicate; Due, Dead, Forget. -/
import Derived.Test.YtleobnfmbhobgaaDoorSome
namespace Go.Proofs.YtleobnfmbhobgaaDoor
open Go.RowKit Go.Maps Go.Shelf
attribute [local go_sem] Oper.semAt_some

theorem mpush2 {w : World} {B : Nat} {v : Value} {ms : List Msg} (m : Msg) (h : mowns w B v ms) (hB : B ≤ w.heap.size) (lim : ms.length ≤ 1000000) :
    ∃ v' w', (Builtin.append_ #[24, 24] 24 #[v, .slice (some ⟨w.heap.size, 0, none⟩) 1 1]).run Tryd.prog (w.alloc m.obj) = .ok v' w' ∧ mowns w' B v' (ms ++ [m]) ∧ (w.alloc m.obj).grownBy w' v.ownBlock := by
  obtain ⟨i0, hi, hz0, hz1, hz2⟩ := info_parts infoMsg
  have hown2 : (w.alloc m.obj).ownsRow B 27 6 v ms.length (mflat ms) := World.ownsRow.alloc h _
  obtain ⟨v', w', ra, ro, rg, _, rat⟩ := run_append_own_at (P := Tryd.prog) (w.alloc m.obj) B 24 24 27 i0 _ 6 64 Tryd.underlying24 hi hz0 hz1 hz2 rfl (by decide) v ms.length (mflat ms) hown2 ⟨w.heap.size, 0, none⟩ 1 1 m.cells rfl
    (fun j u hj => by
      rw [addM, Nat.zero_add, Lib.cell_of_heap (heap_new w m.obj)]
      simpa [Msg.cells] using hj)
    (cells_one m) (by unfold maxLen; omega) (by omega) (by simp; omega)
  refine ⟨v', w', ra, ?_, rg⟩
  unfold mowns
  rw [List.length_append, mflat_append]
  simpa [mflat, Msg.cells] using ro

theorem appendIn_run {F : Fence} {n : Nat} {P : Program} (w : World) {ops : Array Oper} {rest : List Oper} {o : Oper} {a : Act} {Q : Exit → Act → World → Prop}
    (hg : o.guard = none) (s x : Operand) (t : TypeId) (hop : o.op = Op.call { callee := Callee.builtin Builtin.append, args := #[s, x], argTypes := #[t, t] })
    (vs vx : Value) (hs : a.eval s = vs) (hx : a.eval x = vx) (v' : Value) (w' : World) (hrun : (Builtin.append_ #[t, t] o.type #[vs, vx]).run P w = .ok v' w') (h : wpListIn F n P ops Q rest (a.put o.dst v') w') :
    wpListIn F n P ops Q (o :: rest) a w := by
  refine wpListIn_plain hg fun K hK' => ?_
  unfold Oper.wpIn
  refine ⟨?_, ?_⟩
  · simp [Oper.about, hop, resolve, Target.leads, Sem.run_pure]
  · rw [Oper.semAt_plain F _ _ (by rw [hop]; intro c hc'; cases hc')]
    simp [execOp, hop, resolve, invoke, builtin, hs, hx, hrun, Result.andThen]
    exact hK' _ _ h

def onlyN (N k : Nat) : Prop := k = N
/-- What holds between two rounds of row: the messages so far. -/
def RI (w : World) (z : Nat) (pre : List Msg) (W : World) : Prop := (∃ v, Boxed W w.heap.size 24 v ∧ W.ownsRow (w.heap.size + 3) 27 6 v pre.length (mflat pre) ∧ True) ∧ Below w.heap.size w W ∧ z ≤ W.heap.size

theorem row_step {w W : World} {pre : List Msg} {z : Nat} {v : Value} (x : Msg) (hv : Boxed W w.heap.size 24 v) (hr : mowns W (w.heap.size + 3) v pre) (hb : Below w.heap.size w W) (hz : z ≤ W.heap.size) (hz3 : z = w.heap.size + 3) (lim : pre.length ≤ 1000000) :
    ∃ a' n' c' w1, (Builtin.append_ #[24, 24] 24 #[v, .slice (some ⟨W.heap.size, 0, none⟩) 1 1]).run Tryd.prog (W.alloc x.obj) = .ok (.slice a' n' c') w1 ∧ w1.cell? ⟨w.heap.size, 0, none⟩ = some v ∧ w1.frozen? ⟨w.heap.size, 0, none⟩ = false ∧
      (KeepsFrom z W (w1.setCell ⟨w.heap.size, 0, none⟩ (.slice a' n' c')) ∧ KB z (onlyN w.heap.size) W (w1.setCell ⟨w.heap.size, 0, none⟩ (.slice a' n' c')) ∧ RI w z (pre ++ [x]) (w1.setCell ⟨w.heap.size, 0, none⟩ (.slice a' n' c'))) := by
  obtain ⟨v', w1, ra, ro, rg⟩ := mpush2 x hr (by omega) lim
  obtain ⟨a', c', rfl, _⟩ := ro.form
  generalize hv' : Value.slice a' (pre ++ [x]).length c' = v' at *
  have hne : some w.heap.size ≠ v.ownBlock := fun e => by have := (World.ownsRow.lt hr w.heap.size e.symm).1; omega
  have hv1 : Boxed w1 w.heap.size 24 v := (hv.alloc x.obj).kept rg hne
  have hne' : v'.ownBlock = none ∨ v'.ownBlock ≠ some w.heap.size := by
    cases hq : v'.ownBlock with
    | none => exact .inl rfl
    | some g => exact .inr (fun e => by have := (World.ownsRow.lt ro g hq).1; cases e; omega)
  have hs := rg.size
  simp at hs
  refine ⟨a', (pre ++ [x]).length, c', w1, by rw [hv']; exact ra, hv1.cell, hv1.frozen, ?_⟩
  rw [hv']
  refine ⟨?_, ?_, ⟨v', hv1.set v', ro.kept (grownBy_setCell' w1 w.heap.size v') hne', trivial⟩, ?_, by simp; omega⟩
  · refine (((KeepsOthers.alloc W x.obj).trans (KeepsOthers.of_grownBy rg fun j o ej hj => ?_)).trans (KeepsOthers.setCell _ _ _)).from _
    rcases (World.ownsRow.alloc hr x.obj).2 with ⟨rfl, _⟩ | ⟨g, cap, cur, rfl, _, hgb, _⟩
    · simp [Value.ownBlock] at ej
    · obtain rfl : g = j := by simpa [Value.ownBlock] using ej
      rw [hgb] at hj; cases hj; rfl
  · refine ⟨by simp; omega, fun k hk hx => ?_⟩
    rw [Below.heap_setCell _ _ _ _ (by show k ≠ w.heap.size; exact hx)]
    rw [rg.block k (by simp; omega) (fun e => by have := (World.ownsRow.lt hr k e.symm).1; omega)]
    exact Lib.alloc_old W _ k (by omega)
  · have b1 := hb.trans (((Below.refl W.heap.size W).alloc (Nat.le_refl _) x.obj).mono hb.size)
    exact (b1.grown rg b1.size (fun k hk => by have := (World.ownsRow.lt hr k hk).1; omega)).setCell (p := ⟨w.heap.size, 0, none⟩) (Nat.le_refl _) v'

theorem ri_own (w : World) (z B : Nat) (hB : w.heap.size ≤ B) : OwnFrom B (RI w z) :=
  OwnFrom.and (Own.from (holdsRow_own (w.heap.size + 3) w.heap.size 24 27 6 (fun pre : List Msg => pre.length) (fun pre => mflat pre) (fun _ _ => True)) B) (OwnFrom.and (ownFrom_below (Nat.le_refl _) hB) (fun _ _ _ _ hs hg _ => Nat.le_trans hs hg.size))

theorem mowns_rowAt {w W : World} {Bs c : Nat} {a : Option Addr} {ms : List Msg} (h : mowns w Bs (.slice a ms.length c) ms) (b : Below w.heap.size w W) (z : Nat) (hz : w.heap.size ≤ z) : mrowAt z (onlyN w.heap.size) W a ms := fun j hj => by
  obtain ⟨g, e1, _, e3, e4⟩ := h.at j hj
  exact ⟨g, e1, ⟨by omega, fun e => by unfold onlyN at e; omega⟩, fun i v hv => (b.cell (p := ⟨g, j * 6 + i, none⟩) e3).trans (e4 i v hv)⟩

set_option maxRecDepth 100000 in
set_option maxHeartbeats 4000000 in
theorem row_due {Bs c : Nat} {a : Option Addr} {ms : List Msg} {w : World} (hown : mowns w Bs (.slice a ms.length c) ms) (lim : ms.length ≤ 1000000) (Bn : Nat) (now : Int) (hBn : w.cell? ⟨Bn, 0, none⟩ = some (.int .i64 now)) (hBnl : Bn < w.heap.size) :
    Calls Tryd.prog 27 #[.slice a ms.length c, .func (.func 28) #[] #[.pointer (some ⟨Bn, 0, none⟩)]] w fun e w' => ∃ v, e = .returned v ∧ Fresh w w' v (ms.filter (dueB now)) := by
  have hb2 : Below w.heap.size w (((w.alloc (.cells #[.slice none 0 0] 24)).alloc (.cells #[.slice a ms.length c] 24)).alloc (.cells #[.func (.func 28) #[] #[.pointer (some ⟨Bn, 0, none⟩)]] 56)) := below_alloc (below_alloc (below_alloc (Below.refl _ w) _) _) _
  have hz : (((w.alloc (.cells #[.slice none 0 0] 24)).alloc (.cells #[.slice a ms.length c] 24)).alloc (.cells #[.func (.func 28) #[] #[.pointer (some ⟨Bn, 0, none⟩)]] 56)).heap.size = w.heap.size + 3 := by simp
  have bO := ((Boxed.new w 24 (.slice none 0 0)).alloc (.cells #[.slice a ms.length c] 24)).alloc (.cells #[.func (.func 28) #[] #[.pointer (some ⟨Bn, 0, none⟩)]] 56)
  have bL := (Boxed.new (w.alloc (.cells #[.slice none 0 0] 24)) 24 (.slice a ms.length c)).alloc (.cells #[.func (.func 28) #[] #[.pointer (some ⟨Bn, 0, none⟩)]] 56)
  have bI := Boxed.new ((w.alloc (.cells #[.slice none 0 0] 24)).alloc (.cells #[.slice a ms.length c] 24)) 56 (.func (.func 28) #[] #[.pointer (some ⟨Bn, 0, none⟩)])
  simp only [World.size_alloc] at bL bI
  have hr0 : mrowAt (w.heap.size + 3) (onlyN w.heap.size) (((w.alloc (.cells #[.slice none 0 0] 24)).alloc (.cells #[.slice a ms.length c] 24)).alloc (.cells #[.func (.func 28) #[] #[.pointer (some ⟨Bn, 0, none⟩)]] 56)) a ms := mowns_rowAt hown hb2 _ (by omega)
  clear hown
  have hBn2 := (hb2.cell (p := ⟨Bn, 0, none⟩) hBnl).trans hBn
  have HBN := Lib.hid hBn2
  clear hBn hBn2
  refine (callsIn_wide (n := 3)).1 ?_
  refine callsIn_of_wp_marks Tryd.func27 rfl trivial ?_ rfl
  simp only [Tryd.ntmps27, List.size_toArray, List.length_cons, List.length_nil, Nat.reduceAdd, Nat.reduceSub, Array.replicate_succ, Array.replicate_zero, List.push_toArray, List.append_toArray, List.nil_append, List.cons_append]
  gi_wp2_with (refine ⟨trivial, ?_⟩; gi_at_call 42; refine (callsIn_wide.2 (some_any _ _ _ _ _ _)).mono ?_; rintro e w' ⟨rfl, rfl⟩)
  generalize hw2 : ((w.alloc (.cells #[.slice none 0 0] 24)).alloc (.cells #[.slice a ms.length c] 24)).alloc (.cells #[.func (.func 28) #[] #[.pointer (some ⟨Bn, 0, none⟩)]] 56) = w2 at *
  clear hw2
  refine wpIn_rangeFunc_ownH (α := Msg) (encs := fun x => #[x.agg]) (N := ms.length) (Kp := KB (w.heap.size + 3) (onlyN w.heap.size)) (S := fun ys => ys = ms.filter (dueB now)) (Sp := fun _ => True) (w0 := w2) rfl (by omega) (gf := 51) (lb := #[.pointer (some ⟨w.heap.size + 1, 0, none⟩), .pointer (some ⟨w.heap.size + 1 + 1, 0, none⟩)]) rfl trivial (enters_of Tryd.func51 (by kernel_rfl) rfl)
    (fun l J Jx W hW hJ _ hY h0 => some1_due 2 (by omega) l (w.heap.size + 1) (w.heap.size + 1 + 1) (w.heap.size + 3) (onlyN w.heap.size) a c ms lim Bn now J Jx W hJ (by have := hW.size; omega) hY
      ((hW.cell (p := ⟨w.heap.size + 1, 0, none⟩) (show w.heap.size + 1 < w2.heap.size by omega)).trans bL.cell) ⟨by omega, fun e => by unfold onlyN at e; omega⟩ ((hW.cell (p := ⟨w.heap.size + 1 + 1, 0, none⟩) (show w.heap.size + 1 + 1 < w2.heap.size by omega)).trans bI.cell) ⟨by omega, fun e => by unfold onlyN at e; omega⟩ (((hW.cell (p := ⟨Bn, 0, none⟩) (show Bn < w2.heap.size by omega))).trans HBN.out) (hr0.kept (KB.of_below hW (by omega))) h0)
    (fun h k => h.trans k) (fun W l o o' hl _ _ _ => KB.putObj W l o' (by omega)) (Below.refl _ _) (fun _ => rfl)
    (RI w w2.heap.size) (fun _ _ _ => False) (ri_own w _ _ (by omega)) (fun _ _ _ _ _ hs _ _ => hs)
    ⟨⟨_, bO, World.ownsRow_nil _ _ _ _, trivial⟩, hb2, Nat.le_refl _⟩
    (fun x a' W => ∃ b v10, a' = { tmps := #[.slice a ms.length c, .func (.func 28) #[] #[.pointer (some ⟨Bn, 0, none⟩)], undef, undef, .slice none 0 0, .pointer (some ⟨w.heap.size, 0, none⟩), .pointer (some ⟨b, 0, none⟩), .slice a ms.length c, .func (.func 28) #[] #[.pointer (some ⟨Bn, 0, none⟩)], .func (.func 51) #[] #[.pointer (some ⟨w.heap.size + 1, 0, none⟩), .pointer (some ⟨w.heap.size + 1 + 1, 0, none⟩)], v10, undef, undef, undef, undef, undef], defers := [] } ∧ W.heap[b]? = some x.obj)
    (fun x a' => fun s A B row hs hg hr => by
      obtain ⟨b, v10, e1, e2⟩ := hs
      refine ⟨b, v10, e1, ?_⟩
      rw [hg.block b (Array.getElem?_eq_some_iff.1 e2).1 (fun e => by
        obtain ⟨_, o, ho, hc⟩ := hr b e.symm
        rw [e2] at ho
        cases ho
        cases hc)]
      exact e2)
    ?assign ?body ?done ?stop
  case assign =>
    rintro l pre x W K ⟨⟨v, hv, hrow, _⟩, i5, i6⟩ hK
    have hnew := heap_new W x.obj
    have KK : K { tmps := #[.slice a ms.length c, .func (.func 28) #[] #[.pointer (some ⟨Bn, 0, none⟩)], undef, undef, .slice none 0 0, .pointer (some ⟨w.heap.size, 0, none⟩), .pointer (some ⟨W.heap.size, 0, none⟩), .slice a ms.length c, .func (.func 28) #[] #[.pointer (some ⟨Bn, 0, none⟩)], .func (.func 51) #[] #[.pointer (some ⟨w.heap.size + 1, 0, none⟩), .pointer (some ⟨w.heap.size + 1 + 1, 0, none⟩)], x.agg, undef, undef, undef, undef, undef], defers := [] } (W.alloc x.obj) :=
      hK _ _ ((KeepsOthers.alloc W _).from _) (KB.of_below ((Below.refl W.heap.size W).alloc (Nat.le_refl _) _) (by omega)) ⟨⟨v, hv.alloc _, World.ownsRow.alloc hrow _, trivial⟩, below_alloc i5 _, by simp; omega⟩ ⟨_, _, rfl, hnew⟩
    clear hK hnew hv hrow
    unfold Msg.obj Msg.agg at KK
    unfold Msg.agg
    gi_wp2
    exact KK
  case body =>
    rintro l pre x a' W _ _ ⟨⟨v, hv, hrow, _⟩, i5, i6⟩ ⟨b, v10, rfl, hx⟩ hlt
    obtain ⟨a', n', c', w1, ra, s1, s2, fin⟩ := row_step x hv hrow i5 i6 hz (by omega)
    have cv := hv.cell
    have x0 : W.cell? ⟨b, 0, none⟩ = some (.int .u64 x.id) := by rw [Lib.cell_of_heap hx]; rfl
    have x1 : W.cell? ⟨b, 1, none⟩ = some (.string x.dest) := by rw [Lib.cell_of_heap hx]; rfl
    have x2 : W.cell? ⟨b, 2, none⟩ = some (.string x.body) := by rw [Lib.cell_of_heap hx]; rfl
    have x3 : W.cell? ⟨b, 3, none⟩ = some (.int .i64 x.att) := by rw [Lib.cell_of_heap hx]; rfl
    have x4 : W.cell? ⟨b, 4, none⟩ = some (.int .i64 x.due) := by rw [Lib.cell_of_heap hx]; rfl
    have x5 : W.cell? ⟨b, 5, none⟩ = some (.bool x.dead) := by rw [Lib.cell_of_heap hx]; rfl
    unfold Msg.obj at ra
    have RA := Lib.hid ra
    have FN := Lib.hid fin
    clear ra fin hx hv hrow
    gi_wp2_with (gi_at_builtin; refine appendIn_run _ rfl _ _ _ rfl _ _ rfl rfl _ _ RA.out ?_)
    exact ⟨FN.out.1, by rw [← hz]; exact FN.out.2.1, FN.out.2.2⟩
  case done =>
    rintro D ys W hD rfl ⟨⟨v, hv, hrow, _⟩, i5, i6⟩ hK
    have hc := hv.cell
    gi_wp2
    refine ⟨by simp, .inl ⟨_, _, rfl, run_takeDeferred hK, ?_⟩⟩
    exact ⟨_, results_tmp rfl _ _ _, v, rfl, (mowns.mono (ownsRow_putObj hrow _ hK rfl) (by omega)), i5.trans (belowK_b (w := w) (Nat.le_refl _) W D _ _ (by omega) hK rfl rfl)⟩
  case stop =>
    rintro D c pre W _ _ h _
    exact h.elim

set_option maxRecDepth 100000 in
set_option maxHeartbeats 4000000 in
theorem row_alv {Bs c : Nat} {a : Option Addr} {ms : List Msg} {w : World} (hown : mowns w Bs (.slice a ms.length c) ms) (lim : ms.length ≤ 1000000) :
    Calls Tryd.prog 27 #[.slice a ms.length c, .func (.func 29) #[] #[]] w fun e w' => ∃ v, e = .returned v ∧ Fresh w w' v (ms.filter (alvB)) := by
  have hb2 : Below w.heap.size w (((w.alloc (.cells #[.slice none 0 0] 24)).alloc (.cells #[.slice a ms.length c] 24)).alloc (.cells #[.func (.func 29) #[] #[]] 56)) := below_alloc (below_alloc (below_alloc (Below.refl _ w) _) _) _
  have hz : (((w.alloc (.cells #[.slice none 0 0] 24)).alloc (.cells #[.slice a ms.length c] 24)).alloc (.cells #[.func (.func 29) #[] #[]] 56)).heap.size = w.heap.size + 3 := by simp
  have bO := ((Boxed.new w 24 (.slice none 0 0)).alloc (.cells #[.slice a ms.length c] 24)).alloc (.cells #[.func (.func 29) #[] #[]] 56)
  have bL := (Boxed.new (w.alloc (.cells #[.slice none 0 0] 24)) 24 (.slice a ms.length c)).alloc (.cells #[.func (.func 29) #[] #[]] 56)
  have bI := Boxed.new ((w.alloc (.cells #[.slice none 0 0] 24)).alloc (.cells #[.slice a ms.length c] 24)) 56 (.func (.func 29) #[] #[])
  simp only [World.size_alloc] at bL bI
  have hr0 : mrowAt (w.heap.size + 3) (onlyN w.heap.size) (((w.alloc (.cells #[.slice none 0 0] 24)).alloc (.cells #[.slice a ms.length c] 24)).alloc (.cells #[.func (.func 29) #[] #[]] 56)) a ms := mowns_rowAt hown hb2 _ (by omega)
  clear hown
  refine (callsIn_wide (n := 3)).1 ?_
  refine callsIn_of_wp_marks Tryd.func27 rfl trivial ?_ rfl
  simp only [Tryd.ntmps27, List.size_toArray, List.length_cons, List.length_nil, Nat.reduceAdd, Nat.reduceSub, Array.replicate_succ, Array.replicate_zero, List.push_toArray, List.append_toArray, List.nil_append, List.cons_append]
  gi_wp2_with (refine ⟨trivial, ?_⟩; gi_at_call 42; refine (callsIn_wide.2 (some_any _ _ _ _ _ _)).mono ?_; rintro e w' ⟨rfl, rfl⟩)
  generalize hw2 : ((w.alloc (.cells #[.slice none 0 0] 24)).alloc (.cells #[.slice a ms.length c] 24)).alloc (.cells #[.func (.func 29) #[] #[]] 56) = w2 at *
  clear hw2
  refine wpIn_rangeFunc_ownH (α := Msg) (encs := fun x => #[x.agg]) (N := ms.length) (Kp := KB (w.heap.size + 3) (onlyN w.heap.size)) (S := fun ys => ys = ms.filter (alvB)) (Sp := fun _ => True) (w0 := w2) rfl (by omega) (gf := 51) (lb := #[.pointer (some ⟨w.heap.size + 1, 0, none⟩), .pointer (some ⟨w.heap.size + 1 + 1, 0, none⟩)]) rfl trivial (enters_of Tryd.func51 (by kernel_rfl) rfl)
    (fun l J Jx W hW hJ _ hY h0 => some1_alv 2 (by omega) l (w.heap.size + 1) (w.heap.size + 1 + 1) (w.heap.size + 3) (onlyN w.heap.size) a c ms lim J Jx W hJ (by have := hW.size; omega) hY
      ((hW.cell (p := ⟨w.heap.size + 1, 0, none⟩) (show w.heap.size + 1 < w2.heap.size by omega)).trans bL.cell) ⟨by omega, fun e => by unfold onlyN at e; omega⟩ ((hW.cell (p := ⟨w.heap.size + 1 + 1, 0, none⟩) (show w.heap.size + 1 + 1 < w2.heap.size by omega)).trans bI.cell) (hr0.kept (KB.of_below hW (by omega))) h0)
    (fun h k => h.trans k) (fun W l o o' hl _ _ _ => KB.putObj W l o' (by omega)) (Below.refl _ _) (fun _ => rfl)
    (RI w w2.heap.size) (fun _ _ _ => False) (ri_own w _ _ (by omega)) (fun _ _ _ _ _ hs _ _ => hs)
    ⟨⟨_, bO, World.ownsRow_nil _ _ _ _, trivial⟩, hb2, Nat.le_refl _⟩
    (fun x a' W => ∃ b v10, a' = { tmps := #[.slice a ms.length c, .func (.func 29) #[] #[], undef, undef, .slice none 0 0, .pointer (some ⟨w.heap.size, 0, none⟩), .pointer (some ⟨b, 0, none⟩), .slice a ms.length c, .func (.func 29) #[] #[], .func (.func 51) #[] #[.pointer (some ⟨w.heap.size + 1, 0, none⟩), .pointer (some ⟨w.heap.size + 1 + 1, 0, none⟩)], v10, undef, undef, undef, undef, undef], defers := [] } ∧ W.heap[b]? = some x.obj)
    (fun x a' => fun s A B row hs hg hr => by
      obtain ⟨b, v10, e1, e2⟩ := hs
      refine ⟨b, v10, e1, ?_⟩
      rw [hg.block b (Array.getElem?_eq_some_iff.1 e2).1 (fun e => by
        obtain ⟨_, o, ho, hc⟩ := hr b e.symm
        rw [e2] at ho
        cases ho
        cases hc)]
      exact e2)
    ?assign ?body ?done ?stop
  case assign =>
    rintro l pre x W K ⟨⟨v, hv, hrow, _⟩, i5, i6⟩ hK
    have hnew := heap_new W x.obj
    have KK : K { tmps := #[.slice a ms.length c, .func (.func 29) #[] #[], undef, undef, .slice none 0 0, .pointer (some ⟨w.heap.size, 0, none⟩), .pointer (some ⟨W.heap.size, 0, none⟩), .slice a ms.length c, .func (.func 29) #[] #[], .func (.func 51) #[] #[.pointer (some ⟨w.heap.size + 1, 0, none⟩), .pointer (some ⟨w.heap.size + 1 + 1, 0, none⟩)], x.agg, undef, undef, undef, undef, undef], defers := [] } (W.alloc x.obj) :=
      hK _ _ ((KeepsOthers.alloc W _).from _) (KB.of_below ((Below.refl W.heap.size W).alloc (Nat.le_refl _) _) (by omega)) ⟨⟨v, hv.alloc _, World.ownsRow.alloc hrow _, trivial⟩, below_alloc i5 _, by simp; omega⟩ ⟨_, _, rfl, hnew⟩
    clear hK hnew hv hrow
    unfold Msg.obj Msg.agg at KK
    unfold Msg.agg
    gi_wp2
    exact KK
  case body =>
    rintro l pre x a' W _ _ ⟨⟨v, hv, hrow, _⟩, i5, i6⟩ ⟨b, v10, rfl, hx⟩ hlt
    obtain ⟨a', n', c', w1, ra, s1, s2, fin⟩ := row_step x hv hrow i5 i6 hz (by omega)
    have cv := hv.cell
    have x0 : W.cell? ⟨b, 0, none⟩ = some (.int .u64 x.id) := by rw [Lib.cell_of_heap hx]; rfl
    have x1 : W.cell? ⟨b, 1, none⟩ = some (.string x.dest) := by rw [Lib.cell_of_heap hx]; rfl
    have x2 : W.cell? ⟨b, 2, none⟩ = some (.string x.body) := by rw [Lib.cell_of_heap hx]; rfl
    have x3 : W.cell? ⟨b, 3, none⟩ = some (.int .i64 x.att) := by rw [Lib.cell_of_heap hx]; rfl
    have x4 : W.cell? ⟨b, 4, none⟩ = some (.int .i64 x.due) := by rw [Lib.cell_of_heap hx]; rfl
    have x5 : W.cell? ⟨b, 5, none⟩ = some (.bool x.dead) := by rw [Lib.cell_of_heap hx]; rfl
    unfold Msg.obj at ra
    have RA := Lib.hid ra
    have FN := Lib.hid fin
    clear ra fin hx hv hrow
    gi_wp2_with (gi_at_builtin; refine appendIn_run _ rfl _ _ _ rfl _ _ rfl rfl _ _ RA.out ?_)
    exact ⟨FN.out.1, by rw [← hz]; exact FN.out.2.1, FN.out.2.2⟩
  case done =>
    rintro D ys W hD rfl ⟨⟨v, hv, hrow, _⟩, i5, i6⟩ hK
    have hc := hv.cell
    gi_wp2
    refine ⟨by simp, .inl ⟨_, _, rfl, run_takeDeferred hK, ?_⟩⟩
    exact ⟨_, results_tmp rfl _ _ _, v, rfl, (mowns.mono (ownsRow_putObj hrow _ hK rfl) (by omega)), i5.trans (belowK_b (w := w) (Nat.le_refl _) W D _ _ (by omega) hK rfl rfl)⟩
  case stop =>
    rintro D c pre W _ _ h _
    exact h.elim

set_option maxRecDepth 100000 in
set_option maxHeartbeats 4000000 in
theorem row_ded {Bs c : Nat} {a : Option Addr} {ms : List Msg} {w : World} (hown : mowns w Bs (.slice a ms.length c) ms) (lim : ms.length ≤ 1000000) :
    Calls Tryd.prog 27 #[.slice a ms.length c, .func (.func 41) #[] #[]] w fun e w' => ∃ v, e = .returned v ∧ Fresh w w' v (ms.filter (dedB)) := by
  have hb2 : Below w.heap.size w (((w.alloc (.cells #[.slice none 0 0] 24)).alloc (.cells #[.slice a ms.length c] 24)).alloc (.cells #[.func (.func 41) #[] #[]] 56)) := below_alloc (below_alloc (below_alloc (Below.refl _ w) _) _) _
  have hz : (((w.alloc (.cells #[.slice none 0 0] 24)).alloc (.cells #[.slice a ms.length c] 24)).alloc (.cells #[.func (.func 41) #[] #[]] 56)).heap.size = w.heap.size + 3 := by simp
  have bO := ((Boxed.new w 24 (.slice none 0 0)).alloc (.cells #[.slice a ms.length c] 24)).alloc (.cells #[.func (.func 41) #[] #[]] 56)
  have bL := (Boxed.new (w.alloc (.cells #[.slice none 0 0] 24)) 24 (.slice a ms.length c)).alloc (.cells #[.func (.func 41) #[] #[]] 56)
  have bI := Boxed.new ((w.alloc (.cells #[.slice none 0 0] 24)).alloc (.cells #[.slice a ms.length c] 24)) 56 (.func (.func 41) #[] #[])
  simp only [World.size_alloc] at bL bI
  have hr0 : mrowAt (w.heap.size + 3) (onlyN w.heap.size) (((w.alloc (.cells #[.slice none 0 0] 24)).alloc (.cells #[.slice a ms.length c] 24)).alloc (.cells #[.func (.func 41) #[] #[]] 56)) a ms := mowns_rowAt hown hb2 _ (by omega)
  clear hown
  refine (callsIn_wide (n := 3)).1 ?_
  refine callsIn_of_wp_marks Tryd.func27 rfl trivial ?_ rfl
  simp only [Tryd.ntmps27, List.size_toArray, List.length_cons, List.length_nil, Nat.reduceAdd, Nat.reduceSub, Array.replicate_succ, Array.replicate_zero, List.push_toArray, List.append_toArray, List.nil_append, List.cons_append]
  gi_wp2_with (refine ⟨trivial, ?_⟩; gi_at_call 42; refine (callsIn_wide.2 (some_any _ _ _ _ _ _)).mono ?_; rintro e w' ⟨rfl, rfl⟩)
  generalize hw2 : ((w.alloc (.cells #[.slice none 0 0] 24)).alloc (.cells #[.slice a ms.length c] 24)).alloc (.cells #[.func (.func 41) #[] #[]] 56) = w2 at *
  clear hw2
  refine wpIn_rangeFunc_ownH (α := Msg) (encs := fun x => #[x.agg]) (N := ms.length) (Kp := KB (w.heap.size + 3) (onlyN w.heap.size)) (S := fun ys => ys = ms.filter (dedB)) (Sp := fun _ => True) (w0 := w2) rfl (by omega) (gf := 51) (lb := #[.pointer (some ⟨w.heap.size + 1, 0, none⟩), .pointer (some ⟨w.heap.size + 1 + 1, 0, none⟩)]) rfl trivial (enters_of Tryd.func51 (by kernel_rfl) rfl)
    (fun l J Jx W hW hJ _ hY h0 => some1_ded 2 (by omega) l (w.heap.size + 1) (w.heap.size + 1 + 1) (w.heap.size + 3) (onlyN w.heap.size) a c ms lim J Jx W hJ (by have := hW.size; omega) hY
      ((hW.cell (p := ⟨w.heap.size + 1, 0, none⟩) (show w.heap.size + 1 < w2.heap.size by omega)).trans bL.cell) ⟨by omega, fun e => by unfold onlyN at e; omega⟩ ((hW.cell (p := ⟨w.heap.size + 1 + 1, 0, none⟩) (show w.heap.size + 1 + 1 < w2.heap.size by omega)).trans bI.cell) (hr0.kept (KB.of_below hW (by omega))) h0)
    (fun h k => h.trans k) (fun W l o o' hl _ _ _ => KB.putObj W l o' (by omega)) (Below.refl _ _) (fun _ => rfl)
    (RI w w2.heap.size) (fun _ _ _ => False) (ri_own w _ _ (by omega)) (fun _ _ _ _ _ hs _ _ => hs)
    ⟨⟨_, bO, World.ownsRow_nil _ _ _ _, trivial⟩, hb2, Nat.le_refl _⟩
    (fun x a' W => ∃ b v10, a' = { tmps := #[.slice a ms.length c, .func (.func 41) #[] #[], undef, undef, .slice none 0 0, .pointer (some ⟨w.heap.size, 0, none⟩), .pointer (some ⟨b, 0, none⟩), .slice a ms.length c, .func (.func 41) #[] #[], .func (.func 51) #[] #[.pointer (some ⟨w.heap.size + 1, 0, none⟩), .pointer (some ⟨w.heap.size + 1 + 1, 0, none⟩)], v10, undef, undef, undef, undef, undef], defers := [] } ∧ W.heap[b]? = some x.obj)
    (fun x a' => fun s A B row hs hg hr => by
      obtain ⟨b, v10, e1, e2⟩ := hs
      refine ⟨b, v10, e1, ?_⟩
      rw [hg.block b (Array.getElem?_eq_some_iff.1 e2).1 (fun e => by
        obtain ⟨_, o, ho, hc⟩ := hr b e.symm
        rw [e2] at ho
        cases ho
        cases hc)]
      exact e2)
    ?assign ?body ?done ?stop
  case assign =>
    rintro l pre x W K ⟨⟨v, hv, hrow, _⟩, i5, i6⟩ hK
    have hnew := heap_new W x.obj
    have KK : K { tmps := #[.slice a ms.length c, .func (.func 41) #[] #[], undef, undef, .slice none 0 0, .pointer (some ⟨w.heap.size, 0, none⟩), .pointer (some ⟨W.heap.size, 0, none⟩), .slice a ms.length c, .func (.func 41) #[] #[], .func (.func 51) #[] #[.pointer (some ⟨w.heap.size + 1, 0, none⟩), .pointer (some ⟨w.heap.size + 1 + 1, 0, none⟩)], x.agg, undef, undef, undef, undef, undef], defers := [] } (W.alloc x.obj) :=
      hK _ _ ((KeepsOthers.alloc W _).from _) (KB.of_below ((Below.refl W.heap.size W).alloc (Nat.le_refl _) _) (by omega)) ⟨⟨v, hv.alloc _, World.ownsRow.alloc hrow _, trivial⟩, below_alloc i5 _, by simp; omega⟩ ⟨_, _, rfl, hnew⟩
    clear hK hnew hv hrow
    unfold Msg.obj Msg.agg at KK
    unfold Msg.agg
    gi_wp2
    exact KK
  case body =>
    rintro l pre x a' W _ _ ⟨⟨v, hv, hrow, _⟩, i5, i6⟩ ⟨b, v10, rfl, hx⟩ hlt
    obtain ⟨a', n', c', w1, ra, s1, s2, fin⟩ := row_step x hv hrow i5 i6 hz (by omega)
    have cv := hv.cell
    have x0 : W.cell? ⟨b, 0, none⟩ = some (.int .u64 x.id) := by rw [Lib.cell_of_heap hx]; rfl
    have x1 : W.cell? ⟨b, 1, none⟩ = some (.string x.dest) := by rw [Lib.cell_of_heap hx]; rfl
    have x2 : W.cell? ⟨b, 2, none⟩ = some (.string x.body) := by rw [Lib.cell_of_heap hx]; rfl
    have x3 : W.cell? ⟨b, 3, none⟩ = some (.int .i64 x.att) := by rw [Lib.cell_of_heap hx]; rfl
    have x4 : W.cell? ⟨b, 4, none⟩ = some (.int .i64 x.due) := by rw [Lib.cell_of_heap hx]; rfl
    have x5 : W.cell? ⟨b, 5, none⟩ = some (.bool x.dead) := by rw [Lib.cell_of_heap hx]; rfl
    unfold Msg.obj at ra
    have RA := Lib.hid ra
    have FN := Lib.hid fin
    clear ra fin hx hv hrow
    gi_wp2_with (gi_at_builtin; refine appendIn_run _ rfl _ _ _ rfl _ _ rfl rfl _ _ RA.out ?_)
    exact ⟨FN.out.1, by rw [← hz]; exact FN.out.2.1, FN.out.2.2⟩
  case done =>
    rintro D ys W hD rfl ⟨⟨v, hv, hrow, _⟩, i5, i6⟩ hK
    have hc := hv.cell
    gi_wp2
    refine ⟨by simp, .inl ⟨_, _, rfl, run_takeDeferred hK, ?_⟩⟩
    exact ⟨_, results_tmp rfl _ _ _, v, rfl, (mowns.mono (ownsRow_putObj hrow _ hK rfl) (by omega)), i5.trans (belowK_b (w := w) (Nat.le_refl _) W D _ _ (by omega) hK rfl rfl)⟩
  case stop =>
    rintro D c pre W _ _ h _
    exact h.elim

set_option maxRecDepth 100000 in
theorem due_any {Bs c : Nat} {a : Option Addr} {ms : List Msg} {w : World} (hown : mowns w Bs (.slice a ms.length c) ms) (lim : ms.length ≤ 1000000) (now : Int) :
    Calls Tryd.prog 13 #[.slice a ms.length c, .int .i64 now] w fun e w' => ∃ v, e = .returned v ∧ Fresh w w' v (ms.filter (dueB now)) := by
  have b0 : Below w.heap.size w (w.alloc (.cells #[.int .i64 now] 2)) := (Below.refl _ _).alloc (Nat.le_refl _) _
  have RW := Lib.hid (row_due (w := w.alloc (.cells #[.int .i64 now] 2)) (hown.below b0) lim w.heap.size now (by rw [Lib.cell_of_heap (heap_new w _)]; rfl) (by simp))
  have hmf : ∀ (fn : Fn) (first cap : Array Value) (w : World), (Instr.makeFunc fn first cap).run Tryd.prog w = .ok (.func fn first cap) w := fun _ _ _ _ => rfl
  obtain ⟨n, hn⟩ : ∃ n, ms.length = n := ⟨_, rfl⟩
  rw [hn] at RW ⊢
  clear hown lim hn
  go_enter Tryd.func13, Tryd.ntmps13
  go_wp2_with (go_at_call 27; (with_reducible refine (RW.out).mono ?_); rintro e w2 ⟨v, rfl, o2, b2⟩; have O2 := Lib.hid o2; have B2 := Lib.hid b2; clear o2 b2)
  go_ret
  exact ⟨v, rfl, (O2.out).mono (by simp), b0.trans ((B2.out).mono (by simp))⟩
set_option maxRecDepth 100000 in
theorem forget_any {Bs c : Nat} {a : Option Addr} {ms : List Msg} {w : World} (hown : mowns w Bs (.slice a ms.length c) ms) (lim : ms.length ≤ 1000000) :
    Calls Tryd.prog 14 #[.slice a ms.length c] w fun e w' => ∃ v, e = .returned v ∧ Fresh w w' v (ms.filter alvB) := by
  have RW := Lib.hid (row_alv hown lim)
  obtain ⟨n, hn⟩ : ∃ n, ms.length = n := ⟨_, rfl⟩
  rw [hn] at RW ⊢
  clear hown lim hn
  go_enter Tryd.func14, Tryd.ntmps14
  go_wp2_with (go_at_call 27; (with_reducible refine (RW.out).mono ?_); rintro e w2 ⟨v, rfl, o2⟩; have O2 := Lib.hid o2; clear o2)
  go_ret
  exact ⟨v, rfl, O2.out⟩
set_option maxRecDepth 100000 in
theorem deads_any {Bs c : Nat} {a : Option Addr} {ms : List Msg} {w : World} (hown : mowns w Bs (.slice a ms.length c) ms) (lim : ms.length ≤ 1000000) :
    Calls Tryd.prog 18 #[.slice a ms.length c] w fun e w' => ∃ v, e = .returned v ∧ Fresh w w' v (ms.filter dedB) := by
  have RW := Lib.hid (row_ded hown lim)
  obtain ⟨n, hn⟩ : ∃ n, ms.length = n := ⟨_, rfl⟩
  rw [hn] at RW ⊢
  clear hown lim hn
  go_enter Tryd.func18, Tryd.ntmps18
  go_wp2_with (go_at_call 27; (with_reducible refine (RW.out).mono ?_); rintro e w2 ⟨v, rfl, o2⟩; have O2 := Lib.hid o2; clear o2)
  go_ret
  exact ⟨v, rfl, O2.out⟩
end Go.Proofs.YtleobnfmbhobgaaDoor
