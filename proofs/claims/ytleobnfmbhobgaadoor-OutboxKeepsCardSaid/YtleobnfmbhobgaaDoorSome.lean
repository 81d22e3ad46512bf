/- outbox.some: the iterator, at each predicate. -/
import Derived.Test.YtleobnfmbhobgaaDoorPred
import Derived.Test.YtleobnfmbhobgaaDoorPost
import Derived.RangeFuncNested
import Derived.RangeFuncFrom
import Derived.RangeFuncBound
import Derived.RangeFuncCalls
import Derived.RangeFuncLeaves
import Derived.RangeFuncBox
import Derived.Shelf.Abstract
import Derived.Shelf.RegionOpen
import Derived.OwnWalkIn
import Derived.TacticsInMore
import Derived.LoopNIn
import Derived.LoopIn
namespace Go.Proofs.YtleobnfmbhobgaaDoor
open Go.RowKit Go.Maps Go.Shelf

/-- What a body leaves: all below a block's number, but for some blocks. -/
structure KB (n₀ : Nat) (X : Nat → Prop) (A B : World) : Prop where
  size : A.heap.size ≤ B.heap.size
  block : ∀ k, k < n₀ → ¬ X k → B.heap[k]? = A.heap[k]?
theorem KB.refl (n₀ : Nat) (X : Nat → Prop) (A : World) : KB n₀ X A A := ⟨Nat.le_refl _, fun _ _ _ => rfl⟩
theorem KB.trans {n₀ : Nat} {X : Nat → Prop} {A B C : World} (h : KB n₀ X A B) (k : KB n₀ X B C) : KB n₀ X A C := ⟨Nat.le_trans h.size k.size, fun j hj hx => (k.block j hj hx).trans (h.block j hj hx)⟩
theorem KB.of_below {n₀ : Nat} {X : Nat → Prop} {A B : World} (h : Below A.heap.size A B) (hn : n₀ ≤ A.heap.size) : KB n₀ X A B := ⟨h.size, fun k hk _ => h.block k (Nat.lt_of_lt_of_le hk hn)⟩
theorem KB.cell {n₀ : Nat} {X : Nat → Prop} {A B : World} (h : KB n₀ X A B) {b i : Nat} {v : Value} (hb : b < n₀ ∧ ¬ X b) (hc : A.cell? ⟨b, i, none⟩ = some v) : B.cell? ⟨b, i, none⟩ = some v := (World.cell?_of_block (h.block b hb.1 hb.2)).trans hc
theorem KB.putObj {n₀ : Nat} {X : Nat → Prop} (W : World) (l : Nat) (o : Obj) (hl : n₀ ≤ l) : KB n₀ X W (W.putObj l o) := ⟨by simp, fun k hk _ => World.putObj_heap_other (by omega)⟩

theorem abides_below {β : Type} {B : Nat} {J : β → World → Prop} (hJ : AbidesFrom B J) {s : β} {W W' : World} (h : J s W) (b : Below W.heap.size W W') : J s W' :=
  hJ s W W' none h ⟨b.os, b.tape, b.output, b.size, fun k hk _ => b.block k hk⟩ (fun r e => by cases e)

/-- A row of messages that lies below a block's number, and in none of some blocks. -/
def mrowAt (n₀ : Nat) (X : Nat → Prop) (w : World) (a : Option Addr) (ms : List Msg) : Prop := ∀ j, j < ms.length → ∃ g, a = some ⟨g, 0, none⟩ ∧ (g < n₀ ∧ ¬ X g) ∧ ∀ i v, (ms[j]?.getD noMsg).cells[i]? = some v → w.cell? ⟨g, j * 6 + i, none⟩ = some v
theorem mrowAt.kept {n₀ : Nat} {X : Nat → Prop} {w W : World} {a : Option Addr} {ms : List Msg} (h : mrowAt n₀ X w a ms) (b : KB n₀ X w W) : mrowAt n₀ X W a ms := fun j hj => by
  obtain ⟨g, h1, h2, h3⟩ := h j hj
  exact ⟨g, h1, h2, fun i v hv => b.cell h2 (h3 i v hv)⟩
theorem take_filter {ms : List Msg} {k : Nat} {p : Msg → Bool} (hk : k < ms.length) : (ms.take (k + 1)).filter p = (ms.take k).filter p ++ (if p (ms[k]?.getD noMsg) then [ms[k]?.getD noMsg] else []) := by
  rw [List.take_succ_eq_append_getElem hk, List.filter_append, List.getElem?_eq_getElem hk, Option.getD_some]
  congr 1
  cases h : p ms[k] <;> simp [h]

attribute [local go_sem] Oper.semAt_some

set_option maxRecDepth 100000 in
set_option maxHeartbeats 4000000 in
theorem some1_due (n : Nat) (hn : 1 ≤ n) (l Bl Bi n₀ : Nat) (X : Nat → Prop) (a : Option Addr) (cap : Nat) (ms : List Msg) (lim : ms.length ≤ 1000000) (Bn : Nat) (now : Int) (J Jx : List Msg → World → Prop) (W : World) (hJ : AbidesFrom W.heap.size J) (hn₀ : n₀ ≤ W.heap.size)
    (hY : ∀ pre x W1, J pre W1 → pre.length < ms.length → YieldAt Fence.wide (n - 1) Tryd.prog l #[x.agg] W1 fun e W' =>
      (e = .returned (.bool true) ∧ J (pre ++ [x]) W' ∧ KB n₀ X W1 W') ∨ (e = .returned (.bool false) ∧ Jx (pre ++ [x]) W'))
    (hBl : W.cell? ⟨Bl, 0, none⟩ = some (.slice a ms.length cap)) (hBi0 : Bi < n₀ ∧ ¬ X Bi) (hBi : W.cell? ⟨Bi, 0, none⟩ = some (.func (.func 28) #[] #[.pointer (some ⟨Bn, 0, none⟩)])) (hBn0 : Bn < n₀ ∧ ¬ X Bn) (hBn : W.cell? ⟨Bn, 0, none⟩ = some (.int .i64 now))
    (hrow : mrowAt n₀ X W a ms) (h0 : J [] W) :
    CallsIn Fence.wide n Tryd.prog 51 #[.func (.yield l) #[] #[], .pointer (some ⟨Bl, 0, none⟩), .pointer (some ⟨Bi, 0, none⟩)] W fun e W' => (∃ v, e = .returned v) ∧
      ((∃ ys, ys = ms.filter (dueB now) ∧ J ys W') ∨ (∃ pre, True ∧ Jx pre W')) := by
  obtain ⟨m, hm⟩ : ∃ m, ms.length = m := ⟨_, rfl⟩
  have HM := Lib.hid hm
  have RW := Lib.hid hrow
  have HBI := Lib.hid hBi
  rw [hm] at hBl hY lim
  clear hm hrow hBi
  refine callsIn_of_wp Tryd.func51 rfl trivial ?_ rfl
  simp only [Tryd.ntmps51, List.size_toArray, List.length_cons, List.length_nil, Nat.reduceAdd, Nat.reduceSub, Array.replicate_succ, Array.replicate_zero, List.push_toArray, List.append_toArray, List.nil_append, List.cons_append]
  gi_wp2
  gi_loopw [8] (fun i wr => ∃ k : Nat, k ≤ m ∧ i = .int .i64 k ∧ J ((ms.take k).filter (dueB now)) wr ∧ KB n₀ X W wr) (fun i _ => m - (intOf i).toNat)
  case atStart => exact ⟨0, Nat.zero_le _, rfl, by simpa using h0, KB.refl _ _ _⟩
  case round =>
    obtain ⟨k, hk, rfl, hJs, hkb⟩ := hrel
    by_cases hlt : k < m
    · have hlt' : (k : Int) < m := by omega
      have hkl : k < ms.length := by rw [HM.out]; exact hlt
      obtain ⟨g, rfl, hg, hcs⟩ := (RW.out.kept hkb) k hkl
      have q0 := hcs 0 _ rfl
      rw [Nat.add_zero] at q0
      have q1 := hcs 1 _ rfl
      have q2 := hcs 2 _ rfl
      have q3 := hcs 3 _ rfl
      have q4 := hcs 4 _ rfl
      have q5 := hcs 5 _ rfl
      clear hcs
      have htf := take_filter (p := dueB now) hkl
      generalize ms[k]?.getD noMsg = x at q0 q1 q2 q3 q4 q5 htf
      have hbi := hkb.cell hBi0 HBI.out
      have hBn2 := hkb.cell hBn0 hBn
      have PD := due1_any x now Bn (wr.alloc x.obj) (((Below.refl _ _).alloc (Nat.le_refl _) _).cell (p := ⟨Bn, 0, none⟩) (show Bn < wr.heap.size by have := hkb.size; omega) |>.trans hBn2) (by simp; have := hkb.size; omega)
      obtain ⟨c0, c1, c2, c3, c4, c5⟩ := msg_box wr x
      have hl1 : wr.heap.size < (wr.alloc x.obj).heap.size := by simp
      have hbi0 : Bi < wr.heap.size := by have := hkb.size; omega
      have hpl : ((ms.take k).filter (dueB now)).length < m := by have := List.length_filter_le (dueB now) (ms.take k); rw [List.length_take] at this; omega
      have JA : ∀ w2, Below (wr.alloc x.obj).heap.size (wr.alloc x.obj) w2 → J ((ms.take k).filter (dueB now)) w2 ∧ KB n₀ X W w2 ∧ n₀ ≤ w2.heap.size := fun w2 b2 => by
        have b := ((Below.refl wr.heap.size wr).alloc (Nat.le_refl _) x.obj).trans (b2.mono (Nat.le_of_lt hl1))
        have hs := hkb.size
        have hs2 := b.size
        exact ⟨abides_below hJ hJs b, hkb.trans (KB.of_below b (by omega)), by omega⟩
      have JA := Lib.hid JA
      have HT := Lib.hid htf
      unfold Msg.obj at *
      obtain ⟨pb, hpb⟩ : ∃ pb, dueB now x = pb := ⟨_, rfl⟩
      rw [hpb] at PD
      have HPB := Lib.hid hpb
      have PD := Lib.hid PD
      unfold Msg.agg at PD
      clear htf hpb hJs hBl
      clear hBn hBn2
      cases pb
      · clear hY
        gi_wp2_with (refine ⟨trivial, ?_⟩; gi_at_call 28; refine (callsIn_wide.2 PD.out).mono ?_; rintro e w2 ⟨rfl, b2⟩; have JB := Lib.hid (JA.out w2 b2); clear b2)
        refine ⟨fun f hf => (by cases hf), ?_⟩
        gi_wp2
        go_roundw
        case rel => exact ⟨k + 1, by omega, by go_num, by rw [HT.out, HPB.out]; simpa using JB.out.1, JB.out.2.1⟩
        case measure => simp [intOf]; omega
      · gi_wp2_with (refine ⟨trivial, ?_⟩; gi_at_call 28; refine (callsIn_wide.2 PD.out).mono ?_; rintro e w2 ⟨rfl, b2⟩; have p0 := (b2.cell (p := ⟨wr.heap.size, 0, none⟩) hl1).trans c0; have p1 := (b2.cell (p := ⟨wr.heap.size, 1, none⟩) hl1).trans c1; have p2 := (b2.cell (p := ⟨wr.heap.size, 2, none⟩) hl1).trans c2; have p3 := (b2.cell (p := ⟨wr.heap.size, 3, none⟩) hl1).trans c3; have p4 := (b2.cell (p := ⟨wr.heap.size, 4, none⟩) hl1).trans c4; have p5 := (b2.cell (p := ⟨wr.heap.size, 5, none⟩) hl1).trans c5; have JB := Lib.hid (JA.out w2 b2); clear b2; obtain ⟨fn, tmps, assign, body, hy, hR⟩ := hY _ x w2 JB.out.1 hpl; have HR := Lib.hid hR; clear hR hY; unfold Msg.agg at hy)
        refine (HR.out).mono ?_
        rintro e W3 (⟨rfl, hJ3, hk3⟩ | ⟨rfl, hJx3⟩)
        · have J3 := Lib.hid hJ3
          have K3 := Lib.hid (JB.out.2.1.trans hk3)
          clear hJ3 hk3
          gi_wp2
          go_roundw
          case rel => exact ⟨k + 1, by omega, by go_num, by rw [HT.out, HPB.out]; exact J3.out, K3.out⟩
          case measure => simp [intOf]; omega
        · gi_wp2
          refine bodyPost_ret (results_none rfl _ _ _) rfl ?_
          exact ⟨⟨_, rfl⟩, .inr ⟨_, trivial, hJx3⟩⟩
    · have hlt' : ¬ ((k : Int) < m) := by omega
      have e1 : ms.take k = ms := List.take_of_length_le (by rw [HM.out]; omega)
      rw [e1] at hJs
      have JS := Lib.hid hJs
      clear hY hBl hJs e1
      gi_wp2
      go_end0
      exact ⟨⟨_, rfl⟩, .inl JS.out⟩

set_option maxRecDepth 100000 in
set_option maxHeartbeats 4000000 in
theorem some1_alv (n : Nat) (hn : 1 ≤ n) (l Bl Bi n₀ : Nat) (X : Nat → Prop) (a : Option Addr) (cap : Nat) (ms : List Msg) (lim : ms.length ≤ 1000000) (J Jx : List Msg → World → Prop) (W : World) (hJ : AbidesFrom W.heap.size J) (hn₀ : n₀ ≤ W.heap.size)
    (hY : ∀ pre x W1, J pre W1 → pre.length < ms.length → YieldAt Fence.wide (n - 1) Tryd.prog l #[x.agg] W1 fun e W' =>
      (e = .returned (.bool true) ∧ J (pre ++ [x]) W' ∧ KB n₀ X W1 W') ∨ (e = .returned (.bool false) ∧ Jx (pre ++ [x]) W'))
    (hBl : W.cell? ⟨Bl, 0, none⟩ = some (.slice a ms.length cap)) (hBi0 : Bi < n₀ ∧ ¬ X Bi) (hBi : W.cell? ⟨Bi, 0, none⟩ = some (.func (.func 29) #[] #[]))
    (hrow : mrowAt n₀ X W a ms) (h0 : J [] W) :
    CallsIn Fence.wide n Tryd.prog 51 #[.func (.yield l) #[] #[], .pointer (some ⟨Bl, 0, none⟩), .pointer (some ⟨Bi, 0, none⟩)] W fun e W' => (∃ v, e = .returned v) ∧
      ((∃ ys, ys = ms.filter (alvB) ∧ J ys W') ∨ (∃ pre, True ∧ Jx pre W')) := by
  obtain ⟨m, hm⟩ : ∃ m, ms.length = m := ⟨_, rfl⟩
  have HM := Lib.hid hm
  have RW := Lib.hid hrow
  have HBI := Lib.hid hBi
  rw [hm] at hBl hY lim
  clear hm hrow hBi
  refine callsIn_of_wp Tryd.func51 rfl trivial ?_ rfl
  simp only [Tryd.ntmps51, List.size_toArray, List.length_cons, List.length_nil, Nat.reduceAdd, Nat.reduceSub, Array.replicate_succ, Array.replicate_zero, List.push_toArray, List.append_toArray, List.nil_append, List.cons_append]
  gi_wp2
  gi_loopw [8] (fun i wr => ∃ k : Nat, k ≤ m ∧ i = .int .i64 k ∧ J ((ms.take k).filter (alvB)) wr ∧ KB n₀ X W wr) (fun i _ => m - (intOf i).toNat)
  case atStart => exact ⟨0, Nat.zero_le _, rfl, by simpa using h0, KB.refl _ _ _⟩
  case round =>
    obtain ⟨k, hk, rfl, hJs, hkb⟩ := hrel
    by_cases hlt : k < m
    · have hlt' : (k : Int) < m := by omega
      have hkl : k < ms.length := by rw [HM.out]; exact hlt
      obtain ⟨g, rfl, hg, hcs⟩ := (RW.out.kept hkb) k hkl
      have q0 := hcs 0 _ rfl
      rw [Nat.add_zero] at q0
      have q1 := hcs 1 _ rfl
      have q2 := hcs 2 _ rfl
      have q3 := hcs 3 _ rfl
      have q4 := hcs 4 _ rfl
      have q5 := hcs 5 _ rfl
      clear hcs
      have htf := take_filter (p := alvB) hkl
      generalize ms[k]?.getD noMsg = x at q0 q1 q2 q3 q4 q5 htf
      have hbi := hkb.cell hBi0 HBI.out
      have PD := alive_any x (wr.alloc x.obj)
      obtain ⟨c0, c1, c2, c3, c4, c5⟩ := msg_box wr x
      have hl1 : wr.heap.size < (wr.alloc x.obj).heap.size := by simp
      have hbi0 : Bi < wr.heap.size := by have := hkb.size; omega
      have hpl : ((ms.take k).filter (alvB)).length < m := by have := List.length_filter_le (alvB) (ms.take k); rw [List.length_take] at this; omega
      have JA : ∀ w2, Below (wr.alloc x.obj).heap.size (wr.alloc x.obj) w2 → J ((ms.take k).filter (alvB)) w2 ∧ KB n₀ X W w2 ∧ n₀ ≤ w2.heap.size := fun w2 b2 => by
        have b := ((Below.refl wr.heap.size wr).alloc (Nat.le_refl _) x.obj).trans (b2.mono (Nat.le_of_lt hl1))
        have hs := hkb.size
        have hs2 := b.size
        exact ⟨abides_below hJ hJs b, hkb.trans (KB.of_below b (by omega)), by omega⟩
      have JA := Lib.hid JA
      have HT := Lib.hid htf
      unfold Msg.obj at *
      obtain ⟨pb, hpb⟩ : ∃ pb, alvB x = pb := ⟨_, rfl⟩
      rw [hpb] at PD
      have HPB := Lib.hid hpb
      have PD := Lib.hid PD
      unfold Msg.agg at PD
      clear htf hpb hJs hBl
      skip
      cases pb
      · clear hY
        gi_wp2_with (refine ⟨trivial, ?_⟩; gi_at_call 29; refine (callsIn_wide.2 PD.out).mono ?_; rintro e w2 ⟨rfl, b2⟩; have JB := Lib.hid (JA.out w2 b2); clear b2)
        refine ⟨fun f hf => (by cases hf), ?_⟩
        gi_wp2
        go_roundw
        case rel => exact ⟨k + 1, by omega, by go_num, by rw [HT.out, HPB.out]; simpa using JB.out.1, JB.out.2.1⟩
        case measure => simp [intOf]; omega
      · gi_wp2_with (refine ⟨trivial, ?_⟩; gi_at_call 29; refine (callsIn_wide.2 PD.out).mono ?_; rintro e w2 ⟨rfl, b2⟩; have p0 := (b2.cell (p := ⟨wr.heap.size, 0, none⟩) hl1).trans c0; have p1 := (b2.cell (p := ⟨wr.heap.size, 1, none⟩) hl1).trans c1; have p2 := (b2.cell (p := ⟨wr.heap.size, 2, none⟩) hl1).trans c2; have p3 := (b2.cell (p := ⟨wr.heap.size, 3, none⟩) hl1).trans c3; have p4 := (b2.cell (p := ⟨wr.heap.size, 4, none⟩) hl1).trans c4; have p5 := (b2.cell (p := ⟨wr.heap.size, 5, none⟩) hl1).trans c5; have JB := Lib.hid (JA.out w2 b2); clear b2; obtain ⟨fn, tmps, assign, body, hy, hR⟩ := hY _ x w2 JB.out.1 hpl; have HR := Lib.hid hR; clear hR hY; unfold Msg.agg at hy)
        refine (HR.out).mono ?_
        rintro e W3 (⟨rfl, hJ3, hk3⟩ | ⟨rfl, hJx3⟩)
        · have J3 := Lib.hid hJ3
          have K3 := Lib.hid (JB.out.2.1.trans hk3)
          clear hJ3 hk3
          gi_wp2
          go_roundw
          case rel => exact ⟨k + 1, by omega, by go_num, by rw [HT.out, HPB.out]; exact J3.out, K3.out⟩
          case measure => simp [intOf]; omega
        · gi_wp2
          refine bodyPost_ret (results_none rfl _ _ _) rfl ?_
          exact ⟨⟨_, rfl⟩, .inr ⟨_, trivial, hJx3⟩⟩
    · have hlt' : ¬ ((k : Int) < m) := by omega
      have e1 : ms.take k = ms := List.take_of_length_le (by rw [HM.out]; omega)
      rw [e1] at hJs
      have JS := Lib.hid hJs
      clear hY hBl hJs e1
      gi_wp2
      go_end0
      exact ⟨⟨_, rfl⟩, .inl JS.out⟩

set_option maxRecDepth 100000 in
set_option maxHeartbeats 4000000 in
theorem some1_ded (n : Nat) (hn : 1 ≤ n) (l Bl Bi n₀ : Nat) (X : Nat → Prop) (a : Option Addr) (cap : Nat) (ms : List Msg) (lim : ms.length ≤ 1000000) (J Jx : List Msg → World → Prop) (W : World) (hJ : AbidesFrom W.heap.size J) (hn₀ : n₀ ≤ W.heap.size)
    (hY : ∀ pre x W1, J pre W1 → pre.length < ms.length → YieldAt Fence.wide (n - 1) Tryd.prog l #[x.agg] W1 fun e W' =>
      (e = .returned (.bool true) ∧ J (pre ++ [x]) W' ∧ KB n₀ X W1 W') ∨ (e = .returned (.bool false) ∧ Jx (pre ++ [x]) W'))
    (hBl : W.cell? ⟨Bl, 0, none⟩ = some (.slice a ms.length cap)) (hBi0 : Bi < n₀ ∧ ¬ X Bi) (hBi : W.cell? ⟨Bi, 0, none⟩ = some (.func (.func 41) #[] #[]))
    (hrow : mrowAt n₀ X W a ms) (h0 : J [] W) :
    CallsIn Fence.wide n Tryd.prog 51 #[.func (.yield l) #[] #[], .pointer (some ⟨Bl, 0, none⟩), .pointer (some ⟨Bi, 0, none⟩)] W fun e W' => (∃ v, e = .returned v) ∧
      ((∃ ys, ys = ms.filter (dedB) ∧ J ys W') ∨ (∃ pre, True ∧ Jx pre W')) := by
  obtain ⟨m, hm⟩ : ∃ m, ms.length = m := ⟨_, rfl⟩
  have HM := Lib.hid hm
  have RW := Lib.hid hrow
  have HBI := Lib.hid hBi
  rw [hm] at hBl hY lim
  clear hm hrow hBi
  refine callsIn_of_wp Tryd.func51 rfl trivial ?_ rfl
  simp only [Tryd.ntmps51, List.size_toArray, List.length_cons, List.length_nil, Nat.reduceAdd, Nat.reduceSub, Array.replicate_succ, Array.replicate_zero, List.push_toArray, List.append_toArray, List.nil_append, List.cons_append]
  gi_wp2
  gi_loopw [8] (fun i wr => ∃ k : Nat, k ≤ m ∧ i = .int .i64 k ∧ J ((ms.take k).filter (dedB)) wr ∧ KB n₀ X W wr) (fun i _ => m - (intOf i).toNat)
  case atStart => exact ⟨0, Nat.zero_le _, rfl, by simpa using h0, KB.refl _ _ _⟩
  case round =>
    obtain ⟨k, hk, rfl, hJs, hkb⟩ := hrel
    by_cases hlt : k < m
    · have hlt' : (k : Int) < m := by omega
      have hkl : k < ms.length := by rw [HM.out]; exact hlt
      obtain ⟨g, rfl, hg, hcs⟩ := (RW.out.kept hkb) k hkl
      have q0 := hcs 0 _ rfl
      rw [Nat.add_zero] at q0
      have q1 := hcs 1 _ rfl
      have q2 := hcs 2 _ rfl
      have q3 := hcs 3 _ rfl
      have q4 := hcs 4 _ rfl
      have q5 := hcs 5 _ rfl
      clear hcs
      have htf := take_filter (p := dedB) hkl
      generalize ms[k]?.getD noMsg = x at q0 q1 q2 q3 q4 q5 htf
      have hbi := hkb.cell hBi0 HBI.out
      have PD := dead_any x (wr.alloc x.obj)
      obtain ⟨c0, c1, c2, c3, c4, c5⟩ := msg_box wr x
      have hl1 : wr.heap.size < (wr.alloc x.obj).heap.size := by simp
      have hbi0 : Bi < wr.heap.size := by have := hkb.size; omega
      have hpl : ((ms.take k).filter (dedB)).length < m := by have := List.length_filter_le (dedB) (ms.take k); rw [List.length_take] at this; omega
      have JA : ∀ w2, Below (wr.alloc x.obj).heap.size (wr.alloc x.obj) w2 → J ((ms.take k).filter (dedB)) w2 ∧ KB n₀ X W w2 ∧ n₀ ≤ w2.heap.size := fun w2 b2 => by
        have b := ((Below.refl wr.heap.size wr).alloc (Nat.le_refl _) x.obj).trans (b2.mono (Nat.le_of_lt hl1))
        have hs := hkb.size
        have hs2 := b.size
        exact ⟨abides_below hJ hJs b, hkb.trans (KB.of_below b (by omega)), by omega⟩
      have JA := Lib.hid JA
      have HT := Lib.hid htf
      unfold Msg.obj at *
      obtain ⟨pb, hpb⟩ : ∃ pb, dedB x = pb := ⟨_, rfl⟩
      rw [hpb] at PD
      have HPB := Lib.hid hpb
      have PD := Lib.hid PD
      unfold Msg.agg at PD
      clear htf hpb hJs hBl
      skip
      cases pb
      · clear hY
        gi_wp2_with (refine ⟨trivial, ?_⟩; gi_at_call 41; refine (callsIn_wide.2 PD.out).mono ?_; rintro e w2 ⟨rfl, b2⟩; have JB := Lib.hid (JA.out w2 b2); clear b2)
        refine ⟨fun f hf => (by cases hf), ?_⟩
        gi_wp2
        go_roundw
        case rel => exact ⟨k + 1, by omega, by go_num, by rw [HT.out, HPB.out]; simpa using JB.out.1, JB.out.2.1⟩
        case measure => simp [intOf]; omega
      · gi_wp2_with (refine ⟨trivial, ?_⟩; gi_at_call 41; refine (callsIn_wide.2 PD.out).mono ?_; rintro e w2 ⟨rfl, b2⟩; have p0 := (b2.cell (p := ⟨wr.heap.size, 0, none⟩) hl1).trans c0; have p1 := (b2.cell (p := ⟨wr.heap.size, 1, none⟩) hl1).trans c1; have p2 := (b2.cell (p := ⟨wr.heap.size, 2, none⟩) hl1).trans c2; have p3 := (b2.cell (p := ⟨wr.heap.size, 3, none⟩) hl1).trans c3; have p4 := (b2.cell (p := ⟨wr.heap.size, 4, none⟩) hl1).trans c4; have p5 := (b2.cell (p := ⟨wr.heap.size, 5, none⟩) hl1).trans c5; have JB := Lib.hid (JA.out w2 b2); clear b2; obtain ⟨fn, tmps, assign, body, hy, hR⟩ := hY _ x w2 JB.out.1 hpl; have HR := Lib.hid hR; clear hR hY; unfold Msg.agg at hy)
        refine (HR.out).mono ?_
        rintro e W3 (⟨rfl, hJ3, hk3⟩ | ⟨rfl, hJx3⟩)
        · have J3 := Lib.hid hJ3
          have K3 := Lib.hid (JB.out.2.1.trans hk3)
          clear hJ3 hk3
          gi_wp2
          go_roundw
          case rel => exact ⟨k + 1, by omega, by go_num, by rw [HT.out, HPB.out]; exact J3.out, K3.out⟩
          case measure => simp [intOf]; omega
        · gi_wp2
          refine bodyPost_ret (results_none rfl _ _ _) rfl ?_
          exact ⟨⟨_, rfl⟩, .inr ⟨_, trivial, hJx3⟩⟩
    · have hlt' : ¬ ((k : Int) < m) := by omega
      have e1 : ms.take k = ms := List.take_of_length_le (by rw [HM.out]; omega)
      rw [e1] at hJs
      have JS := Lib.hid hJs
      clear hY hBl hJs e1
      gi_wp2
      go_end0
      exact ⟨⟨_, rfl⟩, .inl JS.out⟩

set_option maxRecDepth 100000 in
theorem some_any (a : Option Addr) (n c : Nat) (fn : Fn) (cp : Array Value) (w : World) : Calls Tryd.prog 42 #[.slice a n c, .func fn #[] cp] w fun e w' => e = .returned (.func (.func 51) #[] #[.pointer (some ⟨w.heap.size, 0, none⟩), .pointer (some ⟨w.heap.size + 1, 0, none⟩)]) ∧ w' = (w.alloc (.cells #[.slice a n c] 24)).alloc (.cells #[.func fn #[] cp] 56) := by
  have hmf : ∀ (fn : Fn) (first cap : Array Value) (w : World), (Instr.makeFunc fn first cap).run Tryd.prog w = .ok (.func fn first cap) w := fun _ _ _ _ => rfl
  go_enter Tryd.func42, Tryd.ntmps42
  go_wp2_with fail
  go_ret
  exact ⟨rfl, rfl⟩
end Go.Proofs.YtleobnfmbhobgaaDoor
