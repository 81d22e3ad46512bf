/- CarrierArrives: the walk. -/
import Derived.Test.YtdoghnpmbpomcaaArvP
import Derived.Deep.DeepCutAuto
import Derived.Deep.CutBlock
namespace Go.Proofs.Ytdoghnpmbpomcaa
open Go.RowKit Go.Maps

/-- Between two rounds: so many choices handed (n), a time, how many letters lie in the box, what is wanted. -/
def LR (W : World) (h n : Nat) (now : Int) (had : Nat) (ws : List Int) (vw : Value) (wr : World) : Prop :=
  ∃ S N us G C, CI h n now ws had S N us G C wr ∧ WI h S vw ws wr ∧ Below W.heap.size W wr ∧ W.heap.size ≤ h ∧ n ≤ 30

theorem Turn.belowW {h : Nat} {S S' : Nat → Prop} {W w w' : World} (t : Turn h S S' w w') (b : Below W.heap.size W w) (hh : W.heap.size ≤ h) (hS : ∀ k, S k → h + 3 ≤ k) : Below W.heap.size W w' :=
  b.trans ⟨t.os, t.tape, t.output, t.size, fun k hk => t.block k (Nat.lt_of_lt_of_le hk b.size) (by omega) (fun hs => by have := hS k hs; omega)⟩
theorem grown_below {W w w' : World} {row : Option Nat} (g : w.grownBy w' row) (b : Below W.heap.size W w) (hr : ∀ k, row = some k → W.heap.size ≤ k) : Below W.heap.size W w' := b.grown g b.size hr

theorem new_lr (W w1 : World) (b : Below W.heap.size W w1) : Calls Try.prog 9 #[] w1 fun e w2 => e = .returned (.pointer (some ⟨w1.heap.size + 1 + 1, 0, none⟩)) ∧ LR W w1.heap.size 0 0 0 [] (.slice none 0 0) w2 := by
  refine (new_car w1).mono ?_
  rintro e w2 ⟨rfl, c, b2⟩
  exact ⟨rfl, _, 0, [], _, _, ⟨c, PI.start, rfl, rfl, by simp, by simp, by simp, fun _ _ => rfl⟩, ⟨World.ownsRow_nil _ _ _ _, by simp [Value.ownBlock]⟩, b.trans (b2.mono b.size), b.size, by omega⟩

theorem two_cells' {w : World} {b : Nat} {x y : Value} {t : TypeId} (h : w.heap[b]? = some (.cells #[x, y] t (0, 0))) : w.cell? ⟨b, 0, none⟩ = some x ∧ w.cell? ⟨b, 1, none⟩ = some y := by
  refine ⟨?_, ?_⟩ <;> rw [Lib.cell_of_heap h] <;> rfl

theorem hand_lr {W wr : World} {h n : Nat} {ws : List Int} {vw : Value} (lr : LR W h n 0 0 ws vw wr) (hn : n < 30) (k tt : Int) (h3 : 0 ≤ tt) (h4 : tt ≤ 63) :
    Calls Try.prog 11 #[.pointer (some ⟨h + 1 + 1, 0, none⟩), .agg #[.int .u64 ((n : Int) + 1), .string ⟨#[97, 64, 98, 46, 99, 100]⟩, .string ⟨#[120]⟩, .int .i64 0, .int .i64 0, .bool false], .agg #[.int .i64 k, .int .i64 tt], .int .i64 n] (wr.alloc (.cells #[.int .i64 k, .int .i64 tt] 30)).drew fun e w4 =>
      e = .returned (.bool (hTaken k)) ∧ w4.cell? ⟨wr.heap.size, 0, none⟩ = some (.int .i64 k) ∧ w4.cell? ⟨wr.heap.size, 1, none⟩ = some (.int .i64 tt) ∧ vw.ownBlock ≠ some wr.heap.size ∧
      ∃ S N us G C, CI h (n + 1) 0 (ws ++ more k n tt) 0 S N us G C w4 ∧ WI h S vw ws w4 ∧ Below W.heap.size W w4 ∧ W.heap.size ≤ h ∧ C (n + 1) = cnt k ∧ ws.length ≤ 60 ∧ wr.heap.size < w4.heap.size := by
  obtain ⟨S, N, us, G, C, ci, wi, bl, hh, _⟩ := lr
  have gg : wr.grownBy (wr.alloc (.cells #[.int .i64 k, .int .i64 tt] 30)).drew none := by
    have x := World.grownBy_alloc wr (.cells #[.int .i64 k, .int .i64 tt] 30) none
    exact ⟨x.os, x.tape, x.output, x.size, x.block⟩
  have ci9 := ci.grown gg (by simp)
  have wi9 := wi.grown gg
  have bl9 := grown_below gg bl (by simp)
  have hu := ci9.bnd
  have hx := ci9.box abcd
  have hz := ci9.tal (n + 1) (by omega)
  have hf := ci9.few
  have hb := heap_push1 wr (.cells #[.int .i64 k, .int .i64 tt] 30)
  have hS := ci.car.rows
  have e1 : (n : Int) + 1 = ((n + 1 : Nat) : Int) := by omega
  rw [e1]
  refine (hand_any ci9.car (n + 1) abcd xx 0 0 k tt n false (by omega) (by omega) (by omega) (by omega)).mono ?_
  rintro e w4 ⟨rfl, S', c4, t4⟩
  obtain ⟨ci4, hct⟩ := ci9.hand k tt h3 h4 hn c4
  have hb4 : w4.heap[wr.heap.size]? = _ := (t4.block _ (show wr.heap.size < (wr.alloc _).heap.size by simp) (by have := ci.car.size; omega) (fun hs => by have := (hS _ hs).2; omega)).trans hb
  have hsz : (wr.alloc (.cells #[.int .i64 k, .int .i64 tt] 30)).heap.size ≤ w4.heap.size := t4.size
  simp at hsz
  exact ⟨rfl, (two_cells' hb4).1, (two_cells' hb4).2, fun e => by have := (World.ownsRow.lt wi.1 _ e).2; omega, S', _, _, _, _, ci4, wi9.turn t4, t4.belowW bl9 hh (fun k hk => (ci9.car.rows k hk).1), hh, hct, by omega, by omega⟩

theorem push_lr {W w : World} {h n had N : Nat} {now : Int} {wsF ws : List Int} {S : Nat → Prop} {us : List Ltr} {G : ByteArray → List Ltr} {C : Nat → Nat} {vw : Value} {xb : Nat} (ci : CI h n now wsF had S N us G C w) (wi : WI h S vw ws w) (bl : Below W.heap.size W w) (hh : W.heap.size ≤ h) (lim : ws.length ≤ 1000) (hx : vw.ownBlock ≠ some xb) (hxl : xb < w.heap.size) (t : Int) :
    ∃ a5 c5 w5, (Builtin.append_ #[44, 44] 44 #[vw, .slice (some ⟨w.heap.size, 0, none⟩) 1 1]).run Try.prog (w.alloc (.cells #[.int .i64 t] 2)) = .ok (.slice a5 (ws.length + 1) c5) w5 ∧
      CI h n now wsF had S N us G C w5 ∧ WI h S (.slice a5 (ws.length + 1) c5) (ws ++ [t]) w5 ∧ Below W.heap.size W w5 ∧ (∀ i v, w.cell? ⟨xb, i, none⟩ = some v → w5.cell? ⟨xb, i, none⟩ = some v) ∧ (Value.slice a5 (ws.length + 1) c5).ownBlock ≠ some xb ∧ xb < w5.heap.size := by
  have hS := ci.car.rows
  have hsz := ci.car.size
  have own : ∀ g, vw.ownBlock = some g → h + 3 ≤ g ∧ g < w.heap.size := fun g hg => World.ownsRow.lt wi.1 g hg
  obtain ⟨a5, c5, w5, ra, wi5, g5, at5⟩ := wi.push (fun k hk => (hS k hk).2) hsz (by omega) t
  refine ⟨a5, c5, w5, ra, ci.grown g5 (fun k hk => ⟨wi.2 k hk, .inr (own k hk).1⟩), wi5, grown_below g5 bl (fun k hk => by have := (own k hk).1; omega), fun i v hv => ?_, fun e => ?_, Nat.lt_of_lt_of_le hxl g5.size⟩
  · exact World.grownBy.cell g5 hv (fun e => hx e.symm)
  · rcases at5 with x | ⟨g, x, hg⟩
    · rw [x] at e; exact hx e
    · rw [x] at e
      cases e
      omega

theorem count_lr {w : World} {h N n : Nat} {S : Nat → Prop} {us : List Ltr} {G : ByteArray → List Ltr} {C : Nat → Nat} (c : Car h S N us G C w) (hn : n ≤ 30) (m : Nat) (hm : C (n + 1) = m) :
    Calls Try.prog 15 #[.pointer (some ⟨h + 1 + 1, 0, none⟩), .int .u64 ((n : Int) + 1)] w fun e w' => e = .returned (.int .i64 m) ∧ w' = w := by
  have e1 : (n : Int) + 1 = ((n + 1 : Nat) : Int) := by omega
  rw [e1, ← hm]
  exact count_any c (n + 1) (by omega)

theorem step_one {W wr : World} {h n : Nat} {ws : List Int} {vw : Value} (lr : LR W h n 0 0 ws vw wr) (hn : n < 30) (k tt t : Int) (h3 : 0 ≤ tt) (h4 : tt ≤ 63) (hm : more k n tt = [t]) (hc : cnt k = 1) :
    Calls Try.prog 11 #[.pointer (some ⟨h + 1 + 1, 0, none⟩), .agg #[.int .u64 ((n : Int) + 1), .string ⟨#[97, 64, 98, 46, 99, 100]⟩, .string ⟨#[120]⟩, .int .i64 0, .int .i64 0, .bool false], .agg #[.int .i64 k, .int .i64 tt], .int .i64 n] (wr.alloc (.cells #[.int .i64 k, .int .i64 tt] 30)).drew fun e w4 =>
      e = .returned (.bool (hTaken k)) ∧ w4.cell? ⟨wr.heap.size, 0, none⟩ = some (.int .i64 k) ∧ w4.cell? ⟨wr.heap.size, 1, none⟩ = some (.int .i64 tt) ∧
      ∃ a6 c6 w6, (Builtin.append_ #[44, 44] 44 #[vw, .slice (some ⟨w4.heap.size, 0, none⟩) 1 1]).run Try.prog (w4.alloc (.cells #[.int .i64 t] 2)) = .ok (.slice a6 (ws.length + 1) c6) w6 ∧
        Calls Try.prog 15 #[.pointer (some ⟨h + 1 + 1, 0, none⟩), .int .u64 ((n : Int) + 1)] w6 (fun e w' => e = .returned (.int .i64 1) ∧ w' = w6) ∧ LR W h (n + 1) 0 0 (ws ++ [t]) (.slice a6 (ws.length + 1) c6) w6 := by
  refine (hand_lr lr hn k tt h3 h4).mono ?_
  rintro e w4 ⟨rfl, x0, x1, hxo, S, N, us, G, C, ci, wi, bl, hh, hct, hws, hl⟩
  obtain ⟨a6, c6, w6, ra, ci6, wi6, bl6, _, _, _⟩ := push_lr ci wi bl hh (by omega) hxo hl t
  rw [hm] at ci6
  exact ⟨rfl, x0, x1, a6, c6, w6, ra, count_lr ci6.car (by omega) 1 (hct.trans hc), S, N, us, G, C, ci6, wi6, bl6, hh, by omega⟩

theorem step_none {W wr : World} {h n : Nat} {ws : List Int} {vw : Value} (lr : LR W h n 0 0 ws vw wr) (hn : n < 30) (k tt : Int) (h3 : 0 ≤ tt) (h4 : tt ≤ 63) (hm : more k n tt = []) (hc : cnt k = 0) :
    Calls Try.prog 11 #[.pointer (some ⟨h + 1 + 1, 0, none⟩), .agg #[.int .u64 ((n : Int) + 1), .string ⟨#[97, 64, 98, 46, 99, 100]⟩, .string ⟨#[120]⟩, .int .i64 0, .int .i64 0, .bool false], .agg #[.int .i64 k, .int .i64 tt], .int .i64 n] (wr.alloc (.cells #[.int .i64 k, .int .i64 tt] 30)).drew fun e w4 =>
      e = .returned (.bool (hTaken k)) ∧ w4.cell? ⟨wr.heap.size, 0, none⟩ = some (.int .i64 k) ∧ w4.cell? ⟨wr.heap.size, 1, none⟩ = some (.int .i64 tt) ∧
        Calls Try.prog 15 #[.pointer (some ⟨h + 1 + 1, 0, none⟩), .int .u64 ((n : Int) + 1)] w4 (fun e w' => e = .returned (.int .i64 0) ∧ w' = w4) ∧ LR W h (n + 1) 0 0 ws vw w4 := by
  refine (hand_lr lr hn k tt h3 h4).mono ?_
  rintro e w4 ⟨rfl, x0, x1, hxo, S, N, us, G, C, ci, wi, bl, hh, hct, hws, hl⟩
  rw [hm, List.append_nil] at ci
  exact ⟨rfl, x0, x1, count_lr ci.car (by omega) 0 (hct.trans hc), S, N, us, G, C, ci, wi, bl, hh, by omega⟩

theorem step_two {W wr : World} {h n : Nat} {ws : List Int} {vw : Value} (lr : LR W h n 0 0 ws vw wr) (hn : n < 30) (tt : Int) (h3 : 0 ≤ tt) (h4 : tt ≤ 63) :
    Calls Try.prog 11 #[.pointer (some ⟨h + 1 + 1, 0, none⟩), .agg #[.int .u64 ((n : Int) + 1), .string ⟨#[97, 64, 98, 46, 99, 100]⟩, .string ⟨#[120]⟩, .int .i64 0, .int .i64 0, .bool false], .agg #[.int .i64 4, .int .i64 tt], .int .i64 n] (wr.alloc (.cells #[.int .i64 4, .int .i64 tt] 30)).drew fun e w4 =>
      e = .returned (.bool true) ∧ w4.cell? ⟨wr.heap.size, 0, none⟩ = some (.int .i64 4) ∧ w4.cell? ⟨wr.heap.size, 1, none⟩ = some (.int .i64 tt) ∧
      ∃ a6 c6 w6, (Builtin.append_ #[44, 44] 44 #[vw, .slice (some ⟨w4.heap.size, 0, none⟩) 1 1]).run Try.prog (w4.alloc (.cells #[.int .i64 n] 2)) = .ok (.slice a6 (ws.length + 1) c6) w6 ∧
        w6.cell? ⟨wr.heap.size, 0, none⟩ = some (.int .i64 4) ∧ w6.cell? ⟨wr.heap.size, 1, none⟩ = some (.int .i64 tt) ∧
        ∃ a7 c7 w7, (Builtin.append_ #[44, 44] 44 #[.slice a6 (ws.length + 1) c6, .slice (some ⟨w6.heap.size, 0, none⟩) 1 1]).run Try.prog (w6.alloc (.cells #[.int .i64 ((n : Int) + tt)] 2)) = .ok (.slice a7 (ws.length + 1 + 1) c7) w7 ∧
        Calls Try.prog 15 #[.pointer (some ⟨h + 1 + 1, 0, none⟩), .int .u64 ((n : Int) + 1)] w7 (fun e w' => e = .returned (.int .i64 2) ∧ w' = w7) ∧ LR W h (n + 1) 0 0 (ws ++ [(n : Int)] ++ [(n : Int) + tt]) (.slice a7 (ws.length + 1 + 1) c7) w7 := by
  refine (hand_lr lr hn 4 tt h3 h4).mono ?_
  rintro e w4 ⟨rfl, x0, x1, hxo, S, N, us, G, C, ci, wi, bl, hh, hct, hws, hl⟩
  obtain ⟨a6, c6, w6, ra, ci6, wi6, bl6, xs, ho6, hl6⟩ := push_lr ci wi bl hh (by omega) hxo hl (n : Int)
  have e1 : (ws ++ [(n : Int)]).length = ws.length + 1 := by simp
  have wi6' : WI h S (.slice a6 (ws.length + 1) c6) (ws ++ [(n : Int)]) w6 := wi6
  obtain ⟨a7, c7, w7, ra7, ci7, wi7, bl7, _, _, _⟩ := push_lr ci6 wi6' bl6 hh (by rw [e1]; omega) ho6 hl6 ((n : Int) + tt)
  rw [e1] at ra7 wi7
  have hm : ws ++ more 4 n tt = ws ++ [(n : Int)] ++ [(n : Int) + tt] := by simp [more]
  rw [hm] at ci7
  exact ⟨rfl, x0, x1, a6, c6, w6, ra, xs 0 _ x0, xs 1 _ x1, a7, c7, w7, ra7, count_lr ci7.car (by omega) 2 (hct.trans (by decide)), S, N, us, G, C, ci7, wi7, bl7, hh, by omega⟩

theorem arrive_lr {W wr : World} {h n t had : Nat} {ws : List Int} {vw : Value} (lr : LR W h n t had ws vw wr) :
    Calls Try.prog 12 #[.pointer (some ⟨h + 1 + 1, 0, none⟩), .int .i64 t] wr fun e w4 => e = .returned (.int .i64 (ws.count (t : Int) : Nat)) ∧ LR W h n ((t : Int) + 1) (had + ws.count (t : Int)) ws vw w4 := by
  obtain ⟨S, N, us, G, C, ci, wi, bl, hh, hn⟩ := lr
  have hb := ci.bnd
  refine (arrive_any (t : Int) (due us t) wr ci.car (due_le us t) (due_in us t) (due_out us t) (by omega) (fun s => by have := ci.box s; omega) (fun l hl => by rw [(ci.pi.each l hl).1]; decide)).mono ?_
  rintro e w4 ⟨rfl, S', c4, t4⟩
  obtain ⟨ci4, hd⟩ := ci.arrive c4
  rw [hd] at ci4 ⊢
  exact ⟨rfl, S', _, _, _, _, ci4, wi.turn t4, t4.belowW bl hh (fun k hk => (ci.car.rows k hk).1), hh, hn⟩

theorem box_lr {W wr : World} {h n had : Nat} {now : Int} {ws : List Int} {vw : Value} (lr : LR W h n now had ws vw wr) :
    Calls Try.prog 14 #[.pointer (some ⟨h + 1 + 1, 0, none⟩), .string ⟨#[97, 64, 98, 46, 99, 100]⟩] wr fun e w4 => ∃ a' c', e = .returned (.slice a' had c') ∧ LR W h n now had ws vw w4 := by
  obtain ⟨S, N, us, G, C, ci, wi, bl, hh, hn⟩ := lr
  have hb := ci.box abcd
  have h0 := ci.box0
  refine (box_any ci.car abcd (by decide) (by omega)).mono ?_
  rintro e w4 ⟨a', c', rfl, _, g4⟩
  rw [h0]
  exact ⟨a', c', rfl, S, N, us, G, C, ci.grown g4 (by simp), wi.grown g4, grown_below g4 bl (by simp), hh, hn⟩

theorem under_lr {W wr : World} {h n had : Nat} {ws : List Int} {vw : Value} (lr : LR W h n 100 had ws vw wr) :
    had = ws.length ∧ Calls Try.prog 13 #[.pointer (some ⟨h + 1 + 1, 0, none⟩)] wr fun e w4 => ∃ a' c', e = .returned (.slice a' 0 c') ∧ Below W.heap.size W w4 := by
  obtain ⟨S, N, us, G, C, ci, wi, bl, hh, hn⟩ := lr
  have e0 := ci.pi.over
  have hs := ci.sum
  subst e0
  refine ⟨by simpa using hs, (under_any ci.car (by simp)).mono ?_⟩
  rintro e w4 ⟨a', c', rfl, _, g4⟩
  exact ⟨a', c', rfl, grown_below g4 bl (by simp)⟩
end Go.Proofs.Ytdoghnpmbpomcaa
