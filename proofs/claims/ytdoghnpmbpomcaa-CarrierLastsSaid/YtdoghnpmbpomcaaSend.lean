/- (*Carrier).sends, over what slices.Insert does at the place. -/
import Derived.Test.YtdoghnpmbpomcaaSendP
import Derived.Deep.DeepCutAuto
import Derived.Deep.CutBlock
namespace Go.Proofs.Ytdoghnpmbpomcaa
open Go.RowKit Go.Maps

theorem three_cells {w : World} {b : Nat} {x y z : Value} {t : TypeId} (h : w.heap[b]? = some (.cells #[x, y, z] t (0, 0))) : w.cell? ⟨b, 0, none⟩ = some x ∧ w.cell? ⟨b, 1, none⟩ = some y ∧ w.cell? ⟨b, 2, none⟩ = some z ∧ w.frozen? ⟨b, 0, none⟩ = false := by
  refine ⟨?_, ?_, ?_, ?_⟩
  · rw [Lib.cell_of_heap h]; rfl
  · rw [Lib.cell_of_heap h]; rfl
  · rw [Lib.cell_of_heap h]; rfl
  · simp [World.frozen?, h]
theorem six_cells {w : World} {b : Nat} {x y z u v s : Value} {t : TypeId} (h : w.heap[b]? = some (.cells #[x, y, z, u, v, s] t (0, 0))) : w.cell? ⟨b, 0, none⟩ = some x ∧ w.cell? ⟨b, 1, none⟩ = some y ∧ w.cell? ⟨b, 2, none⟩ = some z := by
  refine ⟨?_, ?_, ?_⟩ <;> rw [Lib.cell_of_heap h] <;> rfl

/-- What slices.Insert does with one letter at the place p of the letters us. -/
def InsAt (B : Nat) (us : List Ltr) (p : Nat) : Prop := ∀ (q : Int) (s : Value) (w : World) (vb id : Nat) (dest body : ByteArray) (tm : Int), q = p → owns w B s us → w.heap[vb]? = some (.cells #[.int .u64 id, .string dest, .string body, .int .i64 tm] 40 (0, 0)) → s.ownBlock ≠ some vb → B ≤ w.heap.size →
  Calls Try.prog 33 #[s, .int .i64 q, .slice (some ⟨vb, 0, none⟩) 1 1] w fun e w' =>
    ∃ v', e = .returned v' ∧ owns w' B v' (us.take p ++ ⟨id, dest, body, tm⟩ :: us.drop p) ∧ w.grownBy w' s.ownBlock ∧ (v'.ownBlock = s.ownBlock ∨ ∃ g, v'.ownBlock = some g ∧ w.heap.size ≤ g)

theorem insAt_end (B : Nat) (us : List Ltr) (lim : us.length ≤ 1000000) : InsAt B us us.length := by
  intro q s w vb id dest body tm hq hown hv hne hB
  subst hq
  refine (insert_end B us.length s (flat us) w hown vb id tm dest body hv hB lim).mono ?_
  rintro e w' ⟨v', rfl, h1, h2, h3⟩
  refine ⟨v', rfl, ?_, h2, h3.imp (fun h => h) (fun h => ⟨_, h, Nat.le_refl _⟩)⟩
  unfold owns
  rw [List.take_length, List.drop_length, flat_append, flat_cons, flat_nil, List.length_append]
  simpa [Ltr.cells] using h1

def Box3 (b id : Nat) (dest body : ByteArray) (w : World) : Prop := w.cell? ⟨b, 0, none⟩ = some (.int .u64 id) ∧ w.cell? ⟨b, 1, none⟩ = some (.string dest) ∧ w.cell? ⟨b, 2, none⟩ = some (.string body)
theorem box3_put {b id : Nat} {dest body : ByteArray} {w : World} (h : Box3 b id dest body w) {g : Nat} (hg : g ≠ b) (v : Value) : Box3 b id dest body (w.setCell ⟨g, 0, none⟩ v) := by
  obtain ⟨h1, h2, h3⟩ := h
  refine ⟨?_, ?_, ?_⟩
  · rw [World.cell?_setCell_other _ _ _ _ (fun e => hg (by injection e))]; exact h1
  · rw [World.cell?_setCell_other _ _ _ _ (fun e => hg (by injection e))]; exact h2
  · rw [World.cell?_setCell_other _ _ _ _ (fun e => hg (by injection e))]; exact h3
theorem mid_heap {w w2 : World} {o1 o2 : Obj} {v : Value} {b : Nat} {X : Obj} (hg : ((w.alloc o1).alloc o2).grownBy w2 v.ownBlock) (hh : w.heap[b]? = some X) (hne : some b ≠ v.ownBlock) : w2.heap[b]? = some X := by
  have hl : b < w.heap.size := (Array.getElem?_eq_some_iff.1 hh).1
  rw [hg.block b (by simp; omega) hne]
  exact heap_keep (heap_keep hh _) _
theorem mid_facts {h : Nat} {w w2 : World} {o1 o2 : Obj} {v y z : Value} {us : List Ltr} {t : TypeId} (h1 : w.heap[h + 1 + 1]? = some (.cells #[v, y, z] t (0, 0))) (h2 : owns w (h + 3) v us) (hg : ((w.alloc o1).alloc o2).grownBy w2 v.ownBlock) :
    w2.heap[h + 1 + 1]? = some (.cells #[v, y, z] t (0, 0)) ∧ w2.heap[w.heap.size]? = some o1 := by
  refine ⟨mid_heap hg h1 (fun e => ?_), ?_⟩
  · have := (World.ownsRow.lt h2 _ e.symm).1
    omega
  · rw [hg.block w.heap.size (by simp; omega) (fun e => by have := (World.ownsRow.lt h2 _ e.symm).2; omega)]
    exact heap_keep (heap_push1 _ _) _
def lastTm (us : List Ltr) (i : Nat) : Int := ((us[i]?).map (·.tm)).getD 0

set_option maxHeartbeats 8000000 in
set_option maxRecDepth 100000 in
theorem sends_any (h N : Nat) (S : Nat → Prop) (us : List Ltr) (G : ByteArray → List Ltr) (C : Nat → Nat) (id : Nat) (dest body : ByteArray) (att due : Int) (dead : Bool) (tm : Int) (p : Nat) (w : World)
    (c : Car h S N us G C w) (hp : p ≤ us.length) (hp2 : ∀ j, p ≤ j → j < us.length → tm < lastTm us j) (hp3 : 0 < p → lastTm us (p - 1) ≤ tm)
    (hlen : us.length ≤ 1000000) (hN : N ≤ 1000000) (hC : C id ≤ 1000000) (hid : id < 2 ^ 64) (ins : InsAt (h + 3) us p) :
    Calls Try.prog 25 #[.pointer (some ⟨h + 1 + 1, 0, none⟩), .agg #[.int .u64 id, .string dest, .string body, .int .i64 att, .int .i64 due, .bool dead], .int .i64 tm] w fun e w' =>
      e = .returned (.tuple #[]) ∧ ∃ S', Car h S' (N + 1) (us.take p ++ ⟨id, dest, body, tm⟩ :: us.drop p) G (up C id) w' ∧ Turn h S S' w w' := by
  obtain ⟨vu, F, D, Dc, h1, h2, h3, h4, h5, h6, h7, h8, h9, h10, h11, h12⟩ := c
  have hform : ∃ a cap, vu = .slice a us.length cap ∧ us.length ≤ cap := by
    rcases h2.2 with ⟨e1, e2⟩ | ⟨g, cap, cur, e1, r⟩
    · exact ⟨none, 0, by rw [e1, e2], by omega⟩
    · exact ⟨_, cap, e1, r.2.2.1⟩
  obtain ⟨a, cap, rfl, hcap⟩ := hform
  obtain ⟨c0, c1, c2, f0⟩ := three_cells h1
  have hlt : h + 1 + 1 < w.heap.size := (Array.getElem?_eq_some_iff.1 h1).1
  have k0 : ∀ o : Obj, (w.alloc o).cell? ⟨h + 1 + 1, 0, none⟩ = some (.slice a us.length cap) := fun o => Lib.cell?_alloc_some _ c0
  have ha : 0 < us.length → ∃ g, a = some ⟨g, 0, none⟩ := fun hpos => by
    rcases h2.2 with ⟨e1, e2⟩ | ⟨g, cap', cur, e1, r⟩
    · omega
    · cases e1; exact ⟨g, rfl⟩
  have kt : ∀ g, a = some ⟨g, 0, none⟩ → ∀ j, j < us.length → ∀ o : Obj, (w.alloc o).cell? ⟨g, j * 4 + 3, none⟩ = some (.int .i64 (lastTm us j)) := fun g hg j hj o => by
    subst hg
    refine Lib.cell?_alloc_some _ ?_
    have hg1 : us[j]? = some us[j] := List.getElem?_eq_getElem hj
    have e1 := World.ownsRow.cells h2 (g := g) rfl (j * 4 + 3) (.int .i64 (lastTm us j)) (by
      rw [flat_at j 3 us us[j] hg1 (by omega)]
      simp [Ltr.cells, lastTm, hg1])
    rw [addP, Nat.zero_add] at e1
    exact e1
  have INS : Hid (∀ q : Int, q = p → Calls Try.prog 33 #[.slice a us.length cap, .int .i64 q, .slice (some ⟨w.heap.size + 1, 0, none⟩) 1 1]
      ((w.alloc (.cells #[.int .u64 id, .string dest, .string body, .int .i64 att, .int .i64 due, .bool dead] 28)).alloc (.cells #[.int .u64 id, .string dest, .string body, .int .i64 tm] 40)).drew fun e w2 =>
        ∃ a' c', e = .returned (.slice a' (us.length + 1) c') ∧ w2.cell? ⟨h + 1 + 1, 0, none⟩ = some (.slice a us.length cap) ∧ w2.cell? ⟨h + 1 + 1, 2, none⟩ = some (.map (some (h + 1))) ∧ w2.frozen? ⟨h + 1 + 1, 0, none⟩ = false ∧ Box3 w.heap.size id dest body w2 ∧ Box3 w.heap.size id dest body (w2.setCell ⟨h + 1 + 1, 0, none⟩ (.slice a' (us.length + 1) c')) ∧
          owns w2 (h + 3) (.slice a' (us.length + 1) c') (us.take p ++ ⟨id, dest, body, tm⟩ :: us.drop p) ∧ ((Value.slice a' (us.length + 1) c').ownBlock = (Value.slice a us.length cap).ownBlock ∨ ∃ g, (Value.slice a' (us.length + 1) c').ownBlock = some g ∧ w.heap.size ≤ g) ∧
          w2.heap[h + 1 + 1]? = some (.cells #[.slice a us.length cap, .map (some h), .map (some (h + 1))] 62 (0, 0)) ∧ w.grownBy w2 (Value.slice a us.length cap).ownBlock) := by
    refine Lib.hid fun q hq => ?_
    refine Calls.mono (ins q (.slice a us.length cap) _ (w.heap.size + 1) id dest body tm hq ?ga ?gb ?gc ?gd) ?_
    case ga => exact World.ownsRow.alloc (World.ownsRow.alloc h2 _) _
    case gb => exact heap_push2 _ _ _
    case gc => exact fun e => by have := (World.ownsRow.lt h2 _ e).2; omega
    case gd => show h + 3 ≤ ((w.alloc _).alloc _).heap.size; simp; omega
    rintro e w2 ⟨v', rfl, hown2, hgr2, hat2⟩
    have hl2 : (us.take p ++ ⟨id, dest, body, tm⟩ :: us.drop p).length = us.length + 1 := by simp; omega
    have hf2 : ∃ a' c', v' = .slice a' (us.length + 1) c' := by
      rcases hown2.2 with ⟨_, e2⟩ | ⟨g, cap', cur, e1, r⟩
      · omega
      · rw [hl2] at e1; exact ⟨_, _, e1⟩
    obtain ⟨a', c', rfl⟩ := hf2
    have hgr3 : ((w.alloc (.cells #[.int .u64 id, .string dest, .string body, .int .i64 att, .int .i64 due, .bool dead] 28)).alloc (.cells #[.int .u64 id, .string dest, .string body, .int .i64 tm] 40)).grownBy w2 (Value.slice a us.length cap).ownBlock := ⟨hgr2.os, hgr2.tape, hgr2.output, hgr2.size, hgr2.block⟩
    obtain ⟨m1, m2⟩ := mid_facts h1 h2 hgr3
    have n1 := three_cells m1
    have hat3 : (Value.slice a' (us.length + 1) c').ownBlock = (Value.slice a us.length cap).ownBlock ∨ ∃ g, (Value.slice a' (us.length + 1) c').ownBlock = some g ∧ w.heap.size ≤ g := by
      rcases hat2 with x | ⟨g, x, y⟩
      · exact .inl x
      · have y' : ((w.alloc (.cells #[.int .u64 id, .string dest, .string body, .int .i64 att, .int .i64 due, .bool dead] 28)).alloc (.cells #[.int .u64 id, .string dest, .string body, .int .i64 tm] 40)).heap.size ≤ g := y
        simp at y'
        exact .inr ⟨g, x, by omega⟩
    have hl3 : owns w2 (h + 3) (.slice a' (us.length + 1) c') (us.take p ++ ⟨id, dest, body, tm⟩ :: us.drop p) := hown2
    exact ⟨a', c', rfl, n1.1, n1.2.2.1, n1.2.2.2, six_cells m2, box3_put (six_cells m2) (by omega) _, hl3, hat3, m1, World.grownBy.trans (World.grownBy.trans (World.grownBy_alloc w _ _) (World.grownBy_alloc _ _ _)) hgr3⟩
  have k1 : ∀ o o' : Obj, ((w.alloc o).alloc o').cell? ⟨h + 1 + 1, 0, none⟩ = some (.slice a us.length cap) := fun o o' => Lib.cell?_alloc_some _ (Lib.cell?_alloc_some _ c0)
  have KX0 : ∀ b : Obj, b = .cells #[.int .u64 id, .string dest, .string body, .int .i64 att, .int .i64 due, .bool dead] 28 → Box3 w.heap.size id dest body (w.alloc b).drew := fun b hb => by subst hb; exact six_cells (heap_push1 w _)
  have KX1 : ∀ b o : Obj, b = .cells #[.int .u64 id, .string dest, .string body, .int .i64 att, .int .i64 due, .bool dead] 28 → Box3 w.heap.size id dest body ((w.alloc b).alloc o).drew := fun b o hb => by subst hb; exact six_cells (heap_keep (heap_push1 w _) o)
  have hcw : IntKind.i64.wrap ((C id : Int) + 1) = (C id : Int) + 1 := by rw [IntKind.wrap_i64] <;> omega
  have FIN : Hid (∀ (w2 : World) (a' : Option Addr) (c' : Nat), _) := Lib.hid (fun w2 a' c' hst2 hown2 hat2 hgr2 => sends_fin (us := us) (ls := us.take p ++ ⟨id, dest, body, tm⟩ :: us.drop p) (id := id) (w2 := w2) (v' := .slice a' (us.length + 1) c') h2 h3 h4 h5 h6 h7 h8 h9 h10 h11 h12 hN hC hid hst2 hown2 hat2 hgr2)
  have hne : ¬ (h + 1 + 1 = w.heap.size) := by omega
  clear h1 h2 h3 h4 h5 h6 h7 h8 h9 h10 h11 h12 ins
  go_enter Try.func25, Try.ntmps25
  go_wp2_with fail
  go_step3
  go_wp2_with fail
  go_step3
  go_upto_block 0 with fail
  go_cut [6] (fun s6 wx => s6 = .int .i64 p ∧ wx = w.alloc (.cells #[.int .u64 id, .string dest, .string body, .int .i64 att, .int .i64 due, .bool dead] 28))
  case first =>
    go_wp2_with fail
    go_loop [6] (fun i => ∃ k : Nat, p ≤ k ∧ k ≤ us.length ∧ i = .int .i64 k) (fun i => (intOf i).toNat)
    case atStart => exact ⟨us.length, hp, Nat.le_refl _, rfl⟩
    case round =>
      obtain ⟨k, hk1, hk2, rfl⟩ := hrel
      have hcase : (k = p ∧ k = 0) ∨ (k = p ∧ 0 < k ∧ lastTm us (k - 1) ≤ tm ∧ ∃ g, a = some ⟨g, 0, none⟩ ∧ ∀ o : Obj, (w.alloc o).cell? ⟨g, (k - 1) * 4 + 3, none⟩ = some (.int .i64 (lastTm us (k - 1)))) ∨
        (p ≤ k - 1 ∧ 0 < k ∧ tm < lastTm us (k - 1) ∧ ∃ g, a = some ⟨g, 0, none⟩ ∧ ∀ o : Obj, (w.alloc o).cell? ⟨g, (k - 1) * 4 + 3, none⟩ = some (.int .i64 (lastTm us (k - 1)))) := by
        by_cases hk0 : k = 0
        · exact .inl ⟨by omega, hk0⟩
        · obtain ⟨g, hg⟩ := ha (by omega)
          have ht := kt g hg (k - 1) (by omega)
          by_cases hkp : k = p
          · exact .inr (.inl ⟨hkp, by omega, by rw [hkp]; exact hp3 (by omega), g, hg, ht⟩)
          · exact .inr (.inr ⟨by omega, by omega, hp2 _ (by omega) (by omega), g, hg, ht⟩)
      clear kt ha hp3 hp2
      rcases hcase with ⟨hkp, hk0⟩ | ⟨hkp, hk0, hk3, g, hg, ht⟩ | ⟨hkp, hk0, hk3, g, hg, ht⟩
      · have hk1 : ¬ (0 < (k : Int)) := by omega
        go_wp2_with fail
        go_meet
        case rel => exact ⟨by rw [← hkp, hk0] <;> rfl, rfl⟩
      · subst hkp
        subst hg
        go_wp2_with fail
        go_meet
        case rel => exact ⟨rfl, rfl⟩
      · subst hg
        have hk4 : ¬ lastTm us (k - 1) ≤ tm := by omega
        go_wp2_with fail
        go_round
        case rel => exact ⟨k - 1, by omega, by omega, by go_num⟩
        case measure => simp [intOf]; omega
  case rest =>
    obtain ⟨rfl, rfl⟩ := hcut
    have IN1 := Lib.hid (INS.out p rfl)
    clear ha kt
    go_wp2_with fail
    go_cut [] (fun wx => ∃ (a' : Option Addr) (c' : Nat) (w2 : World), wx = w2.setCell ⟨h + 1 + 1, 0, none⟩ (.slice a' (us.length + 1) c') ∧ w2.cell? ⟨h + 1 + 1, 2, none⟩ = some (.map (some (h + 1))) ∧
      Box3 w.heap.size id dest body (w2.setCell ⟨h + 1 + 1, 0, none⟩ (.slice a' (us.length + 1) c')) ∧
      owns w2 (h + 3) (.slice a' (us.length + 1) c') (us.take p ++ ⟨id, dest, body, tm⟩ :: us.drop p) ∧ ((Value.slice a' (us.length + 1) c').ownBlock = (Value.slice a us.length cap).ownBlock ∨ ∃ g, (Value.slice a' (us.length + 1) c').ownBlock = some g ∧ w.heap.size ≤ g) ∧
      w2.heap[h + 1 + 1]? = some (.cells #[.slice a us.length cap, .map (some h), .map (some (h + 1))] 62 (0, 0)) ∧ w.grownBy w2 (Value.slice a us.length cap).ownBlock)
    case first =>
      go_region_with (go_at_call 33; (with_reducible refine (IN1.out).mono ?_); rintro e w2 ⟨a', c', rfl, hd0, hd2, hdf, hx2, hxs, hown2, hat2, hst2, hgr2⟩)
      all_goals
        go_wp2_with fail
        go_meet
        case rel => exact ⟨a', c', w2, rfl, hd2, hxs, hown2, hat2, hst2, hgr2⟩
    case rest =>
      obtain ⟨a', c', w2, rfl, hd2, hxs, hown2, hat2, hst2, hgr2⟩ := hcut
      obtain ⟨w4, hl4, hu4, hfin⟩ := FIN.out w2 a' c' hst2 hown2 hat2 hgr2
      have q0 := hxs.1
      have q2 : (w2.setCell ⟨h + 1 + 1, 0, none⟩ (.slice a' (us.length + 1) c')).cell? ⟨h + 1 + 1, 2, none⟩ = some (.map (some (h + 1))) := by rw [World.cell?_setCell_other _ _ _ _ (by simp)]; exact hd2
      clear hxs hown2 hat2 hst2 hgr2
      go_wp2_with fail
      go_region
      go_wp2_with fail
      rw [Exit.noGoto_normal]
      go_end0
      exact ⟨rfl, hfin⟩
end Go.Proofs.Ytdoghnpmbpomcaa
