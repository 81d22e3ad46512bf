/- What a letter that lands leaves: the row at its address, one letter longer. -/
import Derived.Test.YtdoghnpmbpomcaaSendP
namespace Go.Proofs.Ytdoghnpmbpomcaa
open Go.RowKit Go.Maps

theorem zeroRow (w : World) : (zeroValue 37).run Try.prog w = .ok (.slice none 0 0) w := by kernel_rfl
theorem keyStr : Keyed Try.prog 9 := string_keyed Try.underlying9
def laid (G : ByteArray → List Ltr) (l : Ltr) : ByteArray → List Ltr := fun k => if k = l.dest then G k ++ [l] else G k
def Ltr.ok (l : Ltr) : Prop := l.id < 2 ^ 64 ∧ l.dest.size ≤ maxLen

theorem look_row {w : World} {h N : Nat} {D : DataW Value} {F : ByteArray → Value} (hB : w.ownsMap Try.prog 9 heldAs h N D) (h9 : ∀ s : ByteArray, s.size ≤ maxLen → D.atKey (.string s.data.toList) (.held (.slice none 0 0)) = .held (F s)) (s : ByteArray) (hs : s.size ≤ maxLen) :
    (Instr.lookup 59 (.map (some h)) (.string s) false).run Try.prog w = .ok (F s) w := by
  obtain ⟨v, ps, hrun, hv⟩ := hB.lookup keyStr Try.underlying59 (zeroRow w) (zd := .held (.slice none 0 0)) (zp := []) rfl (WideMaps.keyOf_string_mk Try.underlying9 hs)
  rw [h9 s hs] at hv
  unfold heldAs at hv
  injection hv with e
  injection e with e _
  injection e with e
  rw [← e]
  exact hrun

theorem lay_fin {h N : Nat} {S : Nat → Prop} {us : List Ltr} {G : ByteArray → List Ltr} {C : Nat → Nat} {w : World} {vu : Value} {F : ByteArray → Value} {D Dc : DataW Value} (l : Ltr) (o1 : Obj)
    (h1 : w.heap[h + 1 + 1]? = some (.cells #[vu, .map (some h), .map (some (h + 1))] 62 (0, 0)))
    (h2 : owns w (h + 3) vu us) (h3 : ∀ s, owns w (h + 3) (F s) (G s)) (h4 : ∀ s s', s ≠ s' → (F s).ownBlock = none ∨ (F s).ownBlock ≠ (F s').ownBlock)
    (h5 : ∀ s, (F s).ownBlock = none ∨ (F s).ownBlock ≠ vu.ownBlock) (h6 : ∀ g, vu.ownBlock = some g → S g) (h7 : ∀ s g, (F s).ownBlock = some g → S g)
    (h8 : w.ownsMap Try.prog 9 heldAs h N D) (h9 : ∀ s : ByteArray, s.size ≤ maxLen → D.atKey (.string s.data.toList) (.held (.slice none 0 0)) = .held (F s))
    (h10 : w.ownsMap Try.prog 26 (plainElem Try.prog 3) (h + 1) N Dc) (h11 : ∀ i : Nat, i < 2 ^ 64 → Dc.atKey (.int .u64 i) (.lit (.int .i64 0)) = .lit (.int .i64 (C i)))
    (h12 : ∀ k, S k → h + 3 ≤ k ∧ k < w.heap.size)
    (hN : N ≤ 1000000) (hG : (G l.dest).length ≤ 1000000) (hd : l.dest.size ≤ maxLen) :
    (Instr.lookup 59 (.map (some h)) (.string l.dest) false).run Try.prog (w.alloc o1).drew = .ok (F l.dest) (w.alloc o1).drew ∧
    (Instr.lookup 59 (.map (some h)) (.string l.dest) false).run Try.prog ((w.alloc o1).alloc (.cells l.cells.toArray 40)).drew = .ok (F l.dest) ((w.alloc o1).alloc (.cells l.cells.toArray 40)).drew ∧
    ∃ v' w3 w4, (Builtin.append_ #[37, 37] 37 #[F l.dest, .slice (some ⟨w.heap.size + 1, 0, none⟩) 1 1]).run Try.prog ((w.alloc o1).alloc (.cells l.cells.toArray 40)).drew = .ok v' w3 ∧
      (Instr.mapUpdate 59 (.map (some h)) (.string l.dest) v').run Try.prog w3 = .ok () w4 ∧
      ((w.alloc o1).alloc (.cells l.cells.toArray 40)).grownBy w3 (F l.dest).ownBlock ∧ w3.grownBy w4 (some h) ∧
      ∃ S', Car h S' (N + 1) us (laid G l) C w4 ∧ Turn h S S' w w4 := by
  have bu : ∀ g, vu.ownBlock = some g → h + 3 ≤ g ∧ g < w.heap.size := fun g hg => World.ownsRow.lt h2 g hg
  have bF : ∀ s g, (F s).ownBlock = some g → h + 3 ≤ g ∧ g < w.heap.size := fun s g hg => World.ownsRow.lt (h3 s) g hg
  have nF : ∀ k, k < h + 3 → some k ≠ (F l.dest).ownBlock := fun k hk e => by have := (bF _ k e.symm).1; omega
  have hlt : h + 1 + 1 < w.heap.size := (Array.getElem?_eq_some_iff.1 h1).1
  have B1 := h8.alloc o1
  have B2 := B1.alloc (.cells l.cells.toArray 40)
  refine ⟨look_row B1.drew h9 _ hd, look_row B2.drew h9 _ hd, ?_⟩
  obtain ⟨i0, hi, hz0, hz1, hz2⟩ := info_parts infoLetter
  have hv : ((w.alloc o1).alloc (.cells l.cells.toArray 40)).drew.heap[w.heap.size + 1]? = some (.cells l.cells.toArray 40 (0, 0)) := heap_push2 w o1 _
  have hown2 : ((w.alloc o1).alloc (.cells l.cells.toArray 40)).drew.ownsRow (h + 3) 40 4 (F l.dest) (G l.dest).length (flat (G l.dest)) := World.ownsRow.alloc (World.ownsRow.alloc (h3 l.dest) _) _
  have hsz2 : ((w.alloc o1).alloc (.cells l.cells.toArray 40)).heap.size = w.heap.size + 1 + 1 := by simp
  obtain ⟨v', w3, ra, ro, rg', _, rat⟩ := run_append_own_at (P := Try.prog) ((w.alloc o1).alloc (.cells l.cells.toArray 40)).drew (h + 3) 37 37 40 i0 _ 4 48 Try.underlying37 hi hz0 hz1 hz2 rfl (by decide) (F l.dest) (G l.dest).length (flat (G l.dest)) hown2 ⟨w.heap.size + 1, 0, none⟩ 1 1 l.cells rfl
    (fun j u hj => by rw [addP, Lib.cell_of_heap hv, Nat.zero_add]; simpa using hj) (fun u hu => by simp [Ltr.cells] at hu; rcases hu with rfl | rfl | rfl | rfl <;> rfl) (by unfold maxLen; omega) (by omega) (by show h + 3 ≤ ((w.alloc o1).alloc _).heap.size; omega)
  have rg : ((w.alloc o1).alloc (.cells l.cells.toArray 40)).grownBy w3 (F l.dest).ownBlock := ⟨rg'.os, rg'.tape, rg'.output, rg'.size, rg'.block⟩
  have rat' : v'.ownBlock = (F l.dest).ownBlock ∨ v'.ownBlock = some (w.heap.size + 1 + 1) := by
    rcases rat with e | e
    · exact .inl e
    · right; rw [e]; exact congrArg some hsz2
  have ro' : owns w3 (h + 3) v' (G l.dest ++ [l]) := by
    unfold owns
    rw [flat_append, flat_cons, flat_nil, List.append_nil, List.length_append]
    exact ro
  have gw : w.grownBy w3 (F l.dest).ownBlock := World.grownBy.trans (World.grownBy.trans (World.grownBy_alloc w _ _) (World.grownBy_alloc _ _ _)) rg
  have B3 : w3.ownsMap Try.prog 9 heldAs h N D := h8.kept gw (nF _ (by omega))
  obtain ⟨w4, ru, B4, g4⟩ := B3.update keyStr Try.underlying59 (by unfold maxLen; omega) (WideMaps.keyOf_string_mk Try.underlying9 hd) (val := v') (d := .held v') (ps := []) rfl
  have b' : ∀ g, v'.ownBlock = some g → h + 3 ≤ g ∧ g < w3.heap.size := fun g hg => World.ownsRow.lt ro' g hg
  have s3 := gw.size
  have s4 := g4.size
  have sz3 : w.heap.size + 1 + 1 ≤ w3.heap.size := by have := rg.size; omega
  refine ⟨v', w3, w4, ra, ru, rg, g4, fun k => S k ∨ v'.ownBlock = some k, ⟨vu, fun k => if k = l.dest then v' else F k, D.put (.string l.dest.data.toList) (.held v'), Dc, ?_, ?_, ?_, ?_, ?_, fun g hg => .inl (h6 g hg), ?_, B4, ?_, ?_, h11, ?_⟩, ?_⟩
  · rw [g4.block (h + 1 + 1) (by omega) (by simp; omega), gw.block (h + 1 + 1) (by omega) (nF _ (by omega))]
    exact h1
  · refine World.ownsRow.kept (World.ownsRow.kept h2 gw ?_) g4 ?_
    · rcases h5 l.dest with e | e
      · cases hu : vu.ownBlock with
        | none => exact .inl rfl
        | some x => rw [e]; exact .inr (by simp)
      · exact .inr (fun e' => e e'.symm)
    · exact .inr (fun e => by have := (bu _ e).1; omega)
  · intro s
    by_cases e : s = l.dest
    · subst e
      simp only [laid, if_true]
      exact World.ownsRow.kept ro' g4 (.inr (fun e => by have := (b' _ e).1; omega))
    · simp only [laid, if_neg e]
      refine World.ownsRow.kept (World.ownsRow.kept (h3 s) gw (h4 s l.dest e)) g4 ?_
      exact .inr (fun e => by have := (bF s _ e).1; omega)
  · intro s s' hss
    have new : ∀ r, r ≠ l.dest → (F r).ownBlock = none ∨ (F r).ownBlock ≠ v'.ownBlock := fun r hr => by
      rcases rat' with e | e
      · rw [e]; exact h4 r l.dest hr
      · cases hF : (F r).ownBlock with
        | none => exact .inl rfl
        | some x =>
          refine .inr (fun e' => ?_)
          rw [e] at e'
          cases e'
          have := (bF r _ hF).2
          omega
    by_cases e : s = l.dest
    · have e2 : s' ≠ l.dest := fun x => hss (e.trans x.symm)
      simp only [if_pos e, if_neg e2]
      cases hv' : v'.ownBlock with
      | none => exact .inl rfl
      | some x =>
        refine .inr (fun e' => ?_)
        rcases new s' e2 with n1 | n1
        · rw [n1] at e'; cases e'
        · exact n1 (by rw [hv', e'])
    · simp only [if_neg e]
      by_cases e2 : s' = l.dest
      · simp only [if_pos e2]
        exact new s e
      · simp only [if_neg e2]
        exact h4 s s' hss
  · intro s
    by_cases e : s = l.dest
    · simp only [if_pos e]
      rcases rat' with e' | e'
      · rw [e']; exact h5 l.dest
      · refine .inr (fun e2 => ?_)
        rw [e'] at e2
        have := (bu _ e2.symm).2
        omega
    · simp only [if_neg e]
      exact h5 s
  · intro s g hg
    by_cases e : s = l.dest
    · simp only [if_pos e] at hg
      exact .inr hg
    · simp only [if_neg e] at hg
      exact .inl (h7 s g hg)
  · intro s hs
    by_cases e : s = l.dest
    · subst e
      rw [atKey_put_same B3.isMap (by trivial)]
      simp
    · rw [atKey_put_other (by intro e'; injection e' with e'; exact e (by rcases s with ⟨⟨s⟩⟩; rcases l with ⟨a, ⟨⟨t⟩⟩, b, c⟩; simpa using e')), h9 s hs]
      simp [e]
  · exact ((h10.kept gw (nF _ (by omega))).kept g4 (by simp)).mono (by omega)
  · intro k hk
    rcases hk with hk | hk
    · have := h12 k hk
      omega
    · have := b' k hk
      omega
  · refine ⟨g4.os.trans gw.os, g4.tape.trans gw.tape, g4.output.trans gw.output, Nat.le_trans gw.size g4.size, fun k hk hh hS => ?_, fun k hk => ?_⟩
    · rw [g4.block k (by omega) (by simp; omega)]
      exact gw.block k hk (fun e => hS (h7 _ k e.symm))
    · rcases hk with hk | hk
      · exact .inl hk
      · rcases rat' with e | e
        · rw [e] at hk; exact .inl (h7 _ k hk)
        · rw [e] at hk; cases hk; exact .inr (by omega)
end Go.Proofs.Ytdoghnpmbpomcaa
