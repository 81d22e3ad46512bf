/- What (*Carrier).sends leaves, behind slices.Insert: the struct's field and the count. -/
import Derived.Test.YtdoghnpmbpomcaaLet
namespace Go.Proofs.Ytdoghnpmbpomcaa
open Go.RowKit Go.Maps

theorem zeroInt (w : World) : (zeroValue 3).run Try.prog w = .ok (.int .i64 0) w := by kernel_rfl
theorem keyU64 : Keyed Try.prog 26 := int_keyed (q := .u64) Try.underlying26
def up (C : Nat → Nat) (i : Nat) : Nat → Nat := fun k => if k = i then C k + 1 else C k
theorem put_field {w : World} {b : Nat} {x y z v : Value} {t : TypeId} (h : w.heap[b]? = some (.cells #[x, y, z] t (0, 0))) : (w.setCell ⟨b, 0, none⟩ v).heap[b]? = some (.cells #[v, y, z] t (0, 0)) := by
  simp [World.setCell, Array.getElem?_modify, h]
theorem put_grown (w : World) (b : Nat) (v : Value) : w.grownBy (w.setCell ⟨b, 0, none⟩ v) (some b) :=
  ⟨rfl, rfl, rfl, by simp [World.setCell], fun k _ hk => Below.heap_setCell _ _ _ _ (fun e => hk (by rw [e]))⟩
theorem wf_u64 {i : Nat} (h : i < 2 ^ 64) : (Lit.int .u64 (i : Int)).wf = true := by
  have h1 : (i : Int) ≤ 18446744073709551615 := by omega
  have e1 : IntKind.u64.min = 0 := by decide
  have e2 : IntKind.u64.max = 18446744073709551615 := by decide
  simp [Lit.wf, e1, e2, h1]
theorem wf_i64 {i : Nat} (h : i < 2 ^ 63) : (Lit.int .i64 (i : Int)).wf = true := by
  have h1 : (i : Int) ≤ 9223372036854775807 := by omega
  have h2 : (-9223372036854775808 : Int) ≤ i := by omega
  have e1 : IntKind.i64.min = -9223372036854775808 := by decide
  have e2 : IntKind.i64.max = 9223372036854775807 := by decide
  simp [Lit.wf, e1, e2, h1, h2]

theorem sends_fin {h N : Nat} {S : Nat → Prop} {us ls : List Ltr} {G : ByteArray → List Ltr} {C : Nat → Nat} {id : Nat} {w w2 : World} {vu v' : Value} {F : ByteArray → Value} {D Dc : DataW Value}
    (h2 : owns w (h + 3) vu us) (h3 : ∀ s, owns w (h + 3) (F s) (G s)) (h4 : ∀ s s', s ≠ s' → (F s).ownBlock = none ∨ (F s).ownBlock ≠ (F s').ownBlock)
    (h5 : ∀ s, (F s).ownBlock = none ∨ (F s).ownBlock ≠ vu.ownBlock) (h6 : ∀ g, vu.ownBlock = some g → S g) (h7 : ∀ s g, (F s).ownBlock = some g → S g)
    (h8 : w.ownsMap Try.prog 9 heldAs h N D) (h9 : ∀ s : ByteArray, s.size ≤ maxLen → D.atKey (.string s.data.toList) (.held (.slice none 0 0)) = .held (F s))
    (h10 : w.ownsMap Try.prog 26 (plainElem Try.prog 3) (h + 1) N Dc) (h11 : ∀ i : Nat, i < 2 ^ 64 → Dc.atKey (.int .u64 i) (.lit (.int .i64 0)) = .lit (.int .i64 (C i)))
    (h12 : ∀ k, S k → h + 3 ≤ k ∧ k < w.heap.size)
    (hN : N ≤ 1000000) (hC : C id ≤ 1000000) (hid : id < 2 ^ 64)
    (hst2 : w2.heap[h + 1 + 1]? = some (.cells #[vu, .map (some h), .map (some (h + 1))] 62 (0, 0))) (hown2 : owns w2 (h + 3) v' ls)
    (hat2 : v'.ownBlock = vu.ownBlock ∨ ∃ g, v'.ownBlock = some g ∧ w.heap.size ≤ g) (hgr2 : w.grownBy w2 vu.ownBlock) :
    ∃ w4, (Instr.lookup 60 (.map (some (h + 1))) (.int .u64 id) false).run Try.prog (w2.setCell ⟨h + 1 + 1, 0, none⟩ v').drew = .ok (.int .i64 (C id)) (w2.setCell ⟨h + 1 + 1, 0, none⟩ v').drew ∧
      (Instr.mapUpdate 60 (.map (some (h + 1))) (.int .u64 id) (.int .i64 ((C id : Int) + 1))).run Try.prog (w2.setCell ⟨h + 1 + 1, 0, none⟩ v').drew = .ok () w4 ∧
      ∃ S', Car h S' (N + 1) ls G (up C id) w4 ∧ Turn h S S' w w4 := by
  have bu : ∀ g, vu.ownBlock = some g → h + 3 ≤ g ∧ g < w.heap.size := fun g hg => World.ownsRow.lt h2 g hg
  have bF : ∀ s g, (F s).ownBlock = some g → h + 3 ≤ g ∧ g < w.heap.size := fun s g hg => World.ownsRow.lt (h3 s) g hg
  have b' : ∀ g, v'.ownBlock = some g → h + 3 ≤ g ∧ g < w2.heap.size := fun g hg => World.ownsRow.lt hown2 g hg
  have nu : ∀ k, k < h + 3 → some k ≠ vu.ownBlock := fun k hk e => by have := (bu k e.symm).1; omega
  generalize hw3 : w2.setCell ⟨h + 1 + 1, 0, none⟩ v' = w3
  have g3 : w2.grownBy w3 (some (h + 1 + 1)) := by rw [← hw3]; exact put_grown _ _ _
  have st3 : w3.heap[h + 1 + 1]? = some (.cells #[v', .map (some h), .map (some (h + 1))] 62 (0, 0)) := by rw [← hw3]; exact put_field hst2
  have hM : w3.drew.ownsMap Try.prog 26 (plainElem Try.prog 3) (h + 1) N Dc := World.ownsMap.drew ((h10.kept hgr2 (nu _ (by omega))).kept g3 (by simp))
  have hB : w3.drew.ownsMap Try.prog 9 heldAs h N D := World.ownsMap.drew ((h8.kept hgr2 (nu _ (by omega))).kept g3 (by simp; omega))
  have hkey := keyOf_int_mk (P := Try.prog) (k := 26) Try.underlying26 (wf_u64 hid)
  obtain ⟨c, hrun, hat, _⟩ := hM.lookup_int keyU64 Try.underlying60 Try.underlying3 (zeroInt _) hkey
  have hc : c = (C id : Int) := by
    rw [h11 id hid] at hat
    injection hat with e
    injection e with _ e
    exact e.symm
  subst hc
  obtain ⟨w4, hrun2, hM4, g4⟩ := hM.update keyU64 Try.underlying60 (by unfold maxLen; omega) hkey (plainElem_int (H := Value) (P := Try.prog) (e := 3) (q := .i64) Try.underlying3 (a := (C id : Int) + 1) (wf_i64 (i := C id + 1) (by omega)))
  have g4' : w3.grownBy w4 (some (h + 1)) := ⟨g4.os, g4.tape, g4.output, g4.size, g4.block⟩
  refine ⟨w4, hrun, hrun2, fun k => S k ∨ v'.ownBlock = some k, ⟨v', F, D, Dc.put (.int .u64 id) (.lit (.int .i64 ((C id : Int) + 1))), ?_, ?_, ?_, h4, ?_, fun g hg => .inr hg, fun s g hg => .inl (h7 s g hg), ?_, h9, hM4, ?_, ?_⟩, ?_⟩
  · rw [g4'.block (h + 1 + 1) (Array.getElem?_eq_some_iff.1 st3).1 (by simp)]
    exact st3
  · refine World.ownsRow.kept (World.ownsRow.kept hown2 g3 ?_) g4' ?_
    · exact .inr (fun e => by have := (b' _ e).1; omega)
    · exact .inr (fun e => by have := (b' _ e).1; omega)
  · intro s
    refine World.ownsRow.kept (World.ownsRow.kept (World.ownsRow.kept (h3 s) hgr2 (h5 s)) g3 ?_) g4' ?_
    · exact .inr (fun e => by have := (bF s _ e).1; omega)
    · exact .inr (fun e => by have := (bF s _ e).1; omega)
  · intro s
    rcases hat2 with e | ⟨g, e, hg⟩
    · rw [e]; exact h5 s
    · cases hF : (F s).ownBlock with
      | none => exact .inl rfl
      | some x =>
        refine .inr (fun e' => ?_)
        rw [e] at e'
        cases e'
        have := (bF s _ hF).2
        omega
  · exact (hB.kept g4 (by simp)).mono (by omega)
  · intro i hi
    by_cases e : i = id
    · subst e
      rw [atKey_put_same hM.isMap (by trivial)]
      simp [up]
    · rw [atKey_put_other (by intro e'; injection e' with _ e'; exact e (by exact_mod_cast e')), h11 i hi]
      simp [up, e]
  · intro k hk
    have s1 := hgr2.size
    have s2 := g3.size
    have s3 := g4'.size
    rcases hk with hk | hk
    · have := h12 k hk
      omega
    · have := b' k hk
      omega
  · refine ⟨g4'.os.trans (g3.os.trans hgr2.os), g4'.tape.trans (g3.tape.trans hgr2.tape), g4'.output.trans (g3.output.trans hgr2.output), Nat.le_trans hgr2.size (Nat.le_trans g3.size g4'.size), fun k hk h1 hS => ?_, fun k hk => ?_⟩
    · rw [g4'.block k (Nat.lt_of_lt_of_le hk (Nat.le_trans hgr2.size g3.size)) (by simp; omega), g3.block k (Nat.lt_of_lt_of_le hk hgr2.size) (by simp; omega)]
      exact hgr2.block k hk (fun e => hS (h6 k e.symm))
    · rcases hk with hk | hk
      · exact .inl hk
      · rcases hat2 with e | ⟨g, e, hg⟩
        · rw [e] at hk; exact .inl (h6 k hk)
        · rw [e] at hk; cases hk; exact .inr hg
end Go.Proofs.Ytdoghnpmbpomcaa
