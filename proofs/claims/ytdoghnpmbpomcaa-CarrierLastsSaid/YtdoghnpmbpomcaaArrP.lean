/- slices.Delete of a row's first letters, any number; the struct's field behind it. -/
import Derived.Test.YtdoghnpmbpomcaaLay
namespace Go.Proofs.Ytdoghnpmbpomcaa
open Go.RowKit Go.Maps

def landed (G : ByteArray → List Ltr) (ls : List Ltr) : ByteArray → List Ltr := ls.foldl laid G
theorem landed_snoc (G : ByteArray → List Ltr) (ls : List Ltr) (l : Ltr) : landed G (ls ++ [l]) = laid (landed G ls) l := by simp [landed]
theorem laid_len (G : ByteArray → List Ltr) (l : Ltr) (s : ByteArray) : (laid G l s).length ≤ (G s).length + 1 := by
  unfold laid
  split <;> simp
theorem landed_len (s : ByteArray) : ∀ (ls : List Ltr) (G : ByteArray → List Ltr), (landed G ls s).length ≤ (G s).length + ls.length
  | [], G => Nat.le_refl _
  | l :: ls, G => by
    have h1 := landed_len s ls (laid G l)
    have h2 := laid_len G l s
    simp only [landed, List.foldl_cons, List.length_cons] at *
    omega

theorem delete_any {B : Nat} {us : List Ltr} {v : Value} {w : World} (hown : owns w B v us) (k : Nat) (hk : k ≤ us.length) :
    Calls Try.prog 27 #[v, .int .i64 0, .int .i64 k] w fun e w' => ∃ v', e = .returned v' ∧ owns w' B v' (us.drop k) ∧ w.grownBy w' v.ownBlock ∧ v'.ownBlock = v.ownBlock ∧ ∃ a' c', v' = .slice a' (us.length - k) c' := by
  have hf : ∃ a c, v = .slice a us.length c ∧ us.length ≤ c ∧ (0 < us.length → ∃ g, a = some ⟨g, 0, none⟩ ∧ c ≤ 9223372036854775807) := by
    rcases hown.2 with ⟨e1, e2⟩ | ⟨g, cap, cur, e1, r⟩
    · exact ⟨none, 0, by rw [e1, e2], by omega, by omega⟩
    · exact ⟨_, cap, e1, r.2.2.1, fun _ => ⟨g, rfl, r.2.2.2.1⟩⟩
  obtain ⟨a, c, rfl, hc1, hc2⟩ := hf
  by_cases hk0 : k = 0
  · subst hk0
    refine (delete_none a us.length c hc1 w).mono ?_
    rintro e w' ⟨rfl, rfl⟩
    exact ⟨_, rfl, by simpa using hown, World.grownBy.refl _ _, rfl, a, c, rfl⟩
  · obtain ⟨g, rfl, hc3⟩ := hc2 (by omega)
    refine (delete_front B us.length k c g (flat us) w hown (by omega) hk hc1 hc3 (flat_one us)).mono ?_
    rintro e w' ⟨rfl, h1, h2⟩
    refine ⟨_, rfl, ?_, h2, rfl, _, c, rfl⟩
    unfold owns
    rw [← flat_drop, List.length_drop]
    exact h1

theorem field_fin {h N : Nat} {S : Nat → Prop} {us ls : List Ltr} {G : ByteArray → List Ltr} {C : Nat → Nat} {w w2 : World} {vu v' : Value} {F : ByteArray → Value} {D Dc : DataW Value}
    (h1 : w.heap[h + 1 + 1]? = some (.cells #[vu, .map (some h), .map (some (h + 1))] 62 (0, 0)))
    (h2 : owns w (h + 3) vu us) (h3 : ∀ s, owns w (h + 3) (F s) (G s)) (h4 : ∀ s s', s ≠ s' → (F s).ownBlock = none ∨ (F s).ownBlock ≠ (F s').ownBlock)
    (h5 : ∀ s, (F s).ownBlock = none ∨ (F s).ownBlock ≠ vu.ownBlock) (h6 : ∀ g, vu.ownBlock = some g → S g) (h7 : ∀ s g, (F s).ownBlock = some g → S g)
    (h8 : w.ownsMap Try.prog 9 heldAs h N D) (h9 : ∀ s : ByteArray, s.size ≤ maxLen → D.atKey (.string s.data.toList) (.held (.slice none 0 0)) = .held (F s))
    (h10 : w.ownsMap Try.prog 26 (plainElem Try.prog 3) (h + 1) N Dc) (h11 : ∀ i : Nat, i < 2 ^ 64 → Dc.atKey (.int .u64 i) (.lit (.int .i64 0)) = .lit (.int .i64 (C i)))
    (h12 : ∀ k, S k → h + 3 ≤ k ∧ k < w.heap.size)
    (hown2 : owns w2 (h + 3) v' ls) (hat2 : v'.ownBlock = vu.ownBlock) (hgr2 : w.grownBy w2 vu.ownBlock) :
    Car h S N ls G C (w2.setCell ⟨h + 1 + 1, 0, none⟩ v') ∧ Turn h S S w (w2.setCell ⟨h + 1 + 1, 0, none⟩ v') := by
  have bu : ∀ g, vu.ownBlock = some g → h + 3 ≤ g ∧ g < w.heap.size := fun g hg => World.ownsRow.lt h2 g hg
  have bF : ∀ s g, (F s).ownBlock = some g → h + 3 ≤ g ∧ g < w.heap.size := fun s g hg => World.ownsRow.lt (h3 s) g hg
  have b' : ∀ g, v'.ownBlock = some g → h + 3 ≤ g ∧ g < w2.heap.size := fun g hg => World.ownsRow.lt hown2 g hg
  have nu : ∀ k, k < h + 3 → some k ≠ vu.ownBlock := fun k hk e => by have := (bu k e.symm).1; omega
  have hlt : h + 1 + 1 < w.heap.size := (Array.getElem?_eq_some_iff.1 h1).1
  have hst2 : w2.heap[h + 1 + 1]? = some (.cells #[vu, .map (some h), .map (some (h + 1))] 62 (0, 0)) := (hgr2.block _ hlt (nu _ (by omega))).trans h1
  generalize hw3 : w2.setCell ⟨h + 1 + 1, 0, none⟩ v' = w3
  have g3 : w2.grownBy w3 (some (h + 1 + 1)) := by rw [← hw3]; exact put_grown _ _ _
  have st3 : w3.heap[h + 1 + 1]? = some (.cells #[v', .map (some h), .map (some (h + 1))] 62 (0, 0)) := by rw [← hw3]; exact put_field hst2
  have s2 := hgr2.size
  have s3 := g3.size
  refine ⟨⟨v', F, D, Dc, st3, ?_, ?_, h4, ?_, ?_, h7, ?_, h9, ?_, h11, fun k hk => ⟨(h12 k hk).1, by have := (h12 k hk).2; omega⟩⟩, ?_⟩
  · exact World.ownsRow.kept hown2 g3 (.inr (fun e => by have := (b' _ e).1; omega))
  · intro s
    exact World.ownsRow.kept (World.ownsRow.kept (h3 s) hgr2 (h5 s)) g3 (.inr (fun e => by have := (bF s _ e).1; omega))
  · intro s
    rw [hat2]
    exact h5 s
  · intro g hg
    rw [hat2] at hg
    exact h6 g hg
  · exact (h8.kept hgr2 (nu _ (by omega))).kept g3 (by simp; omega)
  · exact (h10.kept hgr2 (nu _ (by omega))).kept g3 (by simp)
  · refine ⟨g3.os.trans hgr2.os, g3.tape.trans hgr2.tape, g3.output.trans hgr2.output, by omega, fun k hk h1 hS => ?_, fun k hk => .inl hk⟩
    rw [g3.block k (by omega) (by simp; omega)]
    exact hgr2.block k hk (fun e => hS (h6 k e.symm))
end Go.Proofs.Ytdoghnpmbpomcaa
