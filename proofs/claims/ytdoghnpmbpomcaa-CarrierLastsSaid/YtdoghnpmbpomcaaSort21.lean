/- Letters in the order in which they will arrive: plain facts. -/
import Derived.Test.YtdoghnpmbpomcaaHand
namespace Go.Proofs.Ytdoghnpmbpomcaa
open Go.RowKit

def Sorted (us : List Ltr) : Prop := us.Pairwise (fun a b => a.tm ≤ b.tm)
theorem lastTm_get {us : List Ltr} {j : Nat} {l : Ltr} (h : us[j]? = some l) : lastTm us j = l.tm := by simp [lastTm, h]
theorem ins_perm (us : List Ltr) (l : Ltr) : (ins us l).Perm (l :: us) := by
  unfold ins
  have h := List.perm_middle (a := l) (l₁ := us.take (posN us l.tm us.length)) (l₂ := us.drop (posN us l.tm us.length))
  rwa [List.take_append_drop] at h
theorem ins_mem {us : List Ltr} {l x : Ltr} : x ∈ ins us l ↔ x = l ∨ x ∈ us := by
  rw [(ins_perm us l).mem_iff]
  simp
theorem sorted_get {us : List Ltr} (hs : Sorted us) {i j : Nat} {a b : Ltr} (hij : i < j) (ha : us[i]? = some a) (hb : us[j]? = some b) : a.tm ≤ b.tm := by
  obtain ⟨hi, ea⟩ := List.getElem?_eq_some_iff.1 ha
  obtain ⟨hj, eb⟩ := List.getElem?_eq_some_iff.1 hb
  have := List.pairwise_iff_getElem.1 hs i j hi hj hij
  rwa [ea, eb] at this
theorem ins_sorted {us : List Ltr} (hs : Sorted us) (l : Ltr) : Sorted (ins us l) := by
  unfold ins Sorted
  have hp := posN_le us l.tm us.length
  have above : ∀ b ∈ us.drop (posN us l.tm us.length), l.tm < b.tm := by
    intro b hb
    obtain ⟨j, hj⟩ := List.mem_iff_getElem?.1 hb
    rw [List.getElem?_drop] at hj
    have hlt := (List.getElem?_eq_some_iff.1 hj).1
    have := posN_above us l.tm us.length (posN us l.tm us.length + j) (by omega) hlt
    rwa [lastTm_get hj] at this
  have below : ∀ a ∈ us.take (posN us l.tm us.length), a.tm ≤ l.tm := by
    intro a ha
    obtain ⟨j, hj⟩ := List.mem_iff_getElem?.1 ha
    rw [List.getElem?_take] at hj
    split at hj
    · rename_i hjp
      have hat := posN_at us l.tm us.length (by omega)
      have hlast : us[posN us l.tm us.length - 1]? = some us[posN us l.tm us.length - 1] := List.getElem?_eq_getElem (by omega)
      rw [lastTm_get hlast] at hat
      by_cases e : j = posN us l.tm us.length - 1
      · subst e
        rw [hlast] at hj
        cases hj
        exact hat
      · exact Int.le_trans (sorted_get hs (by omega) hj hlast) hat
    · cases hj
  rw [List.pairwise_append, List.pairwise_cons]
  refine ⟨hs.sublist (List.take_sublist _ _), ⟨fun b hb => Int.le_of_lt (above b hb), hs.sublist (List.drop_sublist _ _)⟩, fun a ha b hb => ?_⟩
  rcases List.mem_cons.1 hb with e | hb
  · rw [e]; exact below a ha
  · exact Int.le_trans (below a ha) (Int.le_of_lt (above b hb))

/-- How many letters have arrived at a time. -/
def due : List Ltr → Int → Nat
  | [], _ => 0
  | l :: us, now => if l.tm ≤ now then due us now + 1 else 0
theorem due_le : ∀ (us : List Ltr) (now : Int), due us now ≤ us.length
  | [], _ => Nat.le_refl _
  | l :: us, now => by
    have := due_le us now
    unfold due
    split <;> simp
    exact this
theorem due_mem : ∀ (us : List Ltr) (now : Int), ∀ l ∈ us.take (due us now), l.tm ≤ now
  | [], _ => by simp
  | l :: us, now => by
    unfold due
    split
    · rename_i h
      intro x hx
      rw [List.take_succ_cons] at hx
      rcases List.mem_cons.1 hx with e | hx
      · rw [e]; exact h
      · exact due_mem us now x hx
    · simp
theorem due_next : ∀ (us : List Ltr) (now : Int), due us now < us.length → ∃ l, us[due us now]? = some l ∧ now < l.tm
  | [], _, h => by simp [due] at h
  | l :: us, now, h => by
    unfold due at h ⊢
    split
    · rename_i hl
      rw [if_pos hl] at h
      obtain ⟨x, h1, h2⟩ := due_next us now (by simpa using h)
      exact ⟨x, by simpa using h1, h2⟩
    · rename_i hl
      exact ⟨l, by simp, by omega⟩
theorem due_in (us : List Ltr) (now : Int) : ∀ j, j < due us now → lastTm us j ≤ now := by
  intro j hj
  have hle := due_le us now
  have hjl : j < us.length := by omega
  have h : us[j]? = some us[j] := List.getElem?_eq_getElem hjl
  rw [lastTm_get h]
  exact due_mem us now _ (List.mem_of_getElem? (i := j) (by rw [List.getElem?_take, if_pos hj]; exact h))
theorem due_out (us : List Ltr) (now : Int) (h : due us now < us.length) : now < lastTm us (due us now) := by
  obtain ⟨l, h1, h2⟩ := due_next us now h
  rw [lastTm_get h1]
  exact h2
theorem due_rest {us : List Ltr} (hs : Sorted us) (now : Int) : ∀ l ∈ us.drop (due us now), now < l.tm := by
  intro l hl
  obtain ⟨j, hj⟩ := List.mem_iff_getElem?.1 hl
  rw [List.getElem?_drop] at hj
  have hlt := (List.getElem?_eq_some_iff.1 hj).1
  have h0 := due_out us now (by omega)
  have hg : us[due us now]? = some us[due us now] := List.getElem?_eq_getElem (by omega)
  rw [lastTm_get hg] at h0
  by_cases e : j = 0
  · subst e
    rw [Nat.add_zero, hg] at hj
    cases hj
    exact h0
  · exact Int.lt_of_lt_of_le h0 (sorted_get hs (by omega) hg hj)
theorem due_count {us : List Ltr} (hs : Sorted us) {now : Int} (hn : ∀ l ∈ us, now ≤ l.tm) : due us now = us.countP (fun l => decide (l.tm = now)) := by
  conv => rhs; rw [← List.take_append_drop (due us now) us]
  rw [List.countP_append]
  have h1 : (us.take (due us now)).countP (fun l => decide (l.tm = now)) = (us.take (due us now)).length := by
    rw [List.countP_eq_length]
    intro l hl
    have h3 := hn l (List.mem_of_mem_take hl)
    have h2 := due_mem us now l hl
    simp
    omega
  have h2 : (us.drop (due us now)).countP (fun l => decide (l.tm = now)) = 0 := by
    rw [List.countP_eq_zero]
    intro l hl
    have := due_rest hs now l hl
    simp
    omega
  rw [h1, h2, List.length_take, Nat.min_eq_left (due_le us now), Nat.add_zero]
theorem rest_count {us : List Ltr} {now t : Int} (ht : now < t) : (us.drop (due us now)).countP (fun l => decide (l.tm = t)) = us.countP (fun l => decide (l.tm = t)) := by
  conv => rhs; rw [← List.take_append_drop (due us now) us]
  rw [List.countP_append]
  have h1 : (us.take (due us now)).countP (fun l => decide (l.tm = t)) = 0 := by
    rw [List.countP_eq_zero]
    intro l hl
    have h2 := due_mem us now l hl
    simp
    omega
  omega
theorem landed_one {s : ByteArray} : ∀ (ls : List Ltr) (G : ByteArray → List Ltr), (∀ l ∈ ls, l.dest = s) → landed G ls s = G s ++ ls
  | [], G, _ => by simp [landed]
  | l :: ls, G, h => by
    have e := landed_one ls (laid G l) (fun x hx => h x (List.mem_cons_of_mem _ hx))
    simp only [landed, List.foldl_cons] at e ⊢
    rw [e]
    simp [laid, h l (List.mem_cons_self)]
end Go.Proofs.Ytdoghnpmbpomcaa
