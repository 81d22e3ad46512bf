/- CarrierOrder: what holds between its steps. -/
import Derived.Test.YtdoghnpmbpomcaaStep
import Derived.Test.YtdoghnpmbpomcaaArvL
namespace Go.Proofs.Ytdoghnpmbpomcaa
open Go.RowKit Go.Maps

theorem i64_and31 (n : Int) : bits .and .i64 n 31 = n % 32 := by
  have h127 : (BitVec.ofInt 64 31).toNat = 2 ^ 5 - 1 := by decide
  have key : (BitVec.ofInt 64 n &&& BitVec.ofInt 64 31).toNat = (n % ((2 ^ 64 : Nat) : Int)).toNat % 2 ^ 5 := by
    rw [BitVec.toNat_and, BitVec.toNat_ofInt, h127, Nat.and_two_pow_sub_one_eq_mod]
  show IntKind.i64.wrap ((BitVec.ofInt 64 n &&& BitVec.ofInt 64 31).toNat : Nat) = n % 32
  rw [key, IntKind.wrap_i64]
  omega

/-- After n steps, at a time: a carrier whose letters lie in order, and blocks kept aside. -/
def OR (W : World) (h n : Nat) (now : Int) (kp : List (Nat × Obj)) (Q : Ltr → Prop) (w : World) : Prop :=
  ∃ S N us G C, Car h S N us G C w ∧ Sorted us ∧ (∀ l ∈ us, l.dest.size ≤ 20 ∧ Q l) ∧ (∀ s, ∀ l ∈ G s, l.dest = s ∧ l.tm ≤ now) ∧ N + us.length ≤ 4 * n ∧ (∀ s, (G s).length + us.length ≤ 2 * n) ∧ (∀ i, C i ≤ 2 * n) ∧
    (∀ p ∈ kp, w.heap[p.1]? = some p.2 ∧ ¬ S p.1 ∧ h + 3 ≤ p.1) ∧ Below W.heap.size W w ∧ W.heap.size ≤ h ∧ n ≤ 60

theorem OR.grown {W : World} {h n : Nat} {now : Int} {kp : List (Nat × Obj)} {Q : Ltr → Prop} {w w' : World} (o : OR W h n now kp Q w) (g : w.grownBy w' none) : OR W h n now kp Q w' := by
  obtain ⟨S, N, us, G, C, c, h1, h2, h3, h4, h5, h6, h7, h8, h9, h10⟩ := o
  exact ⟨S, N, us, G, C, c.keeps g (by simp), h1, h2, h3, h4, h5, h6, fun p hp => ⟨(g.block _ (Array.getElem?_eq_some_iff.1 (h7 p hp).1).1 (by simp)).trans (h7 p hp).1, (h7 p hp).2⟩, grown_below g h8 (by simp), h9, h10⟩
theorem OR.alloc {W : World} {h n : Nat} {now : Int} {kp : List (Nat × Obj)} {Q : Ltr → Prop} {w : World} (o : OR W h n now kp Q w) (x : Obj) : OR W h n now (kp ++ [(w.heap.size, x)]) Q (w.alloc x) := by
  obtain ⟨S, N, us, G, C, c, h1, h2, h3, h4, h5, h6, h7, h8, h9, h10⟩ := o
  have g := World.grownBy_alloc w x none
  have hs := c.size
  refine ⟨S, N, us, G, C, c.keeps g (by simp), h1, h2, h3, h4, h5, h6, fun p hp => ?_, grown_below g h8 (by simp), h9, h10⟩
  rcases List.mem_append.1 hp with hp | hp
  · exact ⟨(g.block _ (Array.getElem?_eq_some_iff.1 (h7 p hp).1).1 (by simp)).trans (h7 p hp).1, (h7 p hp).2⟩
  · simp at hp
    subst hp
    exact ⟨heap_push1 w x, fun hS => by have := (c.rows _ hS).2; simp at this, hs⟩
theorem OR.weak {W : World} {h n : Nat} {now : Int} {kp : List (Nat × Obj)} {Q : Ltr → Prop} {w : World} (o : OR W h n now kp Q w) : OR W h n now [] (fun _ => True) w := by
  obtain ⟨S, N, us, G, C, c, h1, h2, h3, h4, h5, h6, h7, h8, h9, h10⟩ := o
  exact ⟨S, N, us, G, C, c, h1, fun l hl => ⟨(h2 l hl).1, trivial⟩, h3, h4, h5, h6, by simp, h8, h9, h10⟩

theorem hUs_len (us : List Ltr) (id : Nat) (dest body : ByteArray) (k now ticks : Int) : (hUs us id dest body k now ticks).length ≤ us.length + 2 := by
  unfold hUs
  (repeat' split) <;> (try simp only [ins_len]) <;> omega
theorem hUs_sorted {us : List Ltr} (hs : Sorted us) (id : Nat) (dest body : ByteArray) (k now ticks : Int) : Sorted (hUs us id dest body k now ticks) := by
  unfold hUs
  (repeat' split)
  · exact ins_sorted hs _
  · exact ins_sorted hs _
  · exact ins_sorted (ins_sorted hs _) _
  · exact hs
theorem hUs_mem {us : List Ltr} {id : Nat} {dest body : ByteArray} {k now ticks : Int} {x : Ltr} (h : x ∈ hUs us id dest body k now ticks) : x.dest = dest ∨ x ∈ us := by
  unfold hUs at h
  (repeat' split at h)
  · rcases ins_mem.1 h with e | h
    · left; rw [e]
    · exact .inr h
  · rcases ins_mem.1 h with e | h
    · left; rw [e]
    · exact .inr h
  · rcases ins_mem.1 h with e | h
    · left; rw [e]
    · rcases ins_mem.1 h with e | h
      · left; rw [e]
      · exact .inr h
  · exact .inr h
theorem hC_le (C : Nat → Nat) (id : Nat) (k : Int) (i : Nat) : hC C id k i ≤ C i + 2 := by
  unfold hC
  (repeat' split) <;> (try simp only [up]) <;> (repeat' split) <;> omega

theorem order_hand {W w : World} {h n : Nat} {now : Int} {kp : List (Nat × Obj)} (o : OR W h n now kp (fun _ => True) w) (hn : n < 60) (now' : Int) (hle : now ≤ now') (id : Nat) (hid : id < 2 ^ 64) (dest body : ByteArray) (hd : dest.size ≤ 20) (att due k ticks : Int) (dead : Bool) :
    Calls Try.prog 11 #[.pointer (some ⟨h + 1 + 1, 0, none⟩), .agg #[.int .u64 id, .string dest, .string body, .int .i64 att, .int .i64 due, .bool dead], .agg #[.int .i64 k, .int .i64 ticks], .int .i64 now'] w fun e w' => (∃ b, e = .returned (.bool b)) ∧ OR W h (n + 1) now' kp (fun _ => True) w' := by
  obtain ⟨S, N, us, G, C, c, h1, h2, h3, h4, h5, h6, h7, h8, h9, h10⟩ := o
  have hx := h5 dest
  have hc := h6 id
  refine (hand_any c id dest body att due k ticks now' dead (by omega) (by omega) (by omega) hid).mono ?_
  rintro e w' ⟨rfl, S', c', t'⟩
  have hl := hUs_len us id dest body k now' ticks
  refine ⟨⟨_, rfl⟩, S', _, _, _, _, c', hUs_sorted h1 _ _ _ _ _ _, fun l hl => ?_, fun s l hl => ⟨(h3 s l hl).1, Int.le_trans (h3 s l hl).2 hle⟩, by omega, fun s => by have := h5 s; omega, fun i => ?_, fun p hp => ?_, t'.belowW h8 h9 (fun k hk => (c.rows k hk).1), h9, by omega⟩
  · rcases hUs_mem hl with e | hl
    · rw [e]; exact ⟨hd, trivial⟩
    · exact h2 l hl
  · have := hC_le C id k i
    have := h6 i
    omega
  · obtain ⟨q1, q2, q3⟩ := h7 p hp
    have hlt := (Array.getElem?_eq_some_iff.1 q1).1
    refine ⟨(t'.block _ hlt (by omega) q2).trans q1, fun hS => ?_, q3⟩
    rcases t'.row _ hS with x | x
    · exact q2 x
    · omega

theorem laid_mem {ls : List Ltr} : ∀ {G : ByteArray → List Ltr} {s : ByteArray} {x : Ltr}, x ∈ landed G ls s → x ∈ G s ∨ (x ∈ ls ∧ x.dest = s) := by
  induction ls with
  | nil => intro G s x h; exact .inl (by simpa [landed] using h)
  | cons l ls ih =>
    intro G s x h
    simp only [landed, List.foldl_cons] at h
    rcases ih h with h | ⟨h, e⟩
    · unfold laid at h
      split at h
      · rename_i hs
        rcases List.mem_append.1 h with h | h
        · exact .inl h
        · simp at h
          subst h
          exact .inr ⟨List.mem_cons_self, hs.symm⟩
      · exact .inl h
    · exact .inr ⟨List.mem_cons_of_mem _ h, e⟩

theorem order_arrive {W w : World} {h n : Nat} {now : Int} {kp : List (Nat × Obj)} (o : OR W h n now kp (fun _ => True) w) :
    Calls Try.prog 12 #[.pointer (some ⟨h + 1 + 1, 0, none⟩), .int .i64 now] w fun e w' => (∃ k : Nat, e = .returned (.int .i64 k)) ∧ OR W h n now kp (fun l => now < l.tm) w' := by
  obtain ⟨S, N, us, G, C, c, h1, h2, h3, h4, h5, h6, h7, h8, h9, h10⟩ := o
  have hdl := due_le us now
  refine (arrive_any now (due us now) w c hdl (due_in us now) (due_out us now) (by omega) (fun s => by have := h5 s; omega) (fun l hl => by have := (h2 l hl).1; unfold maxLen; omega)).mono ?_
  rintro e w' ⟨rfl, S', c', t'⟩
  have htl : (us.take (due us now)).length = due us now := by rw [List.length_take]; omega
  refine ⟨⟨_, rfl⟩, S', _, _, _, _, c', h1.sublist (List.drop_sublist _ _), fun l hl => ⟨(h2 l (List.mem_of_mem_drop hl)).1, due_rest h1 now l hl⟩, fun s l hl => ?_, by rw [List.length_drop]; omega, fun s => ?_, h6, fun p hp => ?_, t'.belowW h8 h9 (fun k hk => (c.rows k hk).1), h9, h10⟩
  · rcases laid_mem hl with hl | ⟨hl, e⟩
    · exact h3 s l hl
    · exact ⟨e, due_mem us now l hl⟩
  · have a := h5 s
    have b := landed_len s (us.take (due us now)) G
    rw [List.length_drop]
    omega
  · obtain ⟨q1, q2, q3⟩ := h7 p hp
    have hlt := (Array.getElem?_eq_some_iff.1 q1).1
    refine ⟨(t'.block _ hlt (by omega) q2).trans q1, fun hS => ?_, q3⟩
    rcases t'.row _ hS with x | x
    · exact q2 x
    · omega

/-- A row of letters that a call gave: its cells. -/
theorem row_cells {B : Nat} {a : Option Addr} {c : Nat} {ls : List Ltr} {w : World} (o : owns w B (.slice a ls.length c) ls) : ∀ j, j < ls.length → ∃ g l, a = some ⟨g, 0, none⟩ ∧ l ∈ ls ∧ ls[j]? = some l ∧ lastTm ls j = l.tm ∧ w.cell? ⟨g, j * 4 + 1, none⟩ = some (.string l.dest) ∧ w.cell? ⟨g, j * 4 + 3, none⟩ = some (.int .i64 (lastTm ls j)) := fun j hj => by
  rcases o.2 with ⟨e1, e2⟩ | ⟨g, cap, cur, e1, r⟩
  · omega
  · cases e1
    have hg1 : ls[j]? = some ls[j] := List.getElem?_eq_getElem hj
    have e : ∀ i u, i < 4 → ls[j].cells[i]? = some u → w.cell? ⟨g, j * 4 + i, none⟩ = some u := fun i u hi hu => by
      have e1 := World.ownsRow.cells o (g := g) rfl (j * 4 + i) u (by rw [flat_at j i ls ls[j] hg1 hi]; exact hu)
      rwa [addP, Nat.zero_add] at e1
    have hl : lastTm ls j = ls[j].tm := by simp [lastTm, hg1]
    exact ⟨g, ls[j], rfl, List.getElem_mem hj, hg1, hl, e 1 _ (by omega) rfl, by rw [hl]; exact e 3 _ (by omega) rfl⟩

theorem order_under {W w : World} {h n : Nat} {now : Int} {kp : List (Nat × Obj)} {Q : Ltr → Prop} (o : OR W h n now kp Q w) :
    Calls Try.prog 13 #[.pointer (some ⟨h + 1 + 1, 0, none⟩)] w fun e w' => ∃ (ls : List Ltr) (a' : Option Addr) (c' : Nat), e = .returned (.slice a' ls.length c') ∧ owns w' w.heap.size (.slice a' ls.length c') ls ∧ Sorted ls ∧ (∀ l ∈ ls, Q l) ∧ ls.length ≤ 1000 ∧ OR W h n now kp Q w' := by
  have o' := o
  obtain ⟨S, N, us, G, C, c, h1, h2, h3, h4, h5, h6, h7, h8, h9, h10⟩ := o
  refine (under_any c (by omega)).mono ?_
  rintro e w' ⟨a', c', rfl, r', g'⟩
  exact ⟨us, a', c', rfl, r', h1, fun l hl => (h2 l hl).2, by omega, o'.grown g'⟩
theorem order_box {W w : World} {h n : Nat} {now : Int} {kp : List (Nat × Obj)} {Q : Ltr → Prop} (o : OR W h n now kp Q w) (s : ByteArray) (hs : s.size ≤ 20) :
    Calls Try.prog 14 #[.pointer (some ⟨h + 1 + 1, 0, none⟩), .string s] w fun e w' => ∃ (ls : List Ltr) (a' : Option Addr) (c' : Nat), e = .returned (.slice a' ls.length c') ∧ owns w' w.heap.size (.slice a' ls.length c') ls ∧ (∀ l ∈ ls, l.dest = s ∧ l.tm ≤ now) ∧ ls.length ≤ 1000 ∧ OR W h n now kp Q w' := by
  have o' := o
  obtain ⟨S, N, us, G, C, c, h1, h2, h3, h4, h5, h6, h7, h8, h9, h10⟩ := o
  have hx := h5 s
  refine (box_any c s (by unfold maxLen; omega) (by omega)).mono ?_
  rintro e w' ⟨a', c', rfl, r', g'⟩
  exact ⟨G s, a', c', rfl, r', h3 s, by omega, o'.grown g'⟩
theorem new_or (W w1 : World) (b : Below W.heap.size W w1) : Calls Try.prog 9 #[] w1 fun e w2 => e = .returned (.pointer (some ⟨w1.heap.size + 1 + 1, 0, none⟩)) ∧ OR W w1.heap.size 0 0 [] (fun _ => True) w2 := by
  refine (new_car w1).mono ?_
  rintro e w2 ⟨rfl, c, b2⟩
  exact ⟨rfl, _, 0, [], _, _, c, List.Pairwise.nil, by simp, by simp, by simp, by simp, by simp, by simp, b.trans (b2.mono b.size), b.size, by omega⟩
end Go.Proofs.Ytdoghnpmbpomcaa
