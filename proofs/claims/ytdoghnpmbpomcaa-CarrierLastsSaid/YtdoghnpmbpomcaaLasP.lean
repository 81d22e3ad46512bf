/- CarrierLasts: what holds between its steps. -/
import Derived.Test.YtdoghnpmbpomcaaOrdP
import Derived.Test.YtdoghnpmbpomcaaLast
namespace Go.Proofs.Ytdoghnpmbpomcaa
open Go.RowKit Go.Maps

/-- After n steps: a carrier of boxes G, and blocks kept aside. -/
def OG (W : World) (h n : Nat) (kp : List (Nat × Obj)) (G : ByteArray → List Ltr) (w : World) : Prop :=
  ∃ S N us C, Car h S N us G C w ∧ (∀ l ∈ us, l.dest.size ≤ 20) ∧ N + us.length ≤ 4 * n ∧ (∀ s, (G s).length + us.length ≤ 2 * n) ∧ (∀ i, C i ≤ 2 * n) ∧
    (∀ p ∈ kp, w.heap[p.1]? = some p.2 ∧ ¬ S p.1 ∧ h + 3 ≤ p.1) ∧ Below W.heap.size W w ∧ W.heap.size ≤ h ∧ n ≤ 60

theorem OG.bel {W : World} {h n : Nat} {kp : List (Nat × Obj)} {G : ByteArray → List Ltr} {w : World} (o : OG W h n kp G w) : Below W.heap.size W w ∧ n ≤ 60 := by
  obtain ⟨S, N, us, C, c, h2, h4, h5, h6, h7, h8, h9, h10⟩ := o
  exact ⟨h8, h10⟩
theorem OG.kept {W : World} {h n : Nat} {kp : List (Nat × Obj)} {G : ByteArray → List Ltr} {w : World} (o : OG W h n kp G w) (p : Nat × Obj) (hp : p ∈ kp) : w.heap[p.1]? = some p.2 := by
  obtain ⟨S, N, us, C, c, h2, h4, h5, h6, h7, h8, h9, h10⟩ := o
  exact (h7 p hp).1
theorem OG.len {W : World} {h n : Nat} {kp : List (Nat × Obj)} {G : ByteArray → List Ltr} {w : World} (o : OG W h n kp G w) (s : ByteArray) : (G s).length ≤ 1000 := by
  obtain ⟨S, N, us, C, c, h2, h4, h5, h6, h7, h8, h9, h10⟩ := o
  have := h5 s
  omega
theorem OG.grown {W : World} {h n : Nat} {kp : List (Nat × Obj)} {G : ByteArray → List Ltr} {w w' : World} (o : OG W h n kp G w) (g : w.grownBy w' none) : OG W h n kp G w' := by
  obtain ⟨S, N, us, C, c, h2, h4, h5, h6, h7, h8, h9, h10⟩ := o
  exact ⟨S, N, us, C, c.keeps g (by simp), h2, h4, h5, h6, fun p hp => ⟨(g.block _ (Array.getElem?_eq_some_iff.1 (h7 p hp).1).1 (by simp)).trans (h7 p hp).1, (h7 p hp).2⟩, grown_below g h8 (by simp), h9, h10⟩
theorem OG.drawn {W : World} {h n : Nat} {kp : List (Nat × Obj)} {G : ByteArray → List Ltr} {w : World} (o : OG W h n kp G w) (m : Nat) : OG W h n kp G (w.drewN m) := o.grown ⟨rfl, rfl, rfl, Nat.le_refl _, fun _ _ _ => rfl⟩
theorem OG.alloc {W : World} {h n : Nat} {kp : List (Nat × Obj)} {G : ByteArray → List Ltr} {w : World} (o : OG W h n kp G w) (x : Obj) : OG W h n (kp ++ [(w.heap.size, x)]) G (w.alloc x) := by
  obtain ⟨S, N, us, C, c, h2, h4, h5, h6, h7, h8, h9, h10⟩ := o
  have g := World.grownBy_alloc w x none
  have hs := c.size
  refine ⟨S, N, us, C, c.keeps g (by simp), h2, h4, h5, h6, fun p hp => ?_, grown_below g h8 (by simp), h9, h10⟩
  rcases List.mem_append.1 hp with hp | hp
  · exact ⟨(g.block _ (Array.getElem?_eq_some_iff.1 (h7 p hp).1).1 (by simp)).trans (h7 p hp).1, (h7 p hp).2⟩
  · simp at hp
    subst hp
    exact ⟨heap_push1 w x, fun hS => by have := (c.rows _ hS).2; simp at this, hs⟩
theorem OG.weak {W : World} {h n : Nat} {kp : List (Nat × Obj)} {G : ByteArray → List Ltr} {w : World} (o : OG W h n kp G w) : OG W h n [] G w := by
  obtain ⟨S, N, us, C, c, h2, h4, h5, h6, h7, h8, h9, h10⟩ := o
  exact ⟨S, N, us, C, c, h2, h4, h5, h6, by simp, h8, h9, h10⟩

theorem og_hand {W w : World} {h n : Nat} {kp : List (Nat × Obj)} {G : ByteArray → List Ltr} (o : OG W h n kp G w) (hn : n < 60) (now : Int) (id : Nat) (hid : id < 2 ^ 64) (dest body : ByteArray) (hd : dest.size ≤ 20) (att due k ticks : Int) (dead : Bool) :
    Calls Try.prog 11 #[.pointer (some ⟨h + 1 + 1, 0, none⟩), .agg #[.int .u64 id, .string dest, .string body, .int .i64 att, .int .i64 due, .bool dead], .agg #[.int .i64 k, .int .i64 ticks], .int .i64 now] w fun e w' => e = .returned (.bool (hTaken k)) ∧ OG W h (n + 1) kp G w' := by
  obtain ⟨S, N, us, C, c, h2, h4, h5, h6, h7, h8, h9, h10⟩ := o
  have hx := h5 dest
  have hc := h6 id
  refine (hand_any c id dest body att due k ticks now dead (by omega) (by omega) (by omega) hid).mono ?_
  rintro e w' ⟨rfl, S', c', t'⟩
  have hl := hUs_len us id dest body k now ticks
  refine ⟨rfl, S', _, _, _, c', fun l hl => ?_, by omega, fun s => by have := h5 s; omega, fun i => ?_, fun p hp => ?_, t'.belowW h8 h9 (fun k hk => (c.rows k hk).1), h9, by omega⟩
  · rcases hUs_mem hl with e | hl
    · rw [e]; exact hd
    · exact h2 l hl
  · have := hC_le C id k i
    have := h6 i
    omega
  · obtain ⟨q1, q2, q3⟩ := h7 p hp
    have hlt := (Array.getElem?_eq_some_iff.1 q1).1
    refine ⟨(t'.block _ hlt (by omega) q2).trans q1, fun hS => ?_, q3⟩
    rcases t'.row _ hS with x | x
    · exact q2 x
    · omega
theorem og_arrive {W w : World} {h n : Nat} {kp : List (Nat × Obj)} {G : ByteArray → List Ltr} (o : OG W h n kp G w) (now : Int) :
    Calls Try.prog 12 #[.pointer (some ⟨h + 1 + 1, 0, none⟩), .int .i64 now] w fun e w' => (∃ k : Nat, e = .returned (.int .i64 k)) ∧ ∃ G', OG W h n [] G' w' := by
  obtain ⟨S, N, us, C, c, h2, h4, h5, h6, h7, h8, h9, h10⟩ := o
  have hdl := due_le us now
  refine (arrive_any now (due us now) w c hdl (due_in us now) (due_out us now) (by omega) (fun s => by have := h5 s; omega) (fun l hl => by have := h2 l hl; unfold maxLen; omega)).mono ?_
  rintro e w' ⟨rfl, S', c', t'⟩
  have htl : (us.take (due us now)).length = due us now := by rw [List.length_take]; omega
  refine ⟨⟨_, rfl⟩, _, S', _, _, _, c', fun l hl => h2 l (List.mem_of_mem_drop hl), by rw [List.length_drop]; omega, fun s => ?_, h6, by simp, t'.belowW h8 h9 (fun k hk => (c.rows k hk).1), h9, h10⟩
  have a := h5 s
  have b := landed_len s (us.take (due us now)) G
  rw [List.length_drop]
  omega
theorem og_last {W w : World} {h n : Nat} {kp : List (Nat × Obj)} {G : ByteArray → List Ltr} (o : OG W h n kp G w) (s p : ByteArray) (hs : s.size ≤ 20) :
    Calls Try.prog 17 #[.pointer (some ⟨h + 1 + 1, 0, none⟩), .string s, .string p] w fun e w' => e = .returned (.tuple #[.string (lastT (G s) p), .bool (lastB (G s) p)]) ∧ OG W h n kp G w' := by
  have o' := o
  have hl := o.len s
  obtain ⟨S, N, us, C, c, h2, h4, h5, h6, h7, h8, h9, h10⟩ := o
  refine (last_any c s p (by unfold maxLen; omega) (by omega)).mono ?_
  rintro e w' ⟨rfl, g'⟩
  exact ⟨rfl, o'.grown g'⟩
theorem og_box {W w : World} {h n : Nat} {kp : List (Nat × Obj)} {G : ByteArray → List Ltr} (o : OG W h n kp G w) (s : ByteArray) (hs : s.size ≤ 20) :
    Calls Try.prog 14 #[.pointer (some ⟨h + 1 + 1, 0, none⟩), .string s] w fun e w' => ∃ (a' : Option Addr) (c' : Nat), e = .returned (.slice a' (G s).length c') ∧ owns w' w.heap.size (.slice a' (G s).length c') (G s) ∧ OG W h n kp G w' := by
  have o' := o
  have hl := o.len s
  obtain ⟨S, N, us, C, c, h2, h4, h5, h6, h7, h8, h9, h10⟩ := o
  refine (box_any c s (by unfold maxLen; omega) (by omega)).mono ?_
  rintro e w' ⟨a', c', rfl, r', g'⟩
  exact ⟨a', c', rfl, r', o'.grown g'⟩
theorem new_og (W w1 : World) (b : Below W.heap.size W w1) : Calls Try.prog 9 #[] w1 fun e w2 => e = .returned (.pointer (some ⟨w1.heap.size + 1 + 1, 0, none⟩)) ∧ ∃ G, OG W w1.heap.size 0 [] G w2 := by
  refine (new_car w1).mono ?_
  rintro e w2 ⟨rfl, c, b2⟩
  exact ⟨rfl, _, _, 0, [], _, c, by simp, by simp, by simp, by simp, by simp, b.trans (b2.mono b.size), b.size, by omega⟩

/-- The last letter of a row, to whom the empty text is a beginning. -/
theorem lastB_len {ls : List Ltr} {p : ByteArray} (h : lastB ls p = true) : 0 < ls.length := by
  rcases Nat.eq_zero_or_pos ls.length with e | e
  · have : ls = [] := List.eq_nil_of_length_eq_zero e
    subst this
    simp [lastB, lastS] at h
  · exact e
theorem lastT_empty {ls : List Ltr} (h : 0 < ls.length) : lastT ls ⟨#[]⟩ = (ls[ls.length - 1]?.getD ⟨0, ⟨#[]⟩, ⟨#[]⟩, 0⟩).body := by
  have e0 := lastS_some ls ⟨#[]⟩ 0 h (by simp) (by
    have : (bk ls 0).body.extract 0 0 = ⟨#[]⟩ := by apply ByteArray.ext; simp
    simp only [begins, Bool.and_eq_true, decide_eq_true_eq]
    exact ⟨Nat.zero_le _, this⟩)
  have e1 : rest (bk ls 0).body ⟨#[]⟩ = (bk ls 0).body := by
    unfold rest
    split
    · apply ByteArray.ext
      show ((bk ls 0).body.extract 0 (bk ls 0).body.size).data = _
      rw [ByteArray.data_extract]
      exact Array.extract_size
    · rfl
  rw [lastT, e0, e1]
  simp [bk]
theorem row_body {B : Nat} {a : Option Addr} {c : Nat} {ls : List Ltr} {w : World} (o : owns w B (.slice a ls.length c) ls) (h : 0 < ls.length) : ∃ g, a = some ⟨g, 0, none⟩ ∧ w.cell? ⟨g, (ls.length - 1) * 4 + 2, none⟩ = some (.string (lastT ls ⟨#[]⟩)) := by
  obtain ⟨g, e1, _, e3⟩ := owns_rowAt o (ls.length - 1) (by omega)
  exact ⟨g, e1, by rw [lastT_empty h]; exact e3 2 _ rfl⟩
theorem lasts_box {W w : World} {h n : Nat} {kp : List (Nat × Obj)} {G : ByteArray → List Ltr} (o : OG W h n kp G w) (s p : ByteArray) (hs : s.size ≤ 20) :
    Calls Try.prog 14 #[.pointer (some ⟨h + 1 + 1, 0, none⟩), .string s] w fun e w' => ∃ (a' : Option Addr) (c' : Nat), e = .returned (.slice a' (G s).length c') ∧ (0 < (G s).length → ∃ g, a' = some ⟨g, 0, none⟩ ∧ (p = ⟨#[]⟩ → w'.cell? ⟨g, ((G s).length - 1) * 4 + 2, none⟩ = some (.string (lastT (G s) p)))) ∧ OG W h n [] G w' := by
  refine (og_box o s hs).mono ?_
  rintro e w' ⟨a', c', rfl, r', o'⟩
  refine ⟨a', c', rfl, fun hl => ?_, o'.weak⟩
  obtain ⟨g, e1, e2⟩ := row_body r' hl
  exact ⟨g, e1, fun hp => by rw [hp]; exact e2⟩
theorem toList_nonempty {p : ByteArray} (h : ¬ p = ⟨#[]⟩) : p.toList.isEmpty = false := by
  rw [ByteArray.toList_eq]
  cases hd : p.data.toList with
  | nil => exact absurd (ByteArray.ext (Array.toList_eq_nil_iff.1 hd)) h
  | cons a l => rfl
theorem og_step {W wr w5 : World} {h n : Nat} {G : ByteArray → List Ltr} {o10 : Obj} (lr : OG W h n [] G wr) (g5 : (wr.alloc o10).grownBy w5 none) (a b : Obj) :
    OG W h n [(w5.heap.size, a), (w5.heap.size + 1, b)] G ((w5.alloc a).alloc b) := by
  have o1 := (lr.grown (World.grownBy_alloc wr o10 none)).grown g5
  have o2 := (o1.alloc a).alloc b
  simp only [List.nil_append, List.cons_append] at o2
  rwa [show (w5.alloc a).heap.size = w5.heap.size + 1 by simp] at o2
theorem OG.six {W w : World} {h n bm bx : Nat} {G : ByteArray → List Ltr} {id att due k ticks : Int} {dest body : ByteArray} {dead : Bool} (o : OG W h n [(bm, .cells #[.int .u64 id, .string dest, .string body, .int .i64 att, .int .i64 due, .bool dead] 28), (bx, .cells #[.int .i64 k, .int .i64 ticks] 30)] G w) :
    (w.cell? ⟨bm, 0, none⟩ = some (.int .u64 id) ∧ w.cell? ⟨bm, 1, none⟩ = some (.string dest) ∧ w.cell? ⟨bm, 2, none⟩ = some (.string body) ∧ w.cell? ⟨bm, 3, none⟩ = some (.int .i64 att) ∧ w.cell? ⟨bm, 4, none⟩ = some (.int .i64 due) ∧ w.cell? ⟨bm, 5, none⟩ = some (.bool dead)) ∧ w.cell? ⟨bx, 0, none⟩ = some (.int .i64 k) ∧ w.cell? ⟨bx, 1, none⟩ = some (.int .i64 ticks) := by
  have h1 := o.kept _ (List.mem_cons_self)
  have h2 := o.kept (bx, .cells #[.int .i64 k, .int .i64 ticks] 30) (by simp)
  exact ⟨six_all h1, two_cells' h2⟩
end Go.Proofs.Ytdoghnpmbpomcaa
