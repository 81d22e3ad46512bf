/- CarrierArrives: what holds between its rounds, and how each step keeps it. -/
import Derived.Test.YtdoghnpmbpomcaaSort21
import Derived.Test.YtdoghnpmbpomcaaCarOps
import Derived.Test.YtdoghnpmbpomcaaAwake
import Derived.Laws.BitsLemmas
namespace Go.Proofs.Ytdoghnpmbpomcaa
open Go.RowKit Go.Maps

theorem i64_and63 (n : Int) : bits .and .i64 n 63 = n % 64 := by
  have h127 : (BitVec.ofInt 64 63).toNat = 2 ^ 6 - 1 := by decide
  have key : (BitVec.ofInt 64 n &&& BitVec.ofInt 64 63).toNat = (n % ((2 ^ 64 : Nat) : Int)).toNat % 2 ^ 6 := by
    rw [BitVec.toNat_and, BitVec.toNat_ofInt, h127, Nat.and_two_pow_sub_one_eq_mod]
  show IntKind.i64.wrap ((BitVec.ofInt 64 n &&& BitVec.ofInt 64 63).toNat : Nat) = n % 64
  rw [key, IntKind.wrap_i64]
  omega

/-- The letters under way are those that are wanted from now on. -/
structure PI (now : Int) (ws : List Int) (us : List Ltr) : Prop where
  sorted : Sorted us
  each : ∀ l ∈ us, l.dest = abcd ∧ now ≤ l.tm ∧ l.tm ≤ 92
  num : ∀ t, now ≤ t → us.countP (fun l => decide (l.tm = t)) = ws.count t
theorem PI.start : PI 0 [] [] := ⟨List.Pairwise.nil, by simp, by simp⟩
theorem PI.ins {now : Int} {ws : List Int} {us : List Ltr} (p : PI now ws us) (l : Ltr) (h1 : l.dest = abcd) (h2 : now ≤ l.tm) (h3 : l.tm ≤ 92) : PI now (ws ++ [l.tm]) (ins us l) := by
  refine ⟨ins_sorted p.sorted l, fun x hx => ?_, fun t ht => ?_⟩
  · rcases ins_mem.1 hx with e | hx
    · subst e; exact ⟨h1, h2, h3⟩
    · exact p.each x hx
  · rw [(ins_perm us l).countP_eq, List.countP_cons, p.num t ht, List.count_append, List.count_singleton]
    simp
theorem PI.drop {now : Int} {ws : List Int} {us : List Ltr} (p : PI now ws us) : PI (now + 1) ws (us.drop (due us now)) ∧ due us now = ws.count now := by
  refine ⟨⟨p.sorted.sublist (List.drop_sublist _ _), fun l hl => ?_, fun t ht => ?_⟩, ?_⟩
  · have h1 := p.each l (List.mem_of_mem_drop hl)
    have h2 := due_rest p.sorted now l hl
    exact ⟨h1.1, by omega, h1.2.2⟩
  · rw [rest_count (by omega)]
    exact p.num t (by omega)
  · rw [due_count p.sorted (fun l hl => (p.each l hl).2.1)]
    exact p.num now (Int.le_refl _)
theorem PI.over {ws : List Int} {us : List Ltr} (p : PI 100 ws us) : us = [] := by
  cases us with
  | nil => rfl
  | cons l us =>
    have := p.each l (List.mem_cons_self)
    omega

structure CI (h n : Nat) (now : Int) (ws : List Int) (had : Nat) (S : Nat → Prop) (N : Nat) (us : List Ltr) (G : ByteArray → List Ltr) (C : Nat → Nat) (w : World) : Prop where
  car : Car h S N us G C w
  pi : PI now ws us
  box0 : (G abcd).length = had
  sum : had + us.length = ws.length
  few : ws.length ≤ 2 * n
  bnd : N + us.length ≤ 4 * n
  box : ∀ s, (G s).length + us.length ≤ 2 * n
  tal : ∀ i, n < i → C i = 0
theorem CI.grown {h n : Nat} {now : Int} {ws : List Int} {had : Nat} {S : Nat → Prop} {N : Nat} {us : List Ltr} {G : ByteArray → List Ltr} {C : Nat → Nat} {w w' : World} (c : CI h n now ws had S N us G C w) {row : Option Nat} (hk : w.grownBy w' row) (hr : ∀ k, row = some k → ¬ S k ∧ (k < h ∨ h + 3 ≤ k)) : CI h n now ws had S N us G C w' :=
  ⟨c.car.keeps hk hr, c.pi, c.box0, c.sum, c.few, c.bnd, c.box, c.tal⟩

def cnt (k : Int) : Nat := if k = 1 then 1 else if k = 3 then 1 else if k = 4 then 2 else 0
def more (k n tt : Int) : List Int := if k = 1 then [n] else if k = 3 then [n + tt] else if k = 4 then [n, n + tt] else []

theorem clk_sum {n tt : Int} (h1 : 0 ≤ n) (h2 : n ≤ 30) (h3 : 0 ≤ tt) (h4 : tt ≤ 63) : clk n tt = n + tt := by
  unfold clk
  rw [if_neg (by omega)]
  simp only [Int.min_def]
  (repeat' split) <;> omega

theorem CI.hand {h n : Nat} {ws : List Int} {S : Nat → Prop} {N : Nat} {us : List Ltr} {G : ByteArray → List Ltr} {C : Nat → Nat} {w w' : World} (c : CI h n 0 ws 0 S N us G C w) (k tt : Int) (h3 : 0 ≤ tt) (h4 : tt ≤ 63) (hn : n < 30) {S' : Nat → Prop}
    (c' : Car h S' (N + 2) (hUs us (n + 1) abcd xx k n tt) G (hC C (n + 1) k) w') :
    CI h (n + 1) 0 (ws ++ more k n tt) 0 S' (N + 2) (hUs us (n + 1) abcd xx k n tt) G (hC C (n + 1) k) w' ∧ hC C (n + 1) k (n + 1) = cnt k := by
  have hcl := clk_sum (n := n) (tt := tt) (by omega) (by omega) h3 h4
  have hz := c.tal (n + 1) (by omega)
  have hb := c.bnd
  have hf := c.few
  have hs := c.sum
  have hx := c.box
  have ht := c.tal
  have p := c.pi
  have p1 := p.ins ⟨n + 1, abcd, xx, n⟩ rfl (by show (0 : Int) ≤ n; omega) (by show (n : Int) ≤ 92; omega)
  have p2 := p.ins ⟨n + 1, abcd, xx, clk n tt⟩ rfl (by show (0 : Int) ≤ clk n tt; omega) (by show clk n tt ≤ 92; omega)
  have p3 := p1.ins ⟨n + 1, abcd, xx, clk n tt⟩ rfl (by show (0 : Int) ≤ clk n tt; omega) (by show clk n tt ≤ 92; omega)
  simp only [hcl] at p2 p3
  have hC0 : ∀ i, n + 1 < i → hC C (n + 1) k i = 0 := fun i hi => by
    have a := ht i (by omega)
    have hne : ¬ i = n + 1 := by omega
    unfold hC
    (repeat' split) <;> simp [up, a, hne]
  by_cases k1 : k = 1
  · subst k1
    refine ⟨⟨c', p1, c.box0, ?_, ?_, ?_, fun s => ?_, fun i hi => ?_⟩, ?_⟩
    · simp [hUs, more, ins_len]; omega
    · simp [more]; omega
    · simp [hUs, ins_len]; omega
    · have := hx s; simp [hUs, ins_len]; omega
    · exact hC0 i hi
    · simp [hC, up, hz, cnt]
  · by_cases k3 : k = 3
    · subst k3
      refine ⟨⟨c', by simpa [hUs, more, hcl] using p2, c.box0, ?_, ?_, ?_, fun s => ?_, fun i hi => ?_⟩, ?_⟩
      · simp [hUs, more, ins_len]; omega
      · simp [more]; omega
      · simp [hUs, ins_len]; omega
      · have := hx s; simp [hUs, ins_len]; omega
      · exact hC0 i hi
      · simp [hC, up, hz, cnt]
    · by_cases k4 : k = 4
      · subst k4
        refine ⟨⟨c', by simpa [hUs, more, hcl] using p3, c.box0, ?_, ?_, ?_, fun s => ?_, fun i hi => ?_⟩, ?_⟩
        · simp [hUs, more, ins_len]; omega
        · simp [more]; omega
        · simp [hUs, ins_len]; omega
        · have := hx s; simp [hUs, ins_len]; omega
        · exact hC0 i hi
        · simp [hC, up, hz, cnt]
      · have e1 : hUs us (n + 1) abcd xx k n tt = us := by simp [hUs, k1, k3, k4]
        have e2 : hC C (n + 1) k = C := by simp [hC, k1, k3, k4]
        have e3 : more k n tt = [] := by simp [more, k1, k3, k4]
        have e4 : cnt k = 0 := by simp [cnt, k1, k3, k4]
        rw [e1, e2] at c' ⊢
        rw [e3, e4, List.append_nil]
        exact ⟨⟨c', p, c.box0, hs, by omega, by omega, fun s => by have := hx s; omega, fun i hi => ht i (by omega)⟩, hz⟩

theorem CI.arrive {h n : Nat} {now : Int} {ws : List Int} {had : Nat} {S : Nat → Prop} {N : Nat} {us : List Ltr} {G : ByteArray → List Ltr} {C : Nat → Nat} {w w' : World} (c : CI h n now ws had S N us G C w) {S' : Nat → Prop}
    (c' : Car h S' (N + due us now) (us.drop (due us now)) (landed G (us.take (due us now))) C w') :
    CI h n (now + 1) ws (had + due us now) S' (N + due us now) (us.drop (due us now)) (landed G (us.take (due us now))) C w' ∧ due us now = ws.count now := by
  obtain ⟨p, hd⟩ := c.pi.drop
  have hle := due_le us now
  have htl : (us.take (due us now)).length = due us now := by rw [List.length_take]; omega
  refine ⟨⟨c', p, ?_, ?_, c.few, ?_, fun s => ?_, c.tal⟩, hd⟩
  · rw [landed_one _ _ (fun l hl => (c.pi.each l (List.mem_of_mem_take hl)).1), List.length_append, c.box0, htl]
  · have := c.sum; rw [List.length_drop]; omega
  · have := c.bnd; rw [List.length_drop]; omega
  · have h1 := c.box s
    have h2 := landed_len s (us.take (due us now)) G
    rw [List.length_drop]
    omega

/-- The row of what is wanted, apart from the carrier's rows. -/
def WI (h : Nat) (S : Nat → Prop) (vw : Value) (ws : List Int) (w : World) : Prop := w.ownsRow (h + 3) 2 1 vw ws.length (ws.map (Value.int .i64)) ∧ ∀ g, vw.ownBlock = some g → ¬ S g
theorem ownsRow_same {w w' : World} {B n sz : Nat} {e : TypeId} {v : Value} {xs : List Value} (h : w.ownsRow B e sz v n xs) (hs : ∀ g, v.ownBlock = some g → w'.heap[g]? = w.heap[g]?) : w'.ownsRow B e sz v n xs := by
  refine ⟨h.1, ?_⟩
  rcases h.2 with r | ⟨g, cap, cur, e1, r1, r2, r3⟩
  · exact .inl r
  · subst e1
    exact .inr ⟨g, cap, cur, rfl, r1, (hs g rfl).trans r2, r3⟩
theorem WI.turn {h : Nat} {S S' : Nat → Prop} {vw : Value} {ws : List Int} {w w' : World} (i : WI h S vw ws w) (t : Turn h S S' w w') : WI h S' vw ws w' := by
  refine ⟨ownsRow_same i.1 (fun g hg => ?_), fun g hg hS => ?_⟩
  · have := World.ownsRow.lt i.1 g hg
    exact t.block g this.2 (by omega) (i.2 g hg)
  · have := World.ownsRow.lt i.1 g hg
    rcases t.row g hS with x | x
    · exact i.2 g hg x
    · omega
theorem WI.grown {h : Nat} {S : Nat → Prop} {vw : Value} {ws : List Int} {w w' : World} (i : WI h S vw ws w) (hk : w.grownBy w' none) : WI h S vw ws w' := ⟨World.ownsRow.kept i.1 hk (by cases hv : vw.ownBlock with
  | none => exact .inl rfl
  | some x => exact .inr (by simp)), i.2⟩
theorem infoInt64 : (Try.prog.info? 2).map (fun i => (i.zero, i.size, i.bytes)) = some (some (.int .i64 0), 1, 8) := by kernel_rfl
theorem WI.push {h : Nat} {S : Nat → Prop} {vw : Value} {ws : List Int} {w : World} (i : WI h S vw ws w) (hS : ∀ k, S k → k < w.heap.size) (hh : h + 3 ≤ w.heap.size) (lim : ws.length ≤ 1000000) (t : Int) :
    ∃ a5 c5 w5, (Builtin.append_ #[44, 44] 44 #[vw, .slice (some ⟨w.heap.size, 0, none⟩) 1 1]).run Try.prog (w.alloc (.cells #[.int .i64 t] 2)) = .ok (.slice a5 (ws.length + 1) c5) w5 ∧
      WI h S (.slice a5 (ws.length + 1) c5) (ws ++ [t]) w5 ∧ w.grownBy w5 vw.ownBlock ∧ ((Value.slice a5 (ws.length + 1) c5).ownBlock = vw.ownBlock ∨ ∃ g, (Value.slice a5 (ws.length + 1) c5).ownBlock = some g ∧ w.heap.size ≤ g) := by
  obtain ⟨i0, hi, hz0, hz1, hz2⟩ := info_parts infoInt64
  have hv := heap_push1 w (.cells #[.int .i64 t] 2)
  obtain ⟨v', w', ra, ro, rg, _, rat⟩ := run_append_own_at (P := Try.prog) (w.alloc (.cells #[.int .i64 t] 2)) (h + 3) 44 44 2 i0 _ 1 8 Try.underlying44 hi hz0 hz1 hz2 rfl (by decide) vw ws.length (ws.map (Value.int .i64)) (World.ownsRow.alloc i.1 _) ⟨w.heap.size, 0, none⟩ 1 1 [.int .i64 t] rfl
    (fun j u hj => by rw [addP, Lib.cell_of_heap hv, Nat.zero_add]; simpa using hj) (fun u hu => by simp at hu; subst hu; rfl) (by unfold maxLen; omega) (by omega) (by simp; omega)
  have hf : ∃ a' c', v' = .slice a' (ws.length + 1) c' := by
    rcases ro.2 with ⟨e1, e2⟩ | ⟨g', cap', cur', e1, r⟩
    · omega
    · exact ⟨_, cap', e1⟩
  obtain ⟨a', c', rfl⟩ := hf
  refine ⟨a', c', w', ra, ⟨by simpa using ro, fun g hg hx => ?_⟩, World.grownBy.trans (World.grownBy_alloc w _ _) rg, rat.imp (fun x => x) (fun x => ⟨_, x, by simp⟩)⟩
  rcases rat with e | e
  · rw [e] at hg; exact i.2 g hg hx
  · rw [e] at hg
    have := hS g hx
    simp at hg
    omega
end Go.Proofs.Ytdoghnpmbpomcaa
