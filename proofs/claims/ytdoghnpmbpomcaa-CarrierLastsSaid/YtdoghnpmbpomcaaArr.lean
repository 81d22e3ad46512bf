/- (*Carrier).Arrive. -/
import Derived.Test.YtdoghnpmbpomcaaArrP
namespace Go.Proofs.Ytdoghnpmbpomcaa
open Go.RowKit Go.Maps

theorem Car.slot {h N : Nat} {S : Nat → Prop} {us : List Ltr} {G : ByteArray → List Ltr} {C : Nat → Nat} {w : World} (c : Car h S N us G C w) :
    ∃ a cap, w.heap[h + 1 + 1]? = some (.cells #[.slice a us.length cap, .map (some h), .map (some (h + 1))] 62 (0, 0)) ∧
      (∀ j, j < us.length → ∃ g l, a = some ⟨g, 0, none⟩ ∧ us[j]? = some l ∧ lastTm us j = l.tm ∧ w.cell? ⟨g, j * 4, none⟩ = some (.int .u64 l.id) ∧ w.cell? ⟨g, j * 4 + 1, none⟩ = some (.string l.dest) ∧ w.cell? ⟨g, j * 4 + 2, none⟩ = some (.string l.body) ∧ w.cell? ⟨g, j * 4 + 3, none⟩ = some (.int .i64 l.tm)) := by
  obtain ⟨vu, F, D, Dc, h1, h2, h3, h4, h5, h6, h7, h8, h9, h10, h11, h12⟩ := c
  rcases h2.2 with ⟨e1, e2⟩ | ⟨g, cap, cur, e1, r⟩
  · subst e1
    exact ⟨none, 0, by rw [e2]; exact h1, fun j hj => by omega⟩
  · subst e1
    refine ⟨some ⟨g, 0, none⟩, cap, h1, fun j hj => ⟨g, us[j], rfl, List.getElem?_eq_getElem hj, by simp [lastTm, List.getElem?_eq_getElem hj], ?_⟩⟩
    have hg1 : us[j]? = some us[j] := List.getElem?_eq_getElem hj
    have e : ∀ i u, i < 4 → us[j].cells[i]? = some u → w.cell? ⟨g, j * 4 + i, none⟩ = some u := fun i u hi hu => by
      have e1 := World.ownsRow.cells h2 (g := g) rfl (j * 4 + i) u (by rw [flat_at j i us us[j] hg1 hi]; exact hu)
      rwa [addP, Nat.zero_add] at e1
    exact ⟨e 0 _ (by omega) rfl, e 1 _ (by omega) rfl, e 2 _ (by omega) rfl, e 3 _ (by omega) rfl⟩

theorem Car.rows {h N : Nat} {S : Nat → Prop} {us : List Ltr} {G : ByteArray → List Ltr} {C : Nat → Nat} {w : World} (c : Car h S N us G C w) : ∀ k, S k → h + 3 ≤ k ∧ k < w.heap.size := by
  obtain ⟨vu, F, D, Dc, h1, h2, h3, h4, h5, h6, h7, h8, h9, h10, h11, h12⟩ := c
  exact h12

theorem Car.del {h N : Nat} {S : Nat → Prop} {us : List Ltr} {G : ByteArray → List Ltr} {C : Nat → Nat} {w : World} (c : Car h S N us G C w) (k : Nat) (hk : k ≤ us.length) (bc : Nat) (x : Value) (t : TypeId) (hbc : w.heap[bc]? = some (.cells #[x] t (0, 0))) (hbS : ¬ S bc) :
    ∃ a cap, w.cell? ⟨h + 1 + 1, 0, none⟩ = some (.slice a us.length cap) ∧ Calls Try.prog 27 #[.slice a us.length cap, .int .i64 0, .int .i64 k] w.drew fun e w2 =>
      ∃ a' c', e = .returned (.slice a' (us.length - k) c') ∧ w2.cell? ⟨h + 1 + 1, 0, none⟩ = some (.slice a us.length cap) ∧ w2.frozen? ⟨h + 1 + 1, 0, none⟩ = false ∧ w2.cell? ⟨bc, 0, none⟩ = some x ∧
        Car h S N (us.drop k) G C (w2.setCell ⟨h + 1 + 1, 0, none⟩ (.slice a' (us.length - k) c')) ∧ Turn h S S w (w2.setCell ⟨h + 1 + 1, 0, none⟩ (.slice a' (us.length - k) c')) := by
  obtain ⟨vu, F, D, Dc, h1, h2, h3, h4, h5, h6, h7, h8, h9, h10, h11, h12⟩ := c
  have hf : ∃ a c, vu = .slice a us.length c := by
    rcases h2.2 with ⟨e1, e2⟩ | ⟨g, cap, cur, e1, r⟩
    · exact ⟨none, 0, by rw [e1, e2]⟩
    · exact ⟨_, cap, e1⟩
  obtain ⟨a, cap, rfl⟩ := hf
  have bu : ∀ g, (Value.slice a us.length cap).ownBlock = some g → h + 3 ≤ g ∧ g < w.heap.size := fun g hg => World.ownsRow.lt h2 g hg
  have hlt : h + 1 + 1 < w.heap.size := (Array.getElem?_eq_some_iff.1 h1).1
  refine ⟨a, cap, (three_cells h1).1, ?_⟩
  refine (delete_any (w := w.drew) (World.ownsRow.drew h2) k hk).mono ?_
  rintro e w2 ⟨v', rfl, o2, g2', at2, a', c', rfl⟩
  have g2 : w.grownBy w2 (Value.slice a us.length cap).ownBlock := ⟨g2'.os, g2'.tape, g2'.output, g2'.size, g2'.block⟩
  have st2 : w2.heap[h + 1 + 1]? = some (.cells #[.slice a us.length cap, .map (some h), .map (some (h + 1))] 62 (0, 0)) := (g2.block _ hlt (fun e => by have := (bu _ e.symm).1; omega)).trans h1
  have q := three_cells st2
  have qb : w2.heap[bc]? = some (.cells #[x] t (0, 0)) := (g2.block _ (Array.getElem?_eq_some_iff.1 hbc).1 (fun e => hbS (h6 _ e.symm))).trans hbc
  obtain ⟨f1, f2⟩ := field_fin h1 h2 h3 h4 h5 h6 h7 h8 h9 h10 h11 h12 o2 at2 g2
  exact ⟨a', c', rfl, q.1, q.2.2.2, by rw [Lib.cell_of_heap qb]; rfl, f1, f2⟩

set_option maxHeartbeats 8000000 in
set_option maxRecDepth 100000 in
theorem arrive_any {h N : Nat} {S : Nat → Prop} {us : List Ltr} {G : ByteArray → List Ltr} {C : Nat → Nat} (now : Int) (k : Nat) (w : World) (c : Car h S N us G C w)
    (hk : k ≤ us.length) (hk1 : ∀ j, j < k → lastTm us j ≤ now) (hk2 : k < us.length → now < lastTm us k)
    (hN : N + us.length ≤ 1000000) (hG : ∀ s, (G s).length + us.length ≤ 1000000) (hd : ∀ l ∈ us, l.dest.size ≤ maxLen) :
    Calls Try.prog 12 #[.pointer (some ⟨h + 1 + 1, 0, none⟩), .int .i64 now] w fun e w' =>
      e = .returned (.int .i64 k) ∧ ∃ S', Car h S' (N + k) (us.drop k) (landed G (us.take k)) C w' ∧ Turn h S S' w w' := by
  have hmf : ∀ (fn : Fn) (first cap : Array Value) (w : World), (Instr.makeFunc fn first cap).run Try.prog w = .ok (.func fn first cap) w := fun _ _ _ _ => rfl
  have hsz := c.size
  have hS := c.rows
  generalize hw1 : w.alloc (.cells #[.pointer (some ⟨h + 1 + 1, 0, none⟩)] 24) = w1
  have c1 : Car h S N us G C w1 := by rw [← hw1]; exact c.keeps (World.grownBy_alloc w _ none) (by simp)
  have t1 : Turn h S S w w1 := by rw [← hw1]; exact ⟨rfl, rfl, rfl, by simp, fun k hk _ _ => Lib.alloc_old w _ k hk, fun _ hk => .inl hk⟩
  have b1 : w1.heap[w.heap.size]? = some (.cells #[.pointer (some ⟨h + 1 + 1, 0, none⟩)] 24 (0, 0)) := by rw [← hw1]; exact heap_push1 w _
  have hc0 : w1.cell? ⟨w.heap.size, 0, none⟩ = some (.pointer (some ⟨h + 1 + 1, 0, none⟩)) := by rw [Lib.cell_of_heap b1]; rfl
  clear c
  subst hw1
  go_enter Try.func12, Try.ntmps12
  go_upto_block 0 with fail
  go_cut [5] (fun s5 wx => s5 = .int .i64 k ∧ ∃ S', Car h S' (N + k) us (landed G (us.take k)) C wx ∧ Turn h S S' (w.alloc (.cells #[.pointer (some ⟨h + 1 + 1, 0, none⟩)] 24)) wx)
  case first =>
    go_wp2_with fail
    go_loopw [5] (fun i wr => ∃ n : Nat, n ≤ k ∧ i = .int .i64 n ∧ ∃ S', Car h S' (N + n) us (landed G (us.take n)) C wr ∧ Turn h S S' (w.alloc (.cells #[.pointer (some ⟨h + 1 + 1, 0, none⟩)] 24)) wr) (fun i _ => k - (intOf i).toNat)
    case atStart => exact ⟨0, Nat.zero_le _, rfl, S, c1, Turn.refl _ _ _⟩
    case round =>
      obtain ⟨n, hn, rfl, S', cn, tn⟩ := hrel
      have bnS : ¬ S' w.heap.size := fun hs => by
        rcases tn.row _ hs with x | x
        · have := (hS _ x).2; omega
        · exact absurd x (by simp)
      have bn : wr.heap[w.heap.size]? = some (.cells #[.pointer (some ⟨h + 1 + 1, 0, none⟩)] 24 (0, 0)) := (tn.block _ (by simp) (by omega) (fun hs => by have := (hS _ hs).2; omega)).trans b1
      have hcn : wr.cell? ⟨w.heap.size, 0, none⟩ = some (.pointer (some ⟨h + 1 + 1, 0, none⟩)) := by rw [Lib.cell_of_heap bn]; rfl
      obtain ⟨a, cap, st, cells⟩ := cn.slot
      have x0 := (three_cells st).1
      by_cases hA : n < k
      · obtain ⟨g, l, rfl, hl, ht, y0, y1, y2, y3⟩ := cells n (by omega)
        have hle : l.tm ≤ now := by rw [← ht]; exact hk1 n hA
        have hn1 : (n : Int) < us.length := by omega
        have hmem : l ∈ us := List.mem_of_getElem? hl
        have LA := Lib.hid (lay_any l w.heap.size wr cn bn bnS (by omega) (by omega) (by have := landed_len l.dest (us.take n) G; have := hG l.dest; simp at *; omega) (hd l hmem))
        clear cells b1 hc0 c1
        go_wp2_with (go_at_call 26; (with_reducible refine (LA.out).mono ?_); rintro e w' ⟨rfl, S2, c2, t2⟩)
        go_roundw
        case rel =>
          refine ⟨n + 1, by omega, by go_num, S2, ?_, tn.trans t2⟩
          rw [List.take_add_one, hl]
          simp only [Option.toList]
          rw [landed_snoc]
          exact c2
        case measure => simp [intOf]; omega
      · have hnk : n = k := by omega
        subst hnk
        by_cases hB : n = us.length
        · have hn1 : ¬ ((n : Int) < us.length) := by omega
          clear cells b1 hc0 c1
          go_wp2_with fail
          go_meet
          case rel => exact ⟨by rw [← hB], S', cn, tn⟩
        · obtain ⟨g, l, rfl, hl, ht, y0, y1, y2, y3⟩ := cells n (by omega)
          have hle : ¬ l.tm ≤ now := by have := hk2 (by omega); rw [ht] at this; omega
          have hn1 : (n : Int) < us.length := by omega
          clear cells b1 hc0 c1
          go_wp2_with fail
          go_meet
          case rel => exact ⟨rfl, S', cn, tn⟩
  case rest =>
    obtain ⟨rfl, S', cn, tn⟩ := hcut
    have bnS : ¬ S' w.heap.size := fun hs => by
      rcases tn.row _ hs with x | x
      · have := (hS _ x).2; omega
      · exact absurd x (by simp)
    have bn : wc.heap[w.heap.size]? = some (.cells #[.pointer (some ⟨h + 1 + 1, 0, none⟩)] 24 (0, 0)) := (tn.block _ (by simp) (by omega) (fun hs => by have := (hS _ hs).2; omega)).trans b1
    have hcn : wc.cell? ⟨w.heap.size, 0, none⟩ = some (.pointer (some ⟨h + 1 + 1, 0, none⟩)) := by rw [Lib.cell_of_heap bn]; rfl
    obtain ⟨a, cap, x0, hdel⟩ := cn.del k hk w.heap.size _ _ bn bnS
    have DE := Lib.hid hdel
    clear hdel b1 hc0 c1
    go_wp2_with fail
    go_region_with (go_at_call 27; (with_reducible refine (DE.out).mono ?_); rintro e w2 ⟨a', c', rfl, d0, df, db, hcar, hturn⟩)
    all_goals
      go_wp2_with fail
      go_ret
      exact ⟨rfl, S', hcar, (t1.trans tn).trans hturn⟩
end Go.Proofs.Ytdoghnpmbpomcaa
