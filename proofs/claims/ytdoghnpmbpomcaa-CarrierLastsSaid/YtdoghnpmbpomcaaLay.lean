/- (*Carrier).Arrive's closure: a letter lands in its box. -/
import Derived.Test.YtdoghnpmbpomcaaLayP
import Derived.Test.YtdoghnpmbpomcaaSend
namespace Go.Proofs.Ytdoghnpmbpomcaa
open Go.RowKit Go.Maps

def LayS (bc h b : Nat) (l : Ltr) (w : World) : Prop := w.cell? ⟨bc, 0, none⟩ = some (.pointer (some ⟨h + 1 + 1, 0, none⟩)) ∧ w.cell? ⟨h + 1 + 1, 1, none⟩ = some (.map (some h)) ∧
  w.cell? ⟨b, 0, none⟩ = some (.int .u64 l.id) ∧ w.cell? ⟨b, 1, none⟩ = some (.string l.dest) ∧ w.cell? ⟨b, 2, none⟩ = some (.string l.body) ∧ w.cell? ⟨b, 3, none⟩ = some (.int .i64 l.tm)
theorem layS_of {bc h b : Nat} {l : Ltr} {w : World} {y z : Value} {t t2 t3 : TypeId} (h1 : w.heap[bc]? = some (.cells #[.pointer (some ⟨h + 1 + 1, 0, none⟩)] t (0, 0))) (h2 : w.heap[h + 1 + 1]? = some (.cells #[y, .map (some h), z] t2 (0, 0))) (h3 : w.heap[b]? = some (.cells l.cells.toArray t3 (0, 0))) : LayS bc h b l w := by
  refine ⟨?_, ?_, ?_, ?_, ?_, ?_⟩
  · rw [Lib.cell_of_heap h1]; rfl
  · rw [Lib.cell_of_heap h2]; rfl
  all_goals (rw [Lib.cell_of_heap h3]; rfl)

set_option maxHeartbeats 4000000 in
set_option maxRecDepth 100000 in
theorem lay_any {h N : Nat} {S : Nat → Prop} {us : List Ltr} {G : ByteArray → List Ltr} {C : Nat → Nat} (l : Ltr) (bc : Nat) (w : World) (c : Car h S N us G C w)
    (hbc : w.heap[bc]? = some (.cells #[.pointer (some ⟨h + 1 + 1, 0, none⟩)] 24 (0, 0))) (hbS : ¬ S bc) (hbh : bc < h ∨ h + 3 ≤ bc) (hN : N ≤ 1000000) (hG : (G l.dest).length ≤ 1000000) (hd : l.dest.size ≤ maxLen) :
    Calls Try.prog 26 #[.agg #[.int .u64 l.id, .string l.dest, .string l.body, .int .i64 l.tm], .pointer (some ⟨bc, 0, none⟩)] w fun e w' =>
      e = .returned (.tuple #[]) ∧ ∃ S', Car h S' (N + 1) us (laid G l) C w' ∧ Turn h S S' w w' := by
  obtain ⟨vu, F, D, Dc, h1, h2, h3, h4, h5, h6, h7, h8, h9, h10, h11, h12⟩ := c
  have hlt : h + 1 + 1 < w.heap.size := (Array.getElem?_eq_some_iff.1 h1).1
  have hbl : bc < w.heap.size := (Array.getElem?_eq_some_iff.1 hbc).1
  obtain ⟨L1, L2, v', w3, w4, ra, ru, rg, g4, hfin⟩ := lay_fin l (.cells l.cells.toArray 40) h1 h2 h3 h4 h5 h6 h7 h8 h9 h10 h11 h12 hN hG hd
  have K0 : LayS bc h w.heap.size l (w.alloc (.cells l.cells.toArray 40)).drew := layS_of (heap_keep hbc _) (heap_keep h1 _) (heap_push1 w _)
  have K1 : LayS bc h w.heap.size l ((w.alloc (.cells l.cells.toArray 40)).alloc (.cells l.cells.toArray 40)).drew := layS_of (heap_keep (heap_keep hbc _) _) (heap_keep (heap_keep h1 _) _) (heap_keep (heap_push1 w _) _)
  have bF : ∀ g, (F l.dest).ownBlock = some g → h + 3 ≤ g ∧ g < w.heap.size ∧ S g := fun g hg => ⟨(World.ownsRow.lt (h3 l.dest) g hg).1, (World.ownsRow.lt (h3 l.dest) g hg).2, h7 _ g hg⟩
  have q1 : w3.heap[bc]? = some (.cells #[.pointer (some ⟨h + 1 + 1, 0, none⟩)] 24 (0, 0)) := by
    rw [rg.block bc (by simp; omega) (fun e => hbS (bF bc e.symm).2.2)]; exact heap_keep (heap_keep hbc _) _
  have q2 : w3.heap[h + 1 + 1]? = some (.cells #[vu, .map (some h), .map (some (h + 1))] 62 (0, 0)) := by
    rw [rg.block (h + 1 + 1) (by simp; omega) (fun e => by have := (bF _ e.symm).1; omega)]; exact heap_keep (heap_keep h1 _) _
  have q3 : w3.heap[w.heap.size]? = some (.cells l.cells.toArray 40 (0, 0)) := by
    rw [rg.block w.heap.size (by simp; omega) (fun e => by have := (bF _ e.symm).2.1; omega)]; exact heap_keep (heap_push1 w _) _
  have K3 : LayS bc h w.heap.size l w3 := layS_of q1 q2 q3
  have z3 : w.heap.size + 1 + 1 ≤ w3.heap.size := by have := rg.size; simp at this; omega
  have K4 : LayS bc h w.heap.size l w4 := layS_of ((g4.block bc (by omega) (by simp; omega)).trans q1) ((g4.block _ (by omega) (by simp; omega)).trans q2) ((g4.block _ (by omega) (by simp; omega)).trans q3)
  simp only [Ltr.cells] at L1 L2 ra K0 K1
  have RA := Lib.hid ra
  clear ra h1 h2 h3 h4 h5 h6 h7 h8 h9 h10 h11 h12 q1 q2 q3 rg g4 hbc bF
  go_enter Try.func26, Try.ntmps26
  go_wp2_with fail
  go_region_held3 (fun w' => w'.cell? ⟨bc, 0, none⟩ = some (.pointer (some ⟨h + 1 + 1, 0, none⟩)) ∧ w'.cell? ⟨h + 1 + 1, 1, none⟩ = some (.map (some h)) ∧
    w'.cell? ⟨w.heap.size, 0, none⟩ = some (.int .u64 l.id) ∧ w'.cell? ⟨w.heap.size, 1, none⟩ = some (.string l.dest) ∧ w'.cell? ⟨w.heap.size, 2, none⟩ = some (.string l.body) ∧ w'.cell? ⟨w.heap.size, 3, none⟩ = some (.int .i64 l.tm))
    (first
      | exact K0
      | exact K1
      | exact K3
      | exact K4
      | go_keep)
    (first
      | (refine step_append_run rfl (.tmp 15) (.tmp 17) 37 rfl _ _ _ ?h1 ?h2 _ RA.out ?_; (case h1 => simp [Act.eval]); (case h2 => simp [Act.eval])))
  all_goals
    go_wp2_with fail
    go_end0
    exact ⟨rfl, hfin⟩
end Go.Proofs.Ytdoghnpmbpomcaa
