/- PeopleChecks: one person, one session turned: what the law's own row holds between two stores. -/
import Derived.Test.YtkihleecjgoipaaGreatDoorChkF
import Derived.Test.YtkihleecjgoipaaGreatDoorMg11
import Derived.Test.YtkihleecjgoipaaGreatDoorStaP
section
namespace Go.Proofs.YtkihleecjgoipaaGreatDoor
open Go.RowKit Go.Maps Go.Proofs.YtkihleecjgoipaaGreatDoor.Rw

/-- A whole row, appended to an empty new one. -/
theorem Ses.onto {w : World} {B B0 q : Nat} {v : Value} {ls : List Ses.R} (h : Ses.owns w B0 v ls) (hq : w.heap[q]? = some (.cells #[] 37)) (hB : B ≤ q) (lim : ls.length ≤ 1000000) (ty : TypeId) :
    ∃ a' c' w', (Builtin.append_ #[23, 23] ty #[.slice (some ⟨q, 0, none⟩) 0 0, v]).run Tryz.prog w = .ok (.slice a' ls.length c') w' ∧ Ses.owns w' B (.slice a' ls.length c') ls ∧ w.grownBy w' (some q) := by
  have hlt : q < w.heap.size := heap_lt hq
  have hmade : w.ownsRow B 37 3 (.slice (some ⟨q, 0, none⟩) 0 0) 0 [] := ⟨rfl, .inr ⟨q, 0, #[], rfl, hB, hq, Nat.le_refl _, Nat.zero_le _, rfl, rfl⟩⟩
  obtain ⟨i0, hi, hz0, hz1, hz2⟩ := info_parts Ses.info
  rcases h.2 with ⟨e1, e2⟩ | ⟨g, cap, cur, e1, _⟩
  · subst e1
    have hls : ls = [] := List.eq_nil_of_length_eq_zero e2
    subst hls
    refine ⟨some ⟨q, 0, none⟩, 0, w, ?_, hmade, ⟨rfl, rfl, rfl, Nat.le_refl _, fun _ _ _ => rfl⟩⟩
    have hu := Tryz.underlying23
    simp [Builtin.append_, run_underlying hu, sizeOf, typeInfo, hi, Builtin.lenOf, Builtin.firstCells, storeCells]
  · subst e1
    obtain ⟨v', w', ra, ro, rg, _, rat⟩ := run_append_own_at (P := Tryz.prog) w B 23 ty 37 i0 _ 3 32 Tryz.underlying23 hi hz0 hz1 hz2 rfl (by decide) (.slice (some ⟨q, 0, none⟩) 0 0) 0 [] hmade ⟨g, 0, none⟩ ls.length cap (Ses.flat ls) (Ses.flat_len ls) (World.ownsRow.cells h (g := g) rfl) (Ses.flat_one ls) (by unfold maxLen; omega) (by omega) (by omega)
    have ho : Ses.owns w' B v' ls := by
      unfold Ses.owns
      simpa using ro
    obtain ⟨a', c', rfl, _⟩ := ho.form
    exact ⟨a', c', w', ra, ho, rg⟩
/-- Behind the copy: the box at B + 1 holds the new row. -/
structure QSPer (w4 : World) (B : Nat) (vp : Obj) (s : Value) (g c : Nat) (L : List Per.R) (wx : World) : Prop where
  bel : Below B w4 wx
  size : B + 2 ≤ wx.heap.size
  own : wx.heap[B]? = some vp
  box : wx.heap[B + 1]? = some (pobj (.slice (some ⟨g, 0, none⟩) L.length c) s)
  row : Per.owns wx (B + 2) (.slice (some ⟨g, 0, none⟩) L.length c) L
theorem QSPer.drew {w4 : World} {B : Nat} {vp : Obj} {s : Value} {g c : Nat} {L : List Per.R} {wx : World} (h : QSPer w4 B vp s g c L wx) : QSPer w4 B vp s g c L wx.drew := ⟨below_drew h.bel, h.size, h.own, h.box, h.row⟩
theorem QSPer.drewN {w4 : World} {B : Nat} {vp : Obj} {s : Value} {g c : Nat} {L : List Per.R} {wx : World} (h : QSPer w4 B vp s g c L wx) (n : Nat) : QSPer w4 B vp s g c L (wx.drewN n) := ⟨below_drewN h.bel n, h.size, h.own, h.box, h.row⟩
theorem QSPer.ge {w4 : World} {B : Nat} {vp : Obj} {s : Value} {g c : Nat} {L : List Per.R} {wx : World} (h : QSPer w4 B vp s g c L wx) : B + 2 ≤ g := (World.ownsRow.lt h.row g rfl).1
theorem QSPer.put {w4 : World} {B : Nat} {vp : Obj} {s : Value} {g c : Nat} {L : List Per.R} {wx : World} (h : QSPer w4 B vp s g c L wx) (i k : Nat) (hi : i < L.length) (hk : k < 13) (v : Value) (y : Per.R) (hy : y.cells = (L[i]?.getD Per.zero).cells.set k v) :
    QSPer w4 B vp s g c (L.set i y) (wx.setCell ⟨g, i * 13 + k, none⟩ v) := by
  have hg := h.ge
  have o := h.row.put1 i k hi hk v y hy
  refine ⟨h.bel.setCell (by show B ≤ g; omega) _, by simpa using h.size, (heap_setCell_other _ _ _ _ (by show B ≠ g; omega)).trans h.own, ?_, ?_⟩
  · rw [List.length_set]; exact (heap_setCell_other _ _ _ _ (by show B + 1 ≠ g; omega)).trans h.box
  · rw [List.length_set]; exact o
/-- Behind the copy: the box at B + 1 holds the new row. -/
structure QSSes (w4 : World) (B : Nat) (vp : Obj) (s : Value) (g c : Nat) (L : List Ses.R) (wx : World) : Prop where
  bel : Below B w4 wx
  size : B + 2 ≤ wx.heap.size
  own : wx.heap[B]? = some vp
  box : wx.heap[B + 1]? = some (pobj s (.slice (some ⟨g, 0, none⟩) L.length c))
  row : Ses.owns wx (B + 2) (.slice (some ⟨g, 0, none⟩) L.length c) L
theorem QSSes.drew {w4 : World} {B : Nat} {vp : Obj} {s : Value} {g c : Nat} {L : List Ses.R} {wx : World} (h : QSSes w4 B vp s g c L wx) : QSSes w4 B vp s g c L wx.drew := ⟨below_drew h.bel, h.size, h.own, h.box, h.row⟩
theorem QSSes.drewN {w4 : World} {B : Nat} {vp : Obj} {s : Value} {g c : Nat} {L : List Ses.R} {wx : World} (h : QSSes w4 B vp s g c L wx) (n : Nat) : QSSes w4 B vp s g c L (wx.drewN n) := ⟨below_drewN h.bel n, h.size, h.own, h.box, h.row⟩
theorem QSSes.ge {w4 : World} {B : Nat} {vp : Obj} {s : Value} {g c : Nat} {L : List Ses.R} {wx : World} (h : QSSes w4 B vp s g c L wx) : B + 2 ≤ g := (World.ownsRow.lt h.row g rfl).1
theorem QSSes.put {w4 : World} {B : Nat} {vp : Obj} {s : Value} {g c : Nat} {L : List Ses.R} {wx : World} (h : QSSes w4 B vp s g c L wx) (i k : Nat) (hi : i < L.length) (hk : k < 3) (v : Value) (y : Ses.R) (hy : y.cells = (L[i]?.getD Ses.zero).cells.set k v) :
    QSSes w4 B vp s g c (L.set i y) (wx.setCell ⟨g, i * 3 + k, none⟩ v) := by
  have hg := h.ge
  have o := h.row.put1 i k hi hk v y hy
  refine ⟨h.bel.setCell (by show B ≤ g; omega) _, by simpa using h.size, (heap_setCell_other _ _ _ _ (by show B ≠ g; omega)).trans h.own, ?_, ?_⟩
  · rw [List.length_set]; exact (heap_setCell_other _ _ _ _ (by show B + 1 ≠ g; omega)).trans h.box
  · rw [List.length_set]; exact o
theorem sml_all {p : Ppl} (h : PC p) : ∀ y ∈ p.ps, Sml y := fun y hy => by
  obtain ⟨h1, h2⟩ := h.sz y hy
  exact ⟨by omega, fun c hc => by have := h2 c hc; omega⟩
theorem sml_at {p : Ppl} (h : PC p) {k : Nat} (hk : k < p.ps.length) : Sml (p.ps[k]?.getD Per.zero) := by
  rw [List.getElem?_eq_getElem hk]
  exact sml_all h _ (List.getElem_mem hk)
theorem sml_set {L : List Per.R} (h : ∀ y ∈ L, Sml y) (k : Nat) {y : Per.R} (hy : Sml y) : ∀ z ∈ L.set k y, Sml z := fun z hz => by
  rcases List.mem_or_eq_of_mem_set hz with e | e
  · exact h z e
  · rw [e]; exact hy
theorem sml_put {y : Per.R} (h : Sml y) (j : Nat) (hj : j < 5) {t : ByteArray} (ht : t.size ≤ 50) : Sml (putC y j t) := by
  refine ⟨by rw [(putCF_cs y j hj t).1]; exact h.1, fun c hc => ?_⟩
  rw [putC_cs y hj t] at hc
  rcases List.mem_or_eq_of_mem_set hc with e | e
  · exact h.2 c e
  · rw [e]; omega
/-- A store into a block of another type leaves the persons' row. -/
theorem per_set {w : World} {B b : Nat} {v : Value} {L : List Per.R} {cs : Array Value} {T : TypeId} (h : Per.owns w B v L) (hb : w.heap[b]? = some (.cells cs T)) (ne : T ≠ 34) (k : Nat) (x : Value) : Per.owns (w.setCell ⟨b, k, none⟩ x) B v L := by
  refine World.ownsRow.kept h (grown_set w b k x) ?_
  rcases h.2 with ⟨e1, _⟩ | ⟨g, cap, cur, e1, r1, r2, _⟩
  · rw [e1]; exact .inl rfl
  · rw [e1]
    refine .inr (fun e => ?_)
    obtain rfl : g = b := by simpa [Value.ownBlock] using e
    rw [hb] at r2
    simp at r2
    exact ne r2.2
theorem row_block {w : World} {B g c n : Nat} {L : List Ses.R} (h : Ses.owns w B (.slice (some ⟨g, 0, none⟩) n c) L) : ∃ cs, w.heap[g]? = some (.cells cs 37) := by
  rcases h.2 with ⟨e1, _⟩ | ⟨g', cap, cur, e1, r1, r2, _⟩
  · simp at e1
  · obtain ⟨rfl, _⟩ : g = g' ∧ True := by simp at e1; exact ⟨e1.1, trivial⟩
    exact ⟨_, r2⟩
end Go.Proofs.YtkihleecjgoipaaGreatDoor
end
/- Whether people may be, place by place: what the reference's loops say. -/
section
namespace Go.Proofs.YtkihleecjgoipaaGreatDoor
open Go.RowKit Go.Maps Go.Proofs.YtkihleecjgoipaaGreatDoor.Rw

/-- May the contact stand in its place? -/
def C16 (x : Per.R) (i : Nat) : Prop := x.cs.getD i ⟨#[]⟩ ≠ ⟨#[]⟩ → onesB (x.cs.getD i ⟨#[]⟩) = true ∧ x.cs.getD i ⟨#[]⟩ ≠ x.mail ∧ (0 < i → x.cs.getD (i - 1) ⟨#[]⟩ ≠ ⟨#[]⟩) ∧ ∀ k, k < i → x.cs.getD k ⟨#[]⟩ ≠ x.cs.getD i ⟨#[]⟩
theorem getD_cs {l : List ByteArray} {i : Nat} (h : i < l.length) : l.getD i ⟨#[]⟩ = l[i] := by
  rw [List.getD_eq_getElem?_getD, List.getElem?_eq_getElem h]
  rfl
theorem contB_iff16 (x : Per.R) : contB x = true ↔ ∀ i, i < 5 → C16 x i := by
  have hlen : x.cs.length = 5 := rfl
  rw [contB_iff]
  constructor
  · rintro ⟨u, n, h1, h2, h3⟩ i hi hne
    have hl : u.length + n = 5 := by
      rw [h1, List.length_append, List.length_replicate] at hlen
      exact hlen
    have hu : ∀ j, j < u.length → x.cs.getD j ⟨#[]⟩ = u.getD j ⟨#[]⟩ := fun j hj => by
      rw [List.getD_eq_getElem?_getD, List.getD_eq_getElem?_getD, h1, List.getElem?_append_left hj]
    have hiu : i < u.length := by
      rcases Nat.lt_or_ge i u.length with q | q
      · exact q
      · refine absurd ?_ hne
        rw [List.getD_eq_getElem?_getD, h1, List.getElem?_append_right q, List.getElem?_replicate, if_pos (by omega)]
        rfl
    rw [hu i hiu, getD_cs hiu]
    have hm := h2 _ (List.getElem_mem hiu)
    refine ⟨hm.2.1, hm.2.2, fun h0 => ?_, fun k hk => ?_⟩
    · rw [hu (i - 1) (by omega), getD_cs (by omega)]
      exact (h2 _ (List.getElem_mem _)).1
    · rw [hu k (by omega), getD_cs (by omega)]
      exact List.pairwise_iff_getElem.1 h3 k i (by omega) hiu hk
  · intro h
    have hg : gap x ≤ 5 := by
      have := List.findIdx_le_length (p := fun c => decide (c = (⟨#[]⟩ : ByteArray))) (xs := x.cs)
      unfold gap
      omega
    have hpre : ∀ j, j < gap x → x.cs.getD j ⟨#[]⟩ ≠ ⟨#[]⟩ := fun j hj => by
      have h5 : j < x.cs.length := by omega
      have := List.not_of_lt_findIdx hj
      rw [getD_cs h5]
      simpa using this
    have hat : gap x < 5 → x.cs.getD (gap x) ⟨#[]⟩ = ⟨#[]⟩ := fun h5 => by
      have hlt : gap x < x.cs.length := h5
      have := List.findIdx_getElem (w := hlt)
      rw [getD_cs hlt]
      exact of_decide_eq_true this
    have hrest : ∀ d, gap x + d < 5 → x.cs.getD (gap x + d) ⟨#[]⟩ = ⟨#[]⟩ := fun d => by
      induction d with
      | zero => exact hat
      | succ d ih =>
        intro hd
        cases Classical.em (x.cs.getD (gap x + (d + 1)) ⟨#[]⟩ = ⟨#[]⟩) with
        | inl q => exact q
        | inr q => exact absurd (ih (by omega)) ((h _ hd q).2.2.1 (by omega))
    refine ⟨x.cs.take (gap x), 5 - gap x, ?_, fun c hc => ?_, ?_⟩
    · refine List.ext_getElem (by rw [List.length_append, List.length_take, List.length_replicate, hlen]; omega) (fun j h1 h2 => ?_)
      rcases Nat.lt_or_ge j (gap x) with q | q
      · rw [List.getElem_append_left (by rw [List.length_take, hlen]; omega), List.getElem_take]
      · rw [List.getElem_append_right (by rw [List.length_take, hlen]; omega), List.getElem_replicate, ← getD_cs h1]
        have := hrest (j - gap x) (by omega)
        rwa [show gap x + (j - gap x) = j by omega] at this
    · obtain ⟨j, hj, rfl⟩ := List.mem_iff_getElem.1 hc
      rw [List.length_take, hlen] at hj
      rw [List.getElem_take, ← getD_cs (show j < x.cs.length by omega)]
      have hn := hpre j (by omega)
      have := h j (by omega) hn
      exact ⟨hn, this.1, this.2.1⟩
    · refine List.pairwise_iff_getElem.2 (fun i j hi hj hij => ?_)
      rw [List.length_take, hlen] at hi hj
      rw [List.getElem_take, List.getElem_take, ← getD_cs (show i < x.cs.length by omega), ← getD_cs (show j < x.cs.length by omega)]
      exact (h j (by omega) (hpre j (by omega))).2.2.2 i hij
/-- May the person stand in its place? -/
def P16 (L : List Per.R) (i : Nat) : Prop := ∀ h : i < L.length, perB L[i] = true ∧ (∀ h0 : 0 < i, L[i - 1].id < L[i].id) ∧ ∀ k (hk : k < i), L[k].mail ≠ L[i].mail
theorem pgo_iff : ∀ (L : List Per.R) (last : Int) (s : List ByteArray), pgo L last s = true ↔ ∀ i (h : i < L.length), perB L[i] = true ∧ (i = 0 → last < L[i].id) ∧ (∀ h0 : 0 < i, L[i - 1].id < L[i].id) ∧ L[i].mail ∉ s ∧ ∀ k (hk : k < i), L[k].mail ≠ L[i].mail
  | [], last, s => ⟨fun _ i h => (Nat.not_lt_zero i h).elim, fun _ => rfl⟩
  | x :: L, last, s => by
    unfold pgo
    simp only [Bool.and_eq_true, Bool.not_eq_true', decide_eq_false_iff_not]
    have hin : ∀ m : ByteArray, inB m s = false ↔ m ∉ s := fun m => by
      rw [← inB_iff]
      simp
    rw [pgo_iff L]
    constructor
    · rintro ⟨⟨⟨h1, h2⟩, h3⟩, h4⟩ i hi
      cases i with
      | zero => exact ⟨h1, fun _ => by simp; omega, fun h0 => (Nat.lt_irrefl 0 h0).elim, (hin _).1 h3, fun k hk => (Nat.not_lt_zero k hk).elim⟩
      | succ i =>
        obtain ⟨a1, a2, a3, a4, a5⟩ := h4 i (by simpa using hi)
        simp only [List.getElem_cons_succ]
        refine ⟨a1, fun h => by omega, fun h0 => ?_, fun q => a4 (List.mem_cons_of_mem _ q), fun k hk => ?_⟩
        · cases i with
          | zero => simpa using a2 rfl
          | succ i => simpa using a3 (by omega)
        · cases k with
          | zero =>
            intro q
            rw [List.getElem_cons_zero] at q
            exact a4 (List.mem_cons.2 (.inl q.symm))
          | succ k => simpa using a5 k (by omega)
    · intro h
      obtain ⟨b1, b2, _, b4, _⟩ := h 0 (by simp)
      simp only [List.getElem_cons_zero] at b1 b2 b4
      refine ⟨⟨⟨b1, by have := b2 trivial; omega⟩, (hin _).2 b4⟩, fun i hi => ?_⟩
      obtain ⟨a1, _, a3, a4, a5⟩ := h (i + 1) (by simpa using hi)
      simp only [List.getElem_cons_succ] at a1 a3 a4 a5
      refine ⟨a1, fun h0 => ?_, fun h0 => ?_, fun q => ?_, fun k hk => ?_⟩
      · subst h0
        simpa using a3 (by omega)
      · have := a3 (by omega)
        obtain ⟨j, rfl⟩ : ∃ j, i = j + 1 := ⟨i - 1, by omega⟩
        simpa using this
      · rcases List.mem_cons.1 q with q | q
        · have := a5 0 (by omega)
          simp only [List.getElem_cons_zero] at this
          exact this q.symm
        · exact a4 q
      · have := a5 (k + 1) (by omega)
        simpa using this
theorem pgo_iff16 (L : List Per.R) : pgo L 0 [] = true ↔ ∀ i, P16 L i := by
  rw [pgo_iff]
  constructor
  · intro h i hi
    obtain ⟨a1, _, a3, _, a5⟩ := h i hi
    exact ⟨a1, a3, a5⟩
  · intro h i hi
    obtain ⟨a1, a3, a5⟩ := h i hi
    refine ⟨a1, fun _ => ?_, a3, by simp, a5⟩
    unfold perB at a1
    simp only [Bool.and_eq_true, decide_eq_true_eq] at a1
    omega
/-- May the session stand in its place? -/
def S16 (p : Ppl) (i : Nat) : Prop := ∀ h : i < p.ss.length, sesB p p.ss[i] = true ∧ ∀ k (hk : k < i), p.ss[k].dig ≠ p.ss[i].dig
theorem sgo_iff (p : Ppl) : ∀ (L : List Ses.R) (s : List ByteArray), sgo p L s = true ↔ ∀ i (h : i < L.length), sesB p L[i] = true ∧ L[i].dig ∉ s ∧ ∀ k (hk : k < i), L[k].dig ≠ L[i].dig
  | [], s => ⟨fun _ i h => (Nat.not_lt_zero i h).elim, fun _ => rfl⟩
  | x :: L, s => by
    unfold sgo
    simp only [Bool.and_eq_true, Bool.not_eq_true']
    have hin : ∀ m : ByteArray, inB m s = false ↔ m ∉ s := fun m => by
      rw [← inB_iff]
      simp
    rw [sgo_iff p L]
    constructor
    · rintro ⟨⟨h1, h3⟩, h4⟩ i hi
      cases i with
      | zero => exact ⟨h1, (hin _).1 h3, fun k hk => (Nat.not_lt_zero k hk).elim⟩
      | succ i =>
        obtain ⟨a1, a4, a5⟩ := h4 i (by simpa using hi)
        simp only [List.getElem_cons_succ]
        refine ⟨a1, fun q => a4 (List.mem_cons_of_mem _ q), fun k hk => ?_⟩
        cases k with
        | zero =>
          intro q
          rw [List.getElem_cons_zero] at q
          exact a4 (List.mem_cons.2 (.inl q.symm))
        | succ k => simpa using a5 k (by omega)
    · intro h
      obtain ⟨b1, b4, _⟩ := h 0 (by simp)
      simp only [List.getElem_cons_zero] at b1 b4
      refine ⟨⟨b1, (hin _).2 b4⟩, fun i hi => ?_⟩
      obtain ⟨a1, a4, a5⟩ := h (i + 1) (by simpa using hi)
      simp only [List.getElem_cons_succ] at a1 a4 a5
      refine ⟨a1, fun q => ?_, fun k hk => ?_⟩
      · rcases List.mem_cons.1 q with q | q
        · have := a5 0 (by omega)
          simp only [List.getElem_cons_zero] at this
          exact this q.symm
        · exact a4 q
      · have := a5 (k + 1) (by omega)
        simpa using this
theorem sgo_iff16 (p : Ppl) : sgo p p.ss [] = true ↔ ∀ i, S16 p i := by
  rw [sgo_iff]
  exact ⟨fun h i hi => ⟨(h i hi).1, (h i hi).2.2⟩, fun h i hi => ⟨(h i hi).1, by simp, (h i hi).2⟩⟩
end Go.Proofs.YtkihleecjgoipaaGreatDoor
end
