/- OutboxKeeps: what holds of the row, of the attempts and of what is done; plain. -/
import Derived.Test.YtleobnfmbhobgaaDoorOrd14P
namespace Go.Proofs.YtleobnfmbhobgaaDoor
open Go.RowKit Go.Maps

def upd {α : Type} (f : Nat → α) (k : Nat) (x : α) : Nat → α := fun j => if j = k then x else f j
theorem upd_same {α : Type} (f : Nat → α) (k : Nat) (x : α) : upd f k x k = x := if_pos rfl
theorem upd_other {α : Type} (f : Nat → α) {k j : Nat} (x : α) (h : j ≠ k) : upd f k x j = f j := if_neg h
/-- How many of the first n are left. -/
def lf (D : Nat → Bool) : Nat → Nat
  | 0 => 0
  | n + 1 => lf D n + (if D n then 0 else 1)
theorem lf_le (D : Nat → Bool) : ∀ n, lf D n ≤ n
  | 0 => Nat.le_refl _
  | n + 1 => by
    have := lf_le D n
    simp only [lf]
    split <;> omega
theorem lf_far (D : Nat → Bool) (k : Nat) (x : Bool) : ∀ n, n ≤ k → lf (upd D k x) n = lf D n
  | 0, _ => rfl
  | n + 1, h => by simp only [lf]; rw [lf_far D k x n (by omega), upd_other D x (by omega)]
theorem lf_done (D : Nat → Bool) (k : Nat) (hk : D k = false) : ∀ n, k < n → lf (upd D k true) n + 1 = lf D n
  | 0, h => by omega
  | n + 1, h => by
    simp only [lf]
    by_cases e : k = n
    · subst e
      rw [lf_far D k true k (Nat.le_refl _), upd_same, hk]
      rfl
    · have := lf_done D k hk n (by omega)
      rw [upd_other D true (by omega)]
      omega
theorem lf_none : ∀ n, lf (fun _ => false) n = n
  | 0 => rfl
  | n + 1 => by simp only [lf]; rw [lf_none n]; rfl

/-- Till when one of so many attempts is due. -/
def bnd (a : Int) : Int := 7 * a + 2 ^ a.toNat + 19
theorem bnd_step (a : Int) (h0 : 0 ≤ a) (h1 : a < 7) : bnd (a + 1) = bnd a + 7 + dly (a + 1) := by
  have hc : a = 0 ∨ a = 1 ∨ a = 2 ∨ a = 3 ∨ a = 4 ∨ a = 5 ∨ a = 6 := by omega
  rcases hc with rfl | rfl | rfl | rfl | rfl | rfl | rfl <;> decide
theorem bnd_le (a : Int) (h0 : 0 ≤ a) (h1 : a < 8) : bnd a ≤ 196 := by
  have hc : a = 0 ∨ a = 1 ∨ a = 2 ∨ a = 3 ∨ a = 4 ∨ a = 5 ∨ a = 6 ∨ a = 7 := by omega
  rcases hc with rfl | rfl | rfl | rfl | rfl | rfl | rfl | rfl <;> decide
theorem bnd_zero : bnd 0 = 20 := by decide
theorem dly_pos (a : Int) (h : 1 ≤ a) : 1 ≤ dly a := by
  unfold dly
  rw [if_neg (by omega)]
  split
  · have hc : a = 1 ∨ a = 2 ∨ a = 3 ∨ a = 4 ∨ a = 5 ∨ a = 6 ∨ a = 7 := by omega
    rcases hc with rfl | rfl | rfl | rfl | rfl | rfl | rfl <;> decide
  · omega

/-- Where one of a row stands. -/
theorem pos_of {ms : List Msg} (h : ms.Pairwise (fun a b => a.id < b.id)) {k : Nat} (hk : k < ms.length) : pos ms ms[k].id = k := by
  refine pos_hit hk (fun j hj => ?_) (by rw [List.getElem?_eq_getElem hk]; rfl)
  have := List.pairwise_iff_getElem.1 h j k (by omega) hk hj
  rw [List.getElem?_eq_getElem (by omega)]
  show ms[j].id ≠ ms[k].id
  omega
theorem live_of {ms : List Msg} (h : ms.Pairwise (fun a b => a.id < b.id)) {m : Msg} (hm : m ∈ ms) (hd : m.dead = false) : live ms m.id = true ∧ pos ms m.id < ms.length ∧ ms[pos ms m.id]?.getD noMsg = m := by
  obtain ⟨k, hk, rfl⟩ := List.mem_iff_getElem.1 hm
  have hp := pos_of h hk
  have hg : ms[k]?.getD noMsg = ms[k] := by rw [List.getElem?_eq_getElem hk]; rfl
  refine ⟨?_, by rw [hp]; exact hk, by rw [hp, hg]⟩
  unfold live
  rw [hp, hg, hd]
  simpa using hk
theorem id_inj {ms : List Msg} (h : ms.Pairwise (fun a b => a.id < b.id)) {x y : Msg} (hx : x ∈ ms) (hy : y ∈ ms) (e : x.id = y.id) : x = y := by
  obtain ⟨i, hi, rfl⟩ := List.mem_iff_getElem.1 hx
  obtain ⟨j, hj, rfl⟩ := List.mem_iff_getElem.1 hy
  have h1 := pos_of h hi
  have h2 := pos_of h hj
  rw [e, h2] at h1
  subst h1
  rfl
theorem mem_fail {ms : List Msg} (h : ms.Pairwise (fun a b => a.id < b.id)) {m : Msg} (hm : m ∈ ms) (hd : m.dead = false) (now : Int) {x : Msg} : x ∈ failR ms m.id now ↔ (x ∈ ms ∧ x.id ≠ m.id) ∨ x = failM m now := by
  obtain ⟨k, hk, hkm⟩ := List.mem_iff_getElem.1 hm
  have hp : pos ms m.id = k := by rw [← hkm]; exact pos_of h hk
  obtain ⟨h1, h2, h3⟩ := live_of h hm hd
  unfold failR
  rw [if_pos h1, h3, hp]
  constructor
  · intro hx
    obtain ⟨j, hj, rfl⟩ := List.mem_iff_getElem.1 hx
    rw [List.length_set] at hj
    rw [List.getElem_set]
    by_cases e : k = j
    · rw [if_pos e]; exact .inr rfl
    · rw [if_neg e]
      refine .inl ⟨List.getElem_mem hj, fun e2 => e ?_⟩
      have := pos_of h hj
      rw [e2, hp] at this
      exact this
  · rintro (⟨hx, hne⟩ | rfl)
    · obtain ⟨j, hj, rfl⟩ := List.mem_iff_getElem.1 hx
      have e : k ≠ j := fun e => by subst e; exact hne (by rw [hkm])
      refine List.mem_iff_getElem.2 ⟨j, by rw [List.length_set]; exact hj, ?_⟩
      rw [List.getElem_set, if_neg e]
    · exact List.mem_iff_getElem.2 ⟨k, by rw [List.length_set]; exact hk, by rw [List.getElem_set, if_pos rfl]⟩
theorem mem_take {ms : List Msg} (h : ms.Pairwise (fun a b => a.id < b.id)) {m : Msg} (hm : m ∈ ms) (hd : m.dead = false) {x : Msg} : x ∈ takeR ms m.id ↔ x ∈ ms ∧ x.id ≠ m.id := by
  obtain ⟨k, hk, hkm⟩ := List.mem_iff_getElem.1 hm
  have hp : pos ms m.id = k := by rw [← hkm]; exact pos_of h hk
  obtain ⟨h1, h2, h3⟩ := live_of h hm hd
  have hid : ∀ j (hj : j < ms.length), j ≠ k → ms[j].id ≠ m.id := fun j hj hne e => hne (by
    have := pos_of h hj
    rw [e, hp] at this
    exact this.symm)
  unfold takeR
  rw [if_pos h1, hp, List.mem_append]
  constructor
  · rintro (hx | hx)
    · obtain ⟨j, hj, rfl⟩ := List.mem_iff_getElem.1 hx
      rw [List.length_take] at hj
      rw [List.getElem_take]
      exact ⟨List.getElem_mem _, hid j (by omega) (by omega)⟩
    · obtain ⟨j, hj, rfl⟩ := List.mem_iff_getElem.1 hx
      rw [List.length_drop] at hj
      rw [List.getElem_drop]
      exact ⟨List.getElem_mem _, hid _ (by omega) (by omega)⟩
  · rintro ⟨hx, hne⟩
    obtain ⟨j, hj, rfl⟩ := List.mem_iff_getElem.1 hx
    have e : j ≠ k := fun e => by subst e; exact hne (by rw [hkm])
    by_cases hjk : j < k
    · exact .inl (List.mem_iff_getElem.2 ⟨j, by rw [List.length_take]; omega, by rw [List.getElem_take]⟩)
    · refine .inr (List.mem_iff_getElem.2 ⟨j - (k + 1), by rw [List.length_drop]; omega, ?_⟩)
      rw [List.getElem_drop]
      congr 1
      omega
theorem take_len {ms : List Msg} (h : ms.Pairwise (fun a b => a.id < b.id)) {m : Msg} (hm : m ∈ ms) (hd : m.dead = false) : (takeR ms m.id).length + 1 = ms.length := by
  obtain ⟨h1, h2, h3⟩ := live_of h hm hd
  unfold takeR
  rw [if_pos h1, List.length_append, List.length_take, List.length_drop]
  omega
theorem fail_len (ms : List Msg) (id : Nat) (now : Int) : (failR ms id now).length = ms.length := by
  unfold failR
  split
  · rw [List.length_set]
  · rfl

/-- The row, the attempts T, and what is done D; R: those due that are not yet looked at. -/
structure KI (n : Nat) (T : Nat → Nat) (D : Nat → Bool) (now : Int) (R : List Msg) (L : List Msg) : Prop where
  inv : INV n L
  mem : ∀ m ∈ L, D (m.id - 1) = false ∧ m.att = (T (m.id - 1) : Nat)
  has : ∀ k, k < n → D k = false → ∃ m ∈ L, m.id = k + 1
  cnt : lf D n = L.length
  due : ∀ m ∈ L, m.dead = false → m.due ≤ bnd m.att ∧ (now < m.due ∨ m ∈ R ∧ now < m.due + 8)
  left : ∀ m ∈ R, m ∈ L ∧ m.dead = false ∧ m.due ≤ now
  rise : R.Pairwise (fun a b => a.id < b.id)
  t8 : ∀ k, T k ≤ 8
  now0 : 0 ≤ now
  now1 : now ≤ 400

theorem KI.first {n : Nat} {T : Nat → Nat} {D : Nat → Bool} {now : Int} {R L : List Msg} {m : Msg} (h : KI n T D now (m :: R) L) : m ∈ L ∧ m.dead = false ∧ 1 ≤ m.id ∧ m.id ≤ n ∧ D (m.id - 1) = false ∧ T (m.id - 1) < 8 ∧ m.att = (T (m.id - 1) : Nat) ∧ liveE L m.id = 0 := by
  obtain ⟨a, b, c⟩ := h.left m (by simp)
  obtain ⟨d1, d2⟩ := h.inv.2.1 m a
  obtain ⟨r1, _, _, _, _, _, r7, _, _, r10⟩ := right_parts d1
  obtain ⟨e1, e2⟩ := h.mem m a
  refine ⟨a, b, r1, d2, e1, ?_, e2, by unfold liveE; rw [if_pos (live_of h.inv.1 a b).1]⟩
  rw [b] at r10
  have := of_decide_eq_false r10.symm
  omega
theorem KI.rest_ne {n : Nat} {T : Nat → Nat} {D : Nat → Bool} {now : Int} {R L : List Msg} {m : Msg} (h : KI n T D now (m :: R) L) : ∀ x ∈ R, x.id ≠ m.id := fun x hx => by
  have := (List.pairwise_cons.1 h.rise).1 x hx
  omega
theorem KI.take {n : Nat} {T : Nat → Nat} {D : Nat → Bool} {now : Int} {R L : List Msg} {m : Msg} (h : KI n T D now (m :: R) L) : KI n (upd T (m.id - 1) (T (m.id - 1) + 1)) (upd D (m.id - 1) true) now R (takeR L m.id) := by
  obtain ⟨a, b, i1, i2, dn, t7, at_, _⟩ := h.first
  have hm := fun x => mem_take (x := x) h.inv.1 a b
  have hpos : ∀ x ∈ L, 1 ≤ x.id := fun x hx => (right_parts (h.inv.2.1 x hx).1).1
  refine ⟨inv_take h.inv _, fun x hx => ?_, fun k hk hD => ?_, ?_, fun x hx hd => ?_, fun x hx => ?_, (List.pairwise_cons.1 h.rise).2, fun k => ?_, h.now0, h.now1⟩
  · obtain ⟨p, q⟩ := (hm x).1 hx
    have := hpos x p
    rw [upd_other D true (by omega), upd_other T _ (by omega)]
    exact h.mem x p
  · by_cases e : k = m.id - 1
    · subst e; rw [upd_same] at hD; cases hD
    · rw [upd_other D true e] at hD
      obtain ⟨x, hx, hi⟩ := h.has k hk hD
      exact ⟨x, (hm x).2 ⟨hx, by omega⟩, hi⟩
  · have h1 := lf_done D (m.id - 1) dn n (by omega)
    have h2 := take_len h.inv.1 a b
    have h3 := h.cnt
    omega
  · obtain ⟨p, q⟩ := (hm x).1 hx
    obtain ⟨u1, u2⟩ := h.due x p hd
    refine ⟨u1, ?_⟩
    rcases u2 with u2 | ⟨u2, u3⟩
    · exact .inl u2
    · rcases List.mem_cons.1 u2 with rfl | u2
      · exact absurd rfl q
      · exact .inr ⟨u2, u3⟩
  · obtain ⟨p, q⟩ := h.left x (by simp [hx])
    exact ⟨(hm x).2 ⟨p, h.rest_ne x hx⟩, q⟩
  · by_cases e : k = m.id - 1
    · subst e; rw [upd_same]; omega
    · rw [upd_other T _ e]; exact h.t8 k
theorem KI.fail {n : Nat} {T : Nat → Nat} {D : Nat → Bool} {now : Int} {R L : List Msg} {m : Msg} (h : KI n T D now (m :: R) L) : KI n (upd T (m.id - 1) (T (m.id - 1) + 1)) D now R (failR L m.id now) := by
  obtain ⟨a, b, i1, i2, dn, t7, at_, _⟩ := h.first
  have hm := fun x => mem_fail (x := x) h.inv.1 a b now
  have hpos : ∀ x ∈ L, 1 ≤ x.id := fun x hx => (right_parts (h.inv.2.1 x hx).1).1
  have hw : IntKind.i64.wrap (m.att + 1) = m.att + 1 := by rw [IntKind.wrap_i64] <;> omega
  have hfi : (failM m now).id = m.id := rfl
  have hfa : (failM m now).att = m.att + 1 := hw
  have hn0 := h.now0
  have hn1 := h.now1
  refine ⟨inv_fail h.inv _ _, fun x hx => ?_, fun k hk hD => ?_, ?_, fun x hx hd => ?_, fun x hx => ?_, (List.pairwise_cons.1 h.rise).2, fun k => ?_, h.now0, h.now1⟩
  · rcases (hm x).1 hx with ⟨p, q⟩ | rfl
    · have := hpos x p
      rw [upd_other T _ (by omega)]
      exact h.mem x p
    · rw [hfi, hfa, upd_same]
      exact ⟨dn, by omega⟩
  · by_cases e : k = m.id - 1
    · subst e
      exact ⟨failM m now, (hm _).2 (.inr rfl), by rw [hfi]; omega⟩
    · obtain ⟨x, hx, hi⟩ := h.has k hk hD
      exact ⟨x, (hm x).2 (.inl ⟨hx, by omega⟩), hi⟩
  · rw [fail_len]; exact h.cnt
  · rcases (hm x).1 hx with ⟨p, q⟩ | rfl
    · obtain ⟨u1, u2⟩ := h.due x p hd
      refine ⟨u1, ?_⟩
      rcases u2 with u2 | ⟨u2, u3⟩
      · exact .inl u2
      · rcases List.mem_cons.1 u2 with rfl | u2
        · exact absurd rfl q
        · exact .inr ⟨u2, u3⟩
    · have hg : gone (m.att + 1) = false := by rw [← hw]; exact hd
      have h8 := of_decide_eq_false hg
      have e1 : (failM m now).due = clk now (dly (m.att + 1)) := by show clk now (dly (IntKind.i64.wrap (m.att + 1))) = _; rw [hw]
      have hr := dly_range (m.att + 1)
      have hp := dly_pos (m.att + 1) (by omega)
      have e2 : clk now (dly (m.att + 1)) = now + dly (m.att + 1) := by
        unfold clk
        rw [if_neg (by omega)]
        omega
      have hs := bnd_step m.att (by omega) (by omega)
      obtain ⟨u1, u2⟩ := h.due m a b
      rw [hfa, e1, e2, hs]
      have h7 : now < m.due + 8 := by
        rcases u2 with u2 | ⟨_, u3⟩
        · omega
        · exact u3
      exact ⟨by omega, .inl (by omega)⟩
  · obtain ⟨p, q⟩ := h.left x (by simp [hx])
    exact ⟨(hm x).2 (.inl ⟨p, h.rest_ne x hx⟩), q⟩
  · by_cases e : k = m.id - 1
    · subst e; rw [upd_same]; omega
    · rw [upd_other T _ e]; exact h.t8 k

/-- Between two rounds. -/
structure KO (n : Nat) (T : Nat → Nat) (D : Nat → Bool) (now : Int) (L : List Msg) : Prop where
  inv : INV n L
  mem : ∀ m ∈ L, D (m.id - 1) = false ∧ m.att = (T (m.id - 1) : Nat)
  has : ∀ k, k < n → D k = false → ∃ m ∈ L, m.id = k + 1
  cnt : lf D n = L.length
  due : ∀ m ∈ L, m.dead = false → m.due ≤ bnd m.att ∧ now < m.due + 8
  t8 : ∀ k, T k ≤ 8
theorem KO.begin {n : Nat} {T : Nat → Nat} {D : Nat → Bool} {now : Int} {L : List Msg} (h : KO n T D now L) (h0 : 0 ≤ now) (h1 : now ≤ 400) : KI n T D now (L.filter (dueB now)) L := by
  refine ⟨h.inv, h.mem, h.has, h.cnt, fun m hm hd => ⟨(h.due m hm hd).1, ?_⟩, fun m hm => ?_, h.inv.1.sublist List.filter_sublist, h.t8, h0, h1⟩
  · by_cases e : m.due ≤ now
    · exact .inr ⟨List.mem_filter.2 ⟨hm, by simp [dueB, hd, e]⟩, (h.due m hm hd).2⟩
    · exact .inl (by omega)
  · obtain ⟨a, b⟩ := List.mem_filter.1 hm
    simp only [dueB, Bool.and_eq_true, Bool.not_eq_true', decide_eq_true_eq] at b
    exact ⟨a, b.1, b.2⟩
theorem KI.done {n : Nat} {T : Nat → Nat} {D : Nat → Bool} {now : Int} {L : List Msg} (h : KI n T D now [] L) (s : Int) (hs : s ≤ 8) : KO n T D (now + s) L :=
  ⟨h.inv, h.mem, h.has, h.cnt, fun m hm hd => by
    obtain ⟨a, b | ⟨b, _⟩⟩ := h.due m hm hd
    · exact ⟨a, by omega⟩
    · exact absurd b (by simp), h.t8⟩
/-- At the end all are given up. -/
theorem KO.over {n : Nat} {T : Nat → Nat} {D : Nat → Bool} {now : Int} {L : List Msg} (h : KO n T D now L) (h4 : 400 ≤ now) : (∀ m ∈ L, m.dead = true) ∧ (L.filter dedB).length = L.length ∧ (L.filter alvB).length = 0 ∧ ∀ k, k < n → D k = false → T k = 8 := by
  have hd : ∀ m ∈ L, m.dead = true := fun m hm => by
    cases e : m.dead with
    | true => rfl
    | false =>
      obtain ⟨a, b⟩ := h.due m hm e
      obtain ⟨_, _, _, _, _, r6, r7, _, _, r10⟩ := right_parts (h.inv.2.1 m hm).1
      rw [e] at r10
      have h8 := of_decide_eq_false r10.symm
      have := bnd_le m.att r6 (by omega)
      omega
  have hs := dead_split L
  have ha : L.filter alvB = [] := List.filter_eq_nil_iff.2 fun m hm => by simp [alvB, hd m hm]
  rw [ha] at hs
  refine ⟨hd, by simpa using hs, by rw [ha]; rfl, fun k hk hD => ?_⟩
  obtain ⟨m, hm, hi⟩ := h.has k hk hD
  obtain ⟨_, _, _, _, _, r6, r7, _, _, r10⟩ := right_parts (h.inv.2.1 m hm).1
  rw [hd m hm] at r10
  have h8 := of_decide_eq_true r10.symm
  have := (h.mem m hm).2
  rw [hi] at this
  simp at this
  omega

/-- What is posted. -/
def keepL (k : Nat) : Msg := ⟨k + 1, plus, ⟨#[99, 111, 100, 101]⟩, 0, 0, false⟩
structure KP (n : Nat) (L : List Msg) : Prop where
  inv : INV n L
  len : L.length = n
  mem : ∀ m ∈ L, m.att = 0 ∧ m.dead = false ∧ m.due ≤ 20 ∧ 0 ≤ m.due
  has : ∀ k, k < n → ∃ m ∈ L, m.id = k + 1
theorem KP.nil : KP 0 [] := ⟨inv_nil 0, rfl, by simp, fun k h => by omega⟩
theorem keep_right (k : Nat) (hk : k ≤ 20) : rightB (postM (keepL k) k) = true := by
  have e0 : (⟨#[99, 111, 100, 101]⟩ : ByteArray).toList.isEmpty = false := by decide +kernel
  have e1 : (⟨#[99, 111, 100, 101]⟩ : ByteArray).size = 4 := rfl
  unfold rightB postM keepL
  simp only [kind_plus, e0, e1]
  simp [gone]
  omega
theorem KP.post {k : Nat} {L : List Msg} (h : KP k L) (hk : k < 20) : postE L (keepL k) k = 0 ∧ (postR L (keepL k) k).length = k + 1 ∧ KP (k + 1) (postR L (keepL k) k) := by
  have hr := keep_right k (by omega)
  have hi : (keepL k).id = k + 1 := rfl
  have e : postE L (keepL k) k = 0 := by
    unfold postE
    rw [hr, if_neg (by decide), if_neg, if_neg (by have := h.len; omega)]
    rintro ⟨a, b⟩
    have := inv_last h.inv a
    omega
  have e2 : postR L (keepL k) k = L ++ [postM (keepL k) k] := by unfold postR; rw [if_pos e]
  rw [e2]
  refine ⟨e, by simp [h.len], ⟨?_, fun m hm => ?_, by simp [h.len]; omega⟩, by simp [h.len], fun m hm => ?_, fun j hj => ?_⟩
  · rw [List.pairwise_append]
    refine ⟨h.inv.1, List.pairwise_singleton _ _, fun a ha b hb => ?_⟩
    simp at hb
    subst hb
    have := (h.inv.2.1 a ha).2
    show a.id < k + 1
    omega
  · rcases List.mem_append.1 hm with hm | hm
    · have := h.inv.2.1 m hm
      exact ⟨this.1, by omega⟩
    · simp at hm
      subst hm
      exact ⟨hr, Nat.le_refl _⟩
  · rcases List.mem_append.1 hm with hm | hm
    · exact h.mem m hm
    · simp at hm
      subst hm
      exact ⟨rfl, rfl, by show (k : Int) ≤ 20; omega, by show (0 : Int) ≤ k; omega⟩
  · by_cases e : j < k
    · obtain ⟨m, hm, hi⟩ := h.has j e
      exact ⟨m, by simp [hm], hi⟩
    · exact ⟨postM (keepL k) k, by simp, by show k + 1 = j + 1; omega⟩
theorem KP.begin {n : Nat} {L : List Msg} (h : KP n L) : KO n (fun _ => 0) (fun _ => false) 0 L :=
  ⟨h.inv, fun m hm => ⟨rfl, by rw [(h.mem m hm).1]; rfl⟩, fun k hk _ => h.has k hk, by rw [lf_none, h.len], fun m hm _ => by
    obtain ⟨a, b, c, d⟩ := h.mem m hm
    rw [a, bnd_zero]
    exact ⟨c, by omega⟩, fun _ => by omega⟩
end Go.Proofs.YtleobnfmbhobgaaDoor
