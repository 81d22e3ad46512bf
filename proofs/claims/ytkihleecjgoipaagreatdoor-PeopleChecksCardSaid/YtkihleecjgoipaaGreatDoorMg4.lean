/- people.moved, contact. -/
import Derived.Test.YtkihleecjgoipaaGreatDoorMg3
import Derived.BigQuiet
section
namespace Go.Proofs.YtkihleecjgoipaaGreatDoor
open Go.RowKit Go.Maps Go.Proofs.YtkihleecjgoipaaGreatDoor.Rw

set_option maxHeartbeats 4000000 in
set_option maxRecDepth 100000 in
theorem moved_any {B B0 c g n : Nat} {ms : List Per.R} {w : World} (o : Per.owns w B (.slice (some ⟨g, 0, none⟩) n c) ms) (i : Nat) (hi : i < ms.length) (x : Per.R) (hx : ms[i]?.getD Per.zero = x) {v : Value} {p : Ppl} (hown : pown w B0 v p) (lim : few p) (m : ByteArray) (hs : m.size ≤ 4000000000) (hm : ML w) :
    Calls Tryz.prog 60 #[v, .pointer (some ⟨g, i * 13, none⟩), .string m] w fun e w' => e = .returned (.int .i64 (movE p x m)) ∧ Per.owns w' B (.slice (some ⟨g, 0, none⟩) n c) (ms.set i (movF p x m)) ∧ w.grownBy w' (some g) := by
  have hgl : g < w.heap.size := (o.all i hi).choose_spec.2.2.1 |> fun h => by
    obtain ⟨g', hg', _, hlt, _⟩ := o.all i hi
    cases hg'
    exact hlt
  have BY : Hid (∀ w2, Below w.heap.size w w2 → Calls Tryz.prog 49 #[v, .string m] w2 fun e w' => e = .returned (.tuple #[(pick p.ps (fun x => decide (x.mail = m))).agg, .bool (byB p m)]) ∧ Below w2.heap.size w2 w') := Lib.hid (fun w2 b => by_any (hown.below b) lim m)
  have FR : Hid (∀ w2, Below w.heap.size w w2 → Calls Tryz.prog 68 #[x.agg, .string m, .bool (byB p m)] w2 fun e w' => e = .returned (.int .i64 (freeE x m (byB p m))) ∧ Below w2.heap.size w2 w') := Lib.hid (fun w2 b => free_any x m hs _ w2 (hm.below b))
  have MM := Lib.hid (fun w2 (b : Below w.heap.size w w2) => (o.below b).all i hi)
  rw [hx] at MM
  have E : Hid (movE p x m = freeE x m (byB p m)) := Lib.hid rfl
  have F : Hid (movF p x m = if movE p x m = 0 then { x with mail := m, ver := true } else x) := Lib.hid rfl
  have PUT : Hid (∀ w2, Below w.heap.size w w2 → Per.owns ((w2.setCell ⟨g, i * 13 + 1, none⟩ (.string m)).setCell ⟨g, i * 13 + 2, none⟩ (.bool true)) B (.slice (some ⟨g, 0, none⟩) n c) (ms.set i { x with mail := m, ver := true })) := Lib.hid (fun w2 b => by
    have h1 := (o.below b).put1 i 1 hi (by omega) (.string m) { x with mail := m } (by rw [hx]; rfl)
    have h2 := h1.put1 i 2 (by simpa using hi) (by omega) (.bool true) { x with mail := m, ver := true } (by rw [Per.set_at _ _ _ hi]; rfl)
    rw [List.set_set] at h2
    exact h2)
  have SAME : Hid (∀ w2, Below w.heap.size w w2 → Per.owns w2 B (.slice (some ⟨g, 0, none⟩) n c) (ms.set i x)) := Lib.hid (fun w2 b => by
    rw [← hx, List.getElem?_eq_getElem hi]
    simpa using o.below b)
  have FZ := Lib.hid (fun w2 (b : Below w.heap.size w w2) => (o.below b).free)
  have VV : ∃ s1 s2, v = .agg #[s1, s2] := by
    obtain ⟨a, c, a', c', e, _⟩ := hown
    exact ⟨_, _, e⟩
  obtain ⟨s1, s2, rfl⟩ := VV
  obtain ⟨x0, x1⟩ := pbox w s1 s2
  have hb : Below w.heap.size w (w.alloc (pobj s1 s2)) := (Below.refl _ _).alloc (Nat.le_refl _) _
  have HB := Lib.hid hb
  generalize movF p x m = y at *
  generalize movE p x m = r at *
  generalize byB p m = t at *
  generalize freeE x m t = f at *
  generalize pick p.ps (fun x => decide (x.mail = m)) = yp at *
  unfold Per.R.agg at *
  unfold pobj at *
  clear hx hown o hm hb
  go_enter Tryz.func60, Tryz.ntmps60
  go_wp2_with (first
    | (go_at_call 49; (with_reducible refine (BY.out _ HB.out).mono ?_); rintro e w2 ⟨rfl, b2⟩; have B2 := Lib.hid (HB.out.trans (b2.mono HB.out.size)); clear b2; have BA := Lib.hid (B2.out.alloc B2.out.size yp.obj); unfold Per.R.obj at BA; obtain ⟨g', hg', _, hlt, m0, m1, m2, m3, m4, m5, m6, m7, m8, m9, m10, m11, m12⟩ := MM.out _ BA.out; cases hg')
    | (go_at_call 68; (with_reducible refine (FR.out _ BA.out).mono ?_); rintro e w3 ⟨rfl, b3⟩; have B3 := Lib.hid (BA.out.trans (b3.mono BA.out.size)); clear b3; obtain ⟨g', hg', _, hlt3, k0, k1, k2, k3, k4, k5, k6, k7, k8, k9, k10, k11, k12⟩ := MM.out _ B3.out; cases hg'; have kf := FZ.out _ B3.out))
  · rename_i hf
    go_ret
    exact ⟨ret_int (by rw [E.out]), by rw [F.out, if_pos (by rw [E.out]; simpa using hf)]; exact PUT.out _ B3.out, World.grownBy.trans (World.grownBy.trans (grown_of B3.out) (grown_set _ _ _ _)) (grown_set _ _ _ _)⟩
  · rename_i hf
    go_ret
    exact ⟨ret_int (by rw [E.out]), by rw [F.out, if_neg (by rw [E.out]; simpa using hf)]; exact SAME.out _ B3.out, grown_of B3.out⟩
theorem idx_gap (zs : List ByteArray) : Lib.idxOfS zs ⟨#[]⟩ = idx zs (fun c => decide (c = ⟨#[]⟩)) := by
  have gen : ∀ (zs : List ByteArray) (i : Nat), Lib.idxFromS zs ⟨#[]⟩ i = if zs.findIdx (fun c => decide (c = ⟨#[]⟩)) < zs.length then ((i + zs.findIdx (fun c => decide (c = ⟨#[]⟩)) : Nat) : Int) else -1 := by
    intro zs
    induction zs with
    | nil => intro i; rfl
    | cons z zs ih =>
      intro i
      by_cases hz : z = ⟨#[]⟩
      · subst hz
        simp [Lib.idxFromS, List.findIdx_cons]
      · simp only [Lib.idxFromS, if_neg hz, ih (i + 1), List.findIdx_cons, decide_eq_false hz, List.length_cons, cond_false, Nat.add_lt_add_iff_right]
        split
        · congr 1
          omega
        · rfl
  have h := gen zs 0
  unfold Lib.idxOfS idx
  rw [h]
  simp
theorem gap_le (x : Per.R) : gap x ≤ 5 := List.findIdx_le_length (xs := x.cs)
theorem putC_cells (x : Per.R) (k : Nat) (hk : k < 5) (m : ByteArray) : (putC x k m).cells = x.cells.set (8 + k) (.string m) := by
  have hc : k = 0 ∨ k = 1 ∨ k = 2 ∨ k = 3 ∨ k = 4 := by omega
  rcases hc with rfl | rfl | rfl | rfl | rfl <;> rfl
set_option maxHeartbeats 4000000 in
set_option maxRecDepth 100000 in
theorem contact_any {B c g n : Nat} {ms : List Per.R} {w : World} (o : Per.owns w B (.slice (some ⟨g, 0, none⟩) n c) ms) (i : Nat) (hi : i < ms.length) (x : Per.R) (hx : ms[i]?.getD Per.zero = x) (m : ByteArray) (hs : m.size ≤ 4000000000) (hm : ML w) :
    Calls Tryz.prog 61 #[.pointer (some ⟨g, i * 13, none⟩), .string m] w fun e w' => e = .returned (.int .i64 (contE x m)) ∧ Per.owns w' B (.slice (some ⟨g, 0, none⟩) n c) (ms.set i (contF x m)) ∧ w.grownBy w' (some g) := by
  have hgl : g < w.heap.size := by
    obtain ⟨g', hg', _, hlt, _⟩ := o.all i hi
    cases hg'
    exact hlt
  have FR : Hid (∀ w2, Below w.heap.size w w2 → Calls Tryz.prog 68 #[x.agg, .string m, .bool (x.mail.toList == m.toList)] w2 fun e w' => e = .returned (.int .i64 (freeE x m (decide (x.mail = m)))) ∧ Below w2.heap.size w2 w') := Lib.hid (fun w2 b => by
    rw [eqS_dec]
    exact free_any x m hs _ w2 (hm.below b))
  have MM : Hid (∀ w2, Below w.heap.size w w2 → w2.cell? ⟨g, i * 13, none⟩ = some (.int .i64 x.id) ∧ w2.cell? ⟨g, i * 13 + 1, none⟩ = some (.string x.mail) ∧ w2.cell? ⟨g, i * 13 + 2, none⟩ = some (.bool x.ver) ∧ w2.cell? ⟨g, i * 13 + 3, none⟩ = some (.string x.salt) ∧ w2.cell? ⟨g, i * 13 + 4, none⟩ = some (.string x.chk) ∧ w2.cell? ⟨g, i * 13 + 5, none⟩ = some (.int .i64 x.vers) ∧ w2.cell? ⟨g, i * 13 + 6, none⟩ = some (.int .i64 x.miss) ∧ w2.cell? ⟨g, i * 13 + 7, none⟩ = some (.int .i64 x.lock) ∧ w2.cell? ⟨g, i * 13 + 8, none⟩ = some (.string x.c0) ∧ w2.cell? ⟨g, i * 13 + 9, none⟩ = some (.string x.c1) ∧ w2.cell? ⟨g, i * 13 + 10, none⟩ = some (.string x.c2) ∧ w2.cell? ⟨g, i * 13 + 11, none⟩ = some (.string x.c3) ∧ w2.cell? ⟨g, i * 13 + 12, none⟩ = some (.string x.c4)) := Lib.hid (fun w2 b => by
    obtain ⟨g', hg', _, _, h⟩ := (o.below b).all i hi
    cases hg'
    rw [hx] at h
    exact h)
  have IX : Hid (∀ w2, Below w.heap.size w w2 → Calls Tryz.prog 69 #[.slice (some ⟨g, i * 13 + 8, none⟩) 5 5, .string ⟨#[]⟩] w2 fun e w' => e = .returned (.int .i64 (if gap x < 5 then (gap x : Int) else -1)) ∧ w' = w2) := Lib.hid (fun w2 b => by
    obtain ⟨m0, m1, m2, m3, m4, m5, m6, m7, m8, m9, m10, m11, m12⟩ := MM.out w2 b
    have h := Tryz.slices_Index_string g (i * 13 + 8) 5 5 x.cs ⟨#[]⟩ w2 (Nat.le_refl 5) (by omega) (CsAt.of m8 m9 m10 m11 m12)
    rw [show x.cs.take 5 = x.cs from rfl, idx_gap] at h
    exact h)
  have E : Hid (contE x m = if freeE x m (decide (x.mail = m)) ≠ 0 then freeE x m (decide (x.mail = m)) else if 5 ≤ gap x then 15 else 0) := Lib.hid rfl
  have F : Hid (contF x m = if contE x m = 0 then putC x (gap x) m else x) := Lib.hid rfl
  have PUT : Hid (gap x < 5 → ∀ w2, Below w.heap.size w w2 → Per.owns (w2.setCell ⟨g, i * 13 + 8 + gap x, none⟩ (.string m)) B (.slice (some ⟨g, 0, none⟩) n c) (ms.set i (putC x (gap x) m))) := Lib.hid (fun hg w2 b => by
    have h1 := (o.below b).put1 i (8 + gap x) hi (by omega) (.string m) (putC x (gap x) m) (by rw [hx]; exact putC_cells x _ hg m)
    rwa [← Nat.add_assoc] at h1)
  have SAME : Hid (∀ w2, Below w.heap.size w w2 → Per.owns w2 B (.slice (some ⟨g, 0, none⟩) n c) (ms.set i x)) := Lib.hid (fun w2 b => by
    rw [← hx, List.getElem?_eq_getElem hi]
    simpa using o.below b)
  have CX : Hid (gap x < 5 → ∀ w2, Below w.heap.size w w2 → ∃ u, w2.cell? ⟨g, i * 13 + 8 + gap x, none⟩ = some u) := Lib.hid (fun hg w2 b => by
    obtain ⟨m0, m1, m2, m3, m4, m5, m6, m7, m8, m9, m10, m11, m12⟩ := MM.out w2 b
    exact ⟨_, CsAt.of m8 m9 m10 m11 m12 (gap x) hg⟩)
  have FZ := Lib.hid (fun w2 (b : Below w.heap.size w w2) => (o.below b).free)
  have HBR := Lib.hid (Below.refl w.heap.size w)
  have hgp := gap_le x
  generalize contF x m = y at *
  generalize contE x m = r at *
  generalize freeE x m (decide (x.mail = m)) = f at *
  generalize putC x (gap x) m = z at *
  generalize gap x = k at *
  obtain ⟨m0, m1, m2, m3, m4, m5, m6, m7, m8, m9, m10, m11, m12⟩ := MM.out w HBR.out
  unfold Per.R.agg at *
  clear hx o hm
  go_enter Tryz.func61, Tryz.ntmps61
  go_wp2_with fail
  go_region_held3 (fun w' => Below w.heap.size w w' ∧ w'.cell? ⟨g, i * 13, none⟩ = some (.int .i64 x.id) ∧ w'.cell? ⟨g, i * 13 + 1, none⟩ = some (.string x.mail) ∧ w'.cell? ⟨g, i * 13 + 2, none⟩ = some (.bool x.ver) ∧ w'.cell? ⟨g, i * 13 + 3, none⟩ = some (.string x.salt) ∧ w'.cell? ⟨g, i * 13 + 4, none⟩ = some (.string x.chk) ∧ w'.cell? ⟨g, i * 13 + 5, none⟩ = some (.int .i64 x.vers) ∧ w'.cell? ⟨g, i * 13 + 6, none⟩ = some (.int .i64 x.miss) ∧ w'.cell? ⟨g, i * 13 + 7, none⟩ = some (.int .i64 x.lock) ∧ w'.cell? ⟨g, i * 13 + 8, none⟩ = some (.string x.c0) ∧ w'.cell? ⟨g, i * 13 + 9, none⟩ = some (.string x.c1) ∧ w'.cell? ⟨g, i * 13 + 10, none⟩ = some (.string x.c2) ∧ w'.cell? ⟨g, i * 13 + 11, none⟩ = some (.string x.c3) ∧ w'.cell? ⟨g, i * 13 + 12, none⟩ = some (.string x.c4))
    (first
      | exact ⟨below_drew HBR.out, MM.out _ (below_drew HBR.out)⟩
      | exact ⟨B3.out, MM.out _ B3.out⟩
      | go_keep)
    (first
      | (go_at_call 68; (with_reducible refine (FR.out _ (below_drew HBR.out)).mono ?_); rintro e w3 ⟨rfl, b3⟩; have B3 := Lib.hid ((below_drew HBR.out).trans (b3.mono (below_drew HBR.out).size)); clear b3))
  have kf := FZ.out _ B3.out
  by_cases hk : k < 5
  · simp only [if_pos hk] at IX
    obtain ⟨u, hu⟩ := CX.out hk _ B3.out
    have hk0 : (0 : Int) ≤ k := by omega
    have hk5 : (k : Int) < 5 := by omega
    clear m0 m1 m2 m3 m4 m5 m6 m7 m8 m9 m10 m11 m12
    go_wp2_with (go_at_call 69; (with_reducible refine (IX.out _ B3.out).mono ?_); rintro e w4 ⟨rfl, rfl⟩)
    · rename_i hf
      go_ret
      have hf' : f ≠ 0 := by simpa using hf
      have hr : r = f := by rw [E.out, if_pos hf']
      exact ⟨ret_int hr.symm, by rw [F.out, if_neg (by rw [hr]; exact hf')]; exact SAME.out _ B3.out, grown_of B3.out⟩
    · rename_i hf _
      go_ret
      have hf' : f = 0 := by simpa using hf
      have hr : r = 0 := by rw [E.out, if_neg (by simpa using hf'), if_neg (by omega)]
      exact ⟨ret_int hr.symm, by rw [F.out, if_pos hr]; exact PUT.out hk _ B3.out, World.grownBy.trans (grown_of B3.out) (grown_set _ _ _ _)⟩
  · simp only [if_neg hk] at IX
    clear m0 m1 m2 m3 m4 m5 m6 m7 m8 m9 m10 m11 m12
    go_wp2_with (go_at_call 69; (with_reducible refine (IX.out _ B3.out).mono ?_); rintro e w4 ⟨rfl, rfl⟩)
    · rename_i hf
      go_ret
      have hf' : f ≠ 0 := by simpa using hf
      have hr : r = f := by rw [E.out, if_pos hf']
      exact ⟨ret_int hr.symm, by rw [F.out, if_neg (by rw [hr]; exact hf')]; exact SAME.out _ B3.out, grown_of B3.out⟩
    · rename_i hf
      go_ret
      have hf' : f = 0 := by simpa using hf
      have hr : r = 15 := by rw [E.out, if_neg (by simpa using hf'), if_pos (by omega)]
      exact ⟨ret_int hr.symm, by rw [F.out, if_neg (by rw [hr]; decide)]; exact SAME.out _ B3.out, grown_of B3.out⟩
end Go.Proofs.YtkihleecjgoipaaGreatDoor
end
/- people.does. Written by wip/tools/mkppg.py. -/
section
namespace Go.Proofs.YtkihleecjgoipaaGreatDoor
open Go.RowKit Go.Maps Go.Proofs.YtkihleecjgoipaaGreatDoor.Rw

set_option maxHeartbeats 4000000 in
set_option maxRecDepth 100000 in
theorem does_any {B B0 c g n : Nat} {ms : List Per.R} {w : World} (o : Per.owns w B (.slice (some ⟨g, 0, none⟩) n c) ms) (i : Nat) (hi : i < ms.length) (x : Per.R) (hx : ms[i]?.getD Per.zero = x) (hv : 0 ≤ x.vers ∧ x.vers ≤ 1099511627776) (hmi : 0 ≤ x.miss ∧ x.miss ≤ 1000) {v : Value} {p : Ppl} (hown : pown w B0 v p) (lim : few p) (e : Evn) (hs : e.a.size ≤ 4000000000) (hm : ML w) :
    Calls Tryz.prog 31 #[v, .pointer (some ⟨g, i * 13, none⟩), e.agg] w fun r w' => r = .returned (.int .i64 (doesE p x e)) ∧ Per.owns w' B (.slice (some ⟨g, 0, none⟩) n c) (ms.set i (doesF p x e)) ∧ w.grownBy w' (some g) := by
  have hgl : g < w.heap.size := by
    obtain ⟨g', hg', _, hlt, _⟩ := o.all i hi
    cases hg'
    exact hlt
  have VV : ∃ s1 s2, v = .agg #[s1, s2] := by
    obtain ⟨a, c, a', c', e, _⟩ := hown
    exact ⟨_, _, e⟩
  obtain ⟨s1, s2, rfl⟩ := VV
  have b1 : Below w.heap.size w (w.alloc (pobj s1 s2)) := (Below.refl _ _).alloc (Nat.le_refl _) _
  have b2 := b1.alloc (by simp) e.obj
  have z1 : (w.alloc (pobj s1 s2)).heap.size = w.heap.size + 1 := by simp
  obtain ⟨x0, x1⟩ := pbox_later (w := w) (w2 := (w.alloc (pobj s1 s2)).alloc e.obj) s1 s2 (B := w.heap.size + 1) (Nat.lt_succ_self _) ((Below.refl _ _).alloc (by omega) _)
  have ev := EvAt.new (w.alloc (pobj s1 s2)) e
  rw [z1] at ev
  obtain ⟨v0, v1, v2, v3, v4, v5, v6, v7⟩ := ev
  have PW : Hid (∀ w2, Below w.heap.size w w2 → Calls Tryz.prog 58 #[.pointer (some ⟨g, i * 13, none⟩), .string e.b, .string e.c] w2 fun r w' => r = .returned (.int .i64 (pasE e.b e.c)) ∧ Per.owns w' B (.slice (some ⟨g, 0, none⟩) n c) (ms.set i (pasF x e.b e.c)) ∧ w2.grownBy w' (some g)) := Lib.hid (fun w2 b => password_any (o.below b) i hi x hx hv _ _)
  have MI : Hid (∀ w2, Below w.heap.size w w2 → Calls Tryz.prog 59 #[.pointer (some ⟨g, i * 13, none⟩), .int .i64 e.at_] w2 fun r w' => r = .returned (.tuple #[]) ∧ Per.owns w' B (.slice (some ⟨g, 0, none⟩) n c) (ms.set i (missF x e.at_)) ∧ w2.grownBy w' (some g)) := Lib.hid (fun w2 b => missed_any (o.below b) i hi x hx hmi _)
  have MO : Hid (∀ w2, Below w.heap.size w w2 → Calls Tryz.prog 60 #[.agg #[s1, s2], .pointer (some ⟨g, i * 13, none⟩), .string e.a] w2 fun r w' => r = .returned (.int .i64 (movE p x e.a)) ∧ Per.owns w' B (.slice (some ⟨g, 0, none⟩) n c) (ms.set i (movF p x e.a)) ∧ w2.grownBy w' (some g)) := Lib.hid (fun w2 b => moved_any (o.below b) i hi x hx (hown.below b) lim _ hs (hm.below b))
  have CO : Hid (∀ w2, Below w.heap.size w w2 → Calls Tryz.prog 61 #[.pointer (some ⟨g, i * 13, none⟩), .string e.a] w2 fun r w' => r = .returned (.int .i64 (contE x e.a)) ∧ Per.owns w' B (.slice (some ⟨g, 0, none⟩) n c) (ms.set i (contF x e.a)) ∧ w2.grownBy w' (some g)) := Lib.hid (fun w2 b => contact_any (o.below b) i hi x hx _ hs (hm.below b))
  have VE : Hid (∀ w2, Below w.heap.size w w2 → Per.owns (w2.setCell ⟨g, i * 13 + 2, none⟩ (.bool true)) B (.slice (some ⟨g, 0, none⟩) n c) (ms.set i { x with ver := true })) := Lib.hid (fun w2 b => (o.below b).put1 i 2 hi (by omega) _ _ (by rw [hx]; rfl))
  have PA : Hid (∀ w2, Below w.heap.size w w2 → Per.owns (w2.setCell ⟨g, i * 13 + 6, none⟩ (.int .i64 0)) B (.slice (some ⟨g, 0, none⟩) n c) (ms.set i { x with miss := 0 })) := Lib.hid (fun w2 b => (o.below b).put1 i 6 hi (by omega) _ _ (by rw [hx]; rfl))
  have SAME : Hid (∀ w2, Below w.heap.size w w2 → Per.owns w2 B (.slice (some ⟨g, 0, none⟩) n c) (ms.set i x)) := Lib.hid (fun w2 b => by
    rw [← hx, List.getElem?_eq_getElem hi]
    simpa using o.below b)
  obtain ⟨g', hg', _, _, m0, m1, m2, m3, m4, m5, m6, m7, m8, m9, m10, m11, m12⟩ := (o.below b2).all i hi
  cases hg'
  have kf := (o.below b2).free
  have E : Hid (doesE p x e = if e.kind = 3 then pasE e.b e.c else if e.kind = 6 then movE p x e.a else if e.kind = 7 then contE x e.a else 0) := Lib.hid rfl
  have F : Hid (doesF p x e = if e.kind = 2 then { x with ver := true } else if e.kind = 3 then pasF x e.b e.c else if e.kind = 4 then missF x e.at_ else if e.kind = 5 then { x with miss := 0 } else if e.kind = 6 then movF p x e.a else if e.kind = 7 then contF x e.a else x) := Lib.hid rfl
  have HB := Lib.hid b2
  generalize doesE p x e = r at *
  generalize doesF p x e = y at *
  clear hx hown o hm b1 b2 z1
  obtain ⟨kd, ac, pu, t, nu, ea, eb, ec⟩ := e
  unfold pobj Evn.obj at *
  unfold Evn.agg
  simp only at *
  by_cases k2 : kd = 2
  · subst k2
    have RE : Hid (r = 0) := Lib.hid (by rw [E.out, if_neg (by decide), if_neg (by decide), if_neg (by decide)])
    have RF : Hid (y = { x with ver := true }) := Lib.hid (by rw [F.out, if_pos rfl])
    clear E F
    go_enter Tryz.func31, Tryz.ntmps31
    go_wp2_with fail
    go_ret
    exact ⟨ret_int (by rw [RE.out]), by rw [RF.out]; exact (VE.out w (Below.refl _ _)).below (((Below.refl _ _).alloc (Nat.le_refl _) _).alloc (by simp) _), World.grownBy.trans (grown_set _ _ _ _) (grown_of (((Below.refl _ _).alloc (Nat.le_refl _) _).alloc (by simp) _))⟩
  · skip
    by_cases k3 : kd = 3
    · subst k3
      have RE : Hid (r = pasE eb ec) := Lib.hid (by rw [E.out, if_pos rfl])
      have RF : Hid (y = pasF x eb ec) := Lib.hid (by rw [F.out, if_neg (by decide), if_pos rfl])
      clear E F k2
      go_enter Tryz.func31, Tryz.ntmps31
      go_wp2_with (go_at_call 58; (with_reducible refine (PW.out _ HB.out).mono ?_); rintro z w4 ⟨rfl, o4, g4⟩; have O4 := Lib.hid o4; have G4 := Lib.hid (World.grownBy.trans (grown_of HB.out) g4); clear o4 g4)
      go_ret
      exact ⟨ret_int (by rw [RE.out]), by rw [RF.out]; exact O4.out, G4.out⟩
    · skip
      by_cases k4 : kd = 4
      · subst k4
        have RE : Hid (r = 0) := Lib.hid (by rw [E.out, if_neg (by decide), if_neg (by decide), if_neg (by decide)])
        have RF : Hid (y = missF x t) := Lib.hid (by rw [F.out, if_neg (by decide), if_neg (by decide), if_pos rfl])
        clear E F k2 k3
        go_enter Tryz.func31, Tryz.ntmps31
        go_wp2_with (go_at_call 59; (with_reducible refine (MI.out _ HB.out).mono ?_); rintro z w4 ⟨rfl, o4, g4⟩; have O4 := Lib.hid o4; have G4 := Lib.hid (World.grownBy.trans (grown_of HB.out) g4); clear o4 g4)
        go_ret
        exact ⟨ret_int (by rw [RE.out]), by rw [RF.out]; exact O4.out, G4.out⟩
      · skip
        by_cases k5 : kd = 5
        · subst k5
          have RE : Hid (r = 0) := Lib.hid (by rw [E.out, if_neg (by decide), if_neg (by decide), if_neg (by decide)])
          have RF : Hid (y = { x with miss := 0 }) := Lib.hid (by rw [F.out, if_neg (by decide), if_neg (by decide), if_neg (by decide), if_pos rfl])
          clear E F k2 k3 k4
          go_enter Tryz.func31, Tryz.ntmps31
          go_wp2_with fail
          go_ret
          exact ⟨ret_int (by rw [RE.out]), by rw [RF.out]; exact (PA.out w (Below.refl _ _)).below (((Below.refl _ _).alloc (Nat.le_refl _) _).alloc (by simp) _), World.grownBy.trans (grown_set _ _ _ _) (grown_of (((Below.refl _ _).alloc (Nat.le_refl _) _).alloc (by simp) _))⟩
        · skip
          by_cases k6 : kd = 6
          · subst k6
            have RE : Hid (r = movE p x ea) := Lib.hid (by rw [E.out, if_neg (by decide), if_pos rfl])
            have RF : Hid (y = movF p x ea) := Lib.hid (by rw [F.out, if_neg (by decide), if_neg (by decide), if_neg (by decide), if_neg (by decide), if_pos rfl])
            clear E F k2 k3 k4 k5
            go_enter Tryz.func31, Tryz.ntmps31
            go_wp2_with (go_at_call 60; (with_reducible refine (MO.out _ HB.out).mono ?_); rintro z w4 ⟨rfl, o4, g4⟩; have O4 := Lib.hid o4; have G4 := Lib.hid (World.grownBy.trans (grown_of HB.out) g4); clear o4 g4)
            go_ret
            exact ⟨ret_int (by rw [RE.out]), by rw [RF.out]; exact O4.out, G4.out⟩
          · skip
            by_cases k7 : kd = 7
            · subst k7
              have RE : Hid (r = contE x ea) := Lib.hid (by rw [E.out, if_neg (by decide), if_neg (by decide), if_pos rfl])
              have RF : Hid (y = contF x ea) := Lib.hid (by rw [F.out, if_neg (by decide), if_neg (by decide), if_neg (by decide), if_neg (by decide), if_neg (by decide), if_pos rfl])
              clear E F k2 k3 k4 k5 k6
              go_enter Tryz.func31, Tryz.ntmps31
              go_wp2_with (go_at_call 61; (with_reducible refine (CO.out _ HB.out).mono ?_); rintro z w4 ⟨rfl, o4, g4⟩; have O4 := Lib.hid o4; have G4 := Lib.hid (World.grownBy.trans (grown_of HB.out) g4); clear o4 g4)
              go_ret
              exact ⟨ret_int (by rw [RE.out]), by rw [RF.out]; exact O4.out, G4.out⟩
            · skip
              have RE : Hid (r = 0) := Lib.hid (by rw [E.out, if_neg k3, if_neg k6, if_neg k7])
              have RF : Hid (y = x) := Lib.hid (by rw [F.out, if_neg k2, if_neg k3, if_neg k4, if_neg k5, if_neg k6, if_neg k7])
              have q2 : (kd == 2) = false := beq_eq_false_iff_ne.2 k2
              have q3 : (kd == 3) = false := beq_eq_false_iff_ne.2 k3
              have q4 : (kd == 4) = false := beq_eq_false_iff_ne.2 k4
              have q5 : (kd == 5) = false := beq_eq_false_iff_ne.2 k5
              have q6 : (kd == 6) = false := beq_eq_false_iff_ne.2 k6
              have q7 : (kd == 7) = false := beq_eq_false_iff_ne.2 k7
              clear E F
              go_enter Tryz.func31, Tryz.ntmps31
              go_wp2_with fail
              go_ret
              exact ⟨ret_int (by rw [RE.out]), by rw [RF.out]; exact SAME.out _ HB.out, grown_of HB.out⟩
set_option maxHeartbeats 4000000 in
set_option maxRecDepth 100000 in
/-- Apply's second function value: it hands people and the event on. -/
theorem how_any {B B0 c g n : Nat} {ms : List Per.R} {w : World} (o : Per.owns w B (.slice (some ⟨g, 0, none⟩) n c) ms) (i : Nat) (hi : i < ms.length) (x : Per.R) (hx : ms[i]?.getD Per.zero = x) (hv : 0 ≤ x.vers ∧ x.vers ≤ 1099511627776) (hmi : 0 ≤ x.miss ∧ x.miss ≤ 1000) {s1 s2 : Value} {p : Ppl} (hown : pown w B0 (.agg #[s1, s2]) p) (lim : few p) (e : Evn) (hs : e.a.size ≤ 4000000000) (hm : ML w) (gp ge : Nat)
    (hp : w.cell? ⟨gp, 0, none⟩ = some s1 ∧ w.cell? ⟨gp, 1, none⟩ = some s2) (he : EvAt w ge e) :
    Calls Tryz.prog 30 #[.pointer (some ⟨g, i * 13, none⟩), .pointer (some ⟨gp, 0, none⟩), .pointer (some ⟨ge, 0, none⟩)] w fun r w' => r = .returned (.int .i64 (doesE p x e)) ∧ Per.owns w' B (.slice (some ⟨g, 0, none⟩) n c) (ms.set i (doesF p x e)) ∧ w.grownBy w' (some g) := by
  have DO := Lib.hid (does_any o i hi x hx hv hmi hown lim e hs hm)
  obtain ⟨x0, x1⟩ := hp
  obtain ⟨v0, v1, v2, v3, v4, v5, v6, v7⟩ := he
  generalize doesE p x e = r at *
  generalize doesF p x e = y at *
  unfold Evn.agg at DO
  clear o hown hx hm
  go_enter Tryz.func30, Tryz.ntmps30
  go_wp2_with (go_at_call 31; (with_reducible refine (DO.out).mono ?_); rintro z w4 ⟨rfl, o4, g4⟩; have O4 := Lib.hid o4; have G4 := Lib.hid g4; clear o4 g4)
  go_ret
  exact ⟨rfl, O4.out, G4.out⟩
end Go.Proofs.YtkihleecjgoipaaGreatDoor
end
