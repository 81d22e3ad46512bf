/- The reference's Apply is people.Apply, of people behind events. Written by wip/tools/mkr16f.py. -/
import Derived.Test.YtkihleecjgoipaaGreatDoorR16E
namespace Go.Proofs.YtkihleecjgoipaaGreatDoor
open Go.RowKit Go.Maps Go.Proofs.YtkihleecjgoipaaGreatDoor.Rw

theorem mem16 {L : List Per.R} {k : Nat} (hk : k < L.length) : L[k]?.getD Per.zero ∈ L := by
  rw [List.getElem?_eq_getElem hk]
  exact List.getElem_mem hk
theorem app_does {p : Ppl} {e : Evn} (h1 : e.kind ≠ 1) (h2 : ¬ (e.kind < 1 ∨ 9 < e.kind)) (hi : ¬ p.ps.length ≤ at_ p e.acc) (h8 : e.kind ≠ 8) (h9 : e.kind ≠ 9) :
    appE p e = doesE p (p.ps[at_ p e.acc]?.getD Per.zero) e ∧ appR p e = if doesE p (p.ps[at_ p e.acc]?.getD Per.zero) e = 0 then ⟨p.ps.set (at_ p e.acc) (doesF p (p.ps[at_ p e.acc]?.getD Per.zero) e), p.ss⟩ else p := by
  unfold appE appR
  rw [if_neg h1, if_neg h2, if_neg hi, if_neg h8, if_neg h9, if_neg h1, if_neg h2, if_neg hi, if_neg h8, if_neg h9]
  exact ⟨rfl, rfl⟩
theorem revF {p : Ppl} (h : ∀ s ∈ p.ss, 0 ≤ s.exp) (acc : Int) : p.ss.filter (lastsF acc (-1)) = p.ss.filter (fun s => !decide (s.acc = acc)) := by
  refine List.filter_congr (fun s hs => ?_)
  have := h s hs
  unfold lastsF
  rw [decide_eq_true (show (-1 : Int) < s.exp by omega), Bool.and_true]
/-- Of contacts that lie packed the last is taken just if none is empty. -/
theorem gap_c4 {x : Per.R} (h : contB x = true) : (x.c4 = ⟨#[]⟩ ↔ gap x < 5) ∧ ∀ j, j < gap x → x.cs.getD j ⟨#[]⟩ ≠ ⟨#[]⟩ := by
  have hlen : x.cs.length = 5 := rfl
  have hne : ∀ j, j < gap x → x.cs.getD j ⟨#[]⟩ ≠ ⟨#[]⟩ := fun j hj => by
    have h5 : j < x.cs.length := Nat.lt_of_lt_of_le hj (List.findIdx_le_length)
    have := List.not_of_lt_findIdx hj
    rw [List.getD_eq_getElem?_getD, List.getElem?_eq_getElem h5, Option.getD_some]
    simpa using this
  refine ⟨⟨fun h4 => ?_, fun hg => ?_⟩, hne⟩
  · unfold gap
    rw [← hlen]
    exact List.findIdx_lt_length_of_exists ⟨x.c4, by simp [Per.R.cs], by simp [h4]⟩
  · obtain ⟨u, n, h1, h2, _⟩ := (contB_iff x).1 h
    have h4 : x.cs[4]? = some x.c4 := rfl
    have hgu : u.length ≤ gap x := by
      rcases Nat.lt_or_ge (gap x) u.length with q | q
      · exfalso
        have hlt : gap x < x.cs.length := by omega
        have := List.findIdx_getElem (w := hlt)
        have hm : x.cs[gap x] ∈ u := by
          have e1 : x.cs[gap x]? = u[gap x]? := by rw [h1, List.getElem?_append_left q]
          rw [List.getElem?_eq_getElem hlt, List.getElem?_eq_getElem q] at e1
          rw [Option.some.inj e1]
          exact List.getElem_mem q
        exact (h2 _ hm).1 (of_decide_eq_true this)
      · exact q
    rw [h1, List.getElem?_append_right (by omega), List.getElem?_replicate] at h4
    split at h4
    · exact (Option.some.inj h4).symm
    · cases h4
theorem gap_at {x : Per.R} (h : gap x < 5) : x.cs.getD (gap x) ⟨#[]⟩ = ⟨#[]⟩ := by
  have hlt : gap x < x.cs.length := h
  have := List.findIdx_getElem (w := hlt)
  rw [List.getD_eq_getElem?_getD, List.getElem?_eq_getElem hlt, Option.getD_some]
  exact of_decide_eq_true this
set_option maxHeartbeats 16000000 in
set_option maxRecDepth 100000 in
theorem apply16_any {N B0 : Nat} {w : World} {v : Value} {p : Ppl} (hown : pown w B0 v p) (hp : PI N p) (hc : PC p) (hN : N ≤ 100000) (hB0 : B0 ≤ w.heap.size) (e : Evn) (he : EvOk e) :
    Calls Tryz.prog 15 #[v, e.agg] w fun r w' => ∃ v', r = .returned (.tuple #[v', .int .i64 (appE p e)]) ∧ pown w' B0 v' (appR p e) ∧ Below w.heap.size w w' := by
  have EE : Hid (appE p e = if e.kind = 1 then sgnE p e else if e.kind < 1 ∨ 9 < e.kind then 1 else if p.ps.length ≤ at_ p e.acc then 12 else if e.kind = 8 then sesE p e else if e.kind = 9 then 0 else doesE p (p.ps[at_ p e.acc]?.getD Per.zero) e) := Lib.hid rfl
  have RR : Hid (appR p e = if e.kind = 1 then sgnR p e else if e.kind < 1 ∨ 9 < e.kind then p else if p.ps.length ≤ at_ p e.acc then p else if e.kind = 8 then sesR p e else if e.kind = 9 then revR p e.acc else if doesE p (p.ps[at_ p e.acc]?.getD Per.zero) e = 0 then ⟨p.ps.set (at_ p e.acc) (doesF p (p.ps[at_ p e.acc]?.getD Per.zero) e), p.ss⟩ else p) := Lib.hid rfl
  have DE : Hid (doesE p (p.ps[at_ p e.acc]?.getD Per.zero) e = if e.kind = 3 then pasE e.b e.c else if e.kind = 6 then movE p (p.ps[at_ p e.acc]?.getD Per.zero) e.a else if e.kind = 7 then contE (p.ps[at_ p e.acc]?.getD Per.zero) e.a else 0) := Lib.hid rfl
  have DF : Hid (doesF p (p.ps[at_ p e.acc]?.getD Per.zero) e = if e.kind = 2 then { (p.ps[at_ p e.acc]?.getD Per.zero) with ver := true } else if e.kind = 3 then pasF (p.ps[at_ p e.acc]?.getD Per.zero) e.b e.c else if e.kind = 4 then missF (p.ps[at_ p e.acc]?.getD Per.zero) e.at_ else if e.kind = 5 then { (p.ps[at_ p e.acc]?.getD Per.zero) with miss := 0 } else if e.kind = 6 then movF p (p.ps[at_ p e.acc]?.getD Per.zero) e.a else if e.kind = 7 then contF (p.ps[at_ p e.acc]?.getD Per.zero) e.a else (p.ps[at_ p e.acc]?.getD Per.zero)) := Lib.hid rfl
  have hown0 := hown
  obtain ⟨a, c, a', c', rfl, o1, o2⟩ := hown
  have lim := hp.few
  have hsm := hp.small hN
  have z3 := W3_size w (.slice a p.ps.length c) (.slice a' p.ss.length c') e
  have b3 := W3_below w (.slice a p.ps.length c) (.slice a' p.ss.length c') e
  have AT := Lib.hid (fun w2 b => W3_at (w := w) (w2 := w2) (.slice a p.ps.length c) (.slice a' p.ss.length c') e b)
  have PH := Lib.hid (fun w2 b => W3_heap (w := w) (w2 := w2) (.slice a p.ps.length c) (.slice a' p.ss.length c') e b)
  have BB : Hid (∀ w2, Below (w.heap.size + 3) (W3 w (.slice a p.ps.length c) (.slice a' p.ss.length c') e) w2 → Below w.heap.size w w2 ∧ w.heap.size + 3 ≤ w2.heap.size) := Lib.hid (fun w2 b => ⟨b3.trans (b.mono (by omega)), by have := b.size; omega⟩)
  have OP : Hid (∀ w2, Below w.heap.size w w2 → Per.owns w2 B0 (.slice a p.ps.length c) p.ps ∧ Ses.owns w2 B0 (.slice a' p.ss.length c') p.ss) := Lib.hid (fun w2 b => ⟨o1.below b, o2.below b⟩)
  have hB3 : B0 ≤ w.heap.size + 3 := by omega
  have SG : Hid (∀ w2, Below (w.heap.size + 3) (W3 w (.slice a p.ps.length c) (.slice a' p.ss.length c') e) w2 → Calls Tryz.prog 34 #[.agg #[.slice a p.ps.length c, .slice a' p.ss.length c'], e.agg] w2 fun r w' => ∃ a9 c9 a9' c9', r = .returned (.tuple #[.agg #[.slice a9 (sgnR p e).ps.length c9, .slice a9' (sgnR p e).ss.length c9'], .int .i64 (sgnE p e)]) ∧ pown w' B0 (.agg #[.slice a9 (sgnR p e).ps.length c9, .slice a9' (sgnR p e).ss.length c9']) (sgnR p e) ∧ Below (w.heap.size + 3) (W3 w (.slice a p.ps.length c) (.slice a' p.ss.length c') e) w') := Lib.hid (fun w2 b => by
    have hs := (BB.out _ b).2
    refine (signup16_any (hown0.below (BB.out _ b).1) lim hsm (by omega) e (by have := he.sz; omega)).mono fun r w' ⟨v', q1, q2, q3⟩ => ?_
    obtain ⟨a9, c9, a9', c9', rfl⟩ := q2.form
    exact ⟨a9, c9, a9', c9', q1, q2, b.trans (q3.mono hs)⟩)
  have SS : Hid (∀ w2, Below (w.heap.size + 3) (W3 w (.slice a p.ps.length c) (.slice a' p.ss.length c') e) w2 → Calls Tryz.prog 41 #[.agg #[.slice a p.ps.length c, .slice a' p.ss.length c'], e.agg] w2 fun r w' => ∃ a9 c9 a9' c9', r = .returned (.tuple #[.agg #[.slice a9 (sesR p e).ps.length c9, .slice a9' (sesR p e).ss.length c9'], .int .i64 (sesE p e)]) ∧ pown w' B0 (.agg #[.slice a9 (sesR p e).ps.length c9, .slice a9' (sesR p e).ss.length c9']) (sesR p e) ∧ Below (w.heap.size + 3) (W3 w (.slice a p.ps.length c) (.slice a' p.ss.length c') e) w') := Lib.hid (fun w2 b => by
    have hs := (BB.out _ b).2
    refine (session16_any (hown0.below (BB.out _ b).1) lim (by omega) (fun s hs => by have := (hc.ses s hs).2.1; omega) e).mono fun r w' ⟨v', q1, q2, q3⟩ => ?_
    obtain ⟨a9, c9, a9', c9', rfl⟩ := q2.form
    exact ⟨a9, c9, a9', c9', q1, q2, b.trans (q3.mono hs)⟩)
  have RV : Hid (∀ w2, Below (w.heap.size + 3) (W3 w (.slice a p.ps.length c) (.slice a' p.ss.length c') e) w2 → Calls Tryz.prog 42 #[.agg #[.slice a p.ps.length c, .slice a' p.ss.length c'], .int .i64 e.acc, .int .i64 (-1)] w2 fun r w' => ∃ a2 c2, r = .returned (.slice a2 (revR p e.acc).ss.length c2) ∧ Ses.owns w' (w.heap.size + 3) (.slice a2 (revR p e.acc).ss.length c2) (revR p e.acc).ss ∧ Below (w.heap.size + 3) (W3 w (.slice a p.ps.length c) (.slice a' p.ss.length c') e) w') := Lib.hid (fun w2 b => by
    have hs := (BB.out _ b).2
    have h := sessions16_any (hown0.below (BB.out _ b).1) lim e.acc (-1)
    rw [revF (fun s hs => (hc.ses s hs).2.2.2.1)] at h
    exact h.mono fun r w' ⟨a2, c2, q1, q2, q3⟩ => ⟨a2, c2, q1, q2.mono hs, b.trans (q3.mono hs)⟩)
  have W16 : Hid (∀ w2, Below (w.heap.size + 3) (W3 w (.slice a p.ps.length c) (.slice a' p.ss.length c') e) w2 → at_ p e.acc < p.ps.length → ∀ (id : Int) (mail : ByteArray) (ver : Bool) (salt chk : ByteArray) (vers miss lock : Int) (c0 c1 c2 c3 c4 : ByteArray), Calls Tryz.prog 43 #[.agg #[.slice a p.ps.length c, .slice a' p.ss.length c'], .int .i64 (at_ p e.acc : Nat), .agg #[.int .i64 id, .string mail, .bool ver, .string salt, .string chk, .int .i64 vers, .int .i64 miss, .int .i64 lock, .string c0, .string c1, .string c2, .string c3, .string c4]] w2 fun r w' => ∃ a9 c9 a9' c9', r = .returned (.agg #[.slice a9 p.ps.length c9, .slice a9' p.ss.length c9']) ∧ pown w' B0 (.agg #[.slice a9 p.ps.length c9, .slice a9' p.ss.length c9']) ⟨p.ps.set (at_ p e.acc) ⟨id, mail, ver, salt, chk, vers, miss, lock, c0, c1, c2, c3, c4⟩, p.ss⟩ ∧ Below (w.heap.size + 3) (W3 w (.slice a p.ps.length c) (.slice a' p.ss.length c') e) w') := Lib.hid (fun w2 b hi id mail ver salt chk vers miss lock c0 c1 c2 c3 c4 => by
    have hs := (BB.out _ b).2
    refine (with16_any (hown0.below (BB.out _ b).1) lim (by omega) _ hi ⟨id, mail, ver, salt, chk, vers, miss, lock, c0, c1, c2, c3, c4⟩).mono fun r w' ⟨v', q1, q2, q3⟩ => ?_
    obtain ⟨a9, c9, a9', c9', rfl⟩ := q2.form
    simp only [List.length_set] at q1 q2
    exact ⟨a9, c9, a9', c9', q1, q2, b.trans (q3.mono hs)⟩)
  have AA : Hid (∀ w2, Below (w.heap.size + 3) (W3 w (.slice a p.ps.length c) (.slice a' p.ss.length c') e) w2 → Calls Tryz.prog 35 #[.agg #[.slice a p.ps.length c, .slice a' p.ss.length c'], .int .i64 e.acc] w2 fun r w' => r = .returned (.int .i64 (if at_ p e.acc < p.ps.length then ((at_ p e.acc : Nat) : Int) else -1)) ∧ Below (w.heap.size + 3) (W3 w (.slice a p.ps.length c) (.slice a' p.ss.length c') e) w') := Lib.hid (fun w2 b =>
    (at16_any (hown0.below (BB.out _ b).1) lim e.acc).mono fun r w' ⟨q1, q2⟩ => ⟨q1, b.trans (q2.mono (BB.out _ b).2)⟩)
  have BY : Hid (∀ w2, Below (w.heap.size + 3) (W3 w (.slice a p.ps.length c) (.slice a' p.ss.length c') e) w2 → Calls Tryz.prog 37 #[.agg #[.slice a p.ps.length c, .slice a' p.ss.length c'], .string e.a] w2 fun r w' => r = .returned (.tuple #[(pick p.ps (fun x => decide (x.mail = e.a))).agg, .bool (byB p e.a)]) ∧ Below w2.heap.size w2 w') := Lib.hid (fun w2 b => by16_any (hown0.below (BB.out _ b).1) lim e.a)
  have ON : Hid (∀ w2, Calls Tryz.prog 36 #[.string e.a] w2 fun r w' => r = .returned (.bool (onesB e.a)) ∧ w' = w2) := Lib.hid (fun w2 => ones16_any e.a (by have := he.sz; omega) w2)
  have KY : Hid (∀ w2, Calls Tryz.prog 39 #[.string e.b, .string e.c] w2 fun r w' => r = .returned (.bool (keyB e.b e.c)) ∧ w' = w2) := Lib.hid (fun w2 => key16_any e.b e.c w2)
  have CK := Lib.hid (fun w2 => clock16_any e.at_ he.at_ w2)
  have HS := Lib.hid (fun (x : Per.R) w2 => has16_any x e.a w2)
  have MEM : Hid (at_ p e.acc < p.ps.length → p.ps[at_ p e.acc]?.getD Per.zero ∈ p.ps) := Lib.hid (fun h => mem16 h)
  have SMX : Hid (∀ x ∈ p.ps, (-1000000000 ≤ x.miss ∧ x.miss ≤ 1000000000) ∧ (-1000000000 ≤ x.vers ∧ x.vers ≤ 1000000000) ∧ contB x = true) := Lib.hid (fun x hx => by
    obtain ⟨k, hk, rfl⟩ := List.mem_iff_getElem.1 hx
    have h1 := (hp.pp k hk).miss
    have h2 := (hp.pp k hk).vers
    exact ⟨by omega, by omega, hc.cont _ hx⟩)
  have G4 := Lib.hid (fun (x : Per.R) h => gap_c4 (x := x) h)
  obtain ⟨⟨x0, x1⟩, ⟨v0, v1, v2, v3, v4, v5, v6, v7⟩, ⟨y0, y1, y2, y3⟩, yf, _⟩ := AT.out _ (Below.refl _ _)
  obtain ⟨ix, hix⟩ : ∃ ix, at_ p e.acc = ix := ⟨_, rfl⟩
  rw [hix] at EE RR DE DF W16 AA MEM
  clear hown0 o1 o2 lim hsm hp hc he z3 b3 hix
  generalize appE p e = ae at *
  generalize appR p e = ar at *
  generalize pick p.ps (fun x => decide (x.mail = e.a)) = yp at *
  have BYB : Hid (∀ x : Per.R, movE p x e.a = if onesB e.a = false then 1 else if (byB p e.a || hasB x e.a) = true then 14 else 0) := Lib.hid (fun _ => rfl)
  have CTE : Hid (∀ x : Per.R, contE x e.a = if freeE x e.a (decide (x.mail = e.a)) ≠ 0 then freeE x e.a (decide (x.mail = e.a)) else if 5 ≤ gap x then 15 else 0) := Lib.hid (fun _ => rfl)
  have FRE : Hid (∀ (x : Per.R) (t : Bool), freeE x e.a t = if onesB e.a = false then 1 else if (t || hasB x e.a) = true then 14 else 0) := Lib.hid (fun _ _ => rfl)
  obtain ⟨yid, ymail, yver, ysalt, ychk, yvers, ymiss, ylock, yc0, yc1, yc2, yc3, yc4⟩ := yp
  have RVP : Hid ((revR p e.acc).ps = p.ps) := Lib.hid rfl
  generalize sgnR p e = sgr at *
  generalize sgnE p e = sge at *
  generalize sesR p e = ser at *
  generalize sesE p e = see at *
  generalize revR p e.acc = rv at *
  obtain ⟨kd, ac, pu, t, nu, ea, eb, ec⟩ := e
  unfold W3 pobj Evn.obj at *
  unfold Evn.agg at *
  unfold Per.R.agg at BY HS
  simp only at *
  by_cases h1 : kd = 1
  · have HE : Hid (ae = sge) := Lib.hid (by rw [EE.out, if_pos h1])
    have HR : Hid (ar = sgr) := Lib.hid (by rw [RR.out, if_pos h1])
    subst h1
    clear EE RR DE DF W16 AA
    go_enter Tryz.func15, Tryz.ntmps15
    go_wp2_with (go_at_call 34; (refine (SG.out _ (Below.refl _ _)).mono ?_); rintro z w9 ⟨a9, c9, a9', c9', rfl, o9, b9⟩; have O9 := Lib.hid o9; have B9 := Lib.hid b9; obtain ⟨_, _, ⟨_, _, l0, l1⟩, lf, hres⟩ := AT.out _ b9; have RH := Lib.hid hres; clear o9 b9 hres)
    refine bodyPost_ret (v := .tuple #[.agg #[.slice a9 sgr.ps.length c9, .slice a9' sgr.ss.length c9'], .int .i64 sge]) ?_ rfl ⟨_, by rw [HE.out], ?_, ?_⟩
    · simp [results, Tryz.f15, go_sem, l0, l1]
    · rw [HR.out]
      exact O9.out.apart RH.out _ _
    · exact ((BB.out _ B9.out).1.setCell (by first | omega | (simp; omega) | simp) _).setCell (by first | omega | (simp; omega) | simp) _
  · by_cases h2 : kd < 1 ∨ 9 < kd
    · have HE : Hid (ae = 1) := Lib.hid (by rw [EE.out, if_neg h1, if_pos h2])
      have HR : Hid (ar = p) := Lib.hid (by rw [RR.out, if_neg h1, if_pos h2])
      clear EE RR DE DF W16 AA
      have B0W := Lib.hid (Below.refl (w.heap.size + 3) (((w.alloc (.cells #[.slice a p.ps.length c, .slice a' p.ss.length c'] 25)).alloc (.cells #[.int .i64 kd, .int .i64 ac, .int .i64 pu, .int .i64 t, .int .i64 nu, .string ea, .string eb, .string ec] 46)).alloc (.cells #[.slice none 0 0, .slice none 0 0] 25)))
      obtain ⟨_, _, ⟨_, _, l0, l1⟩, lf, _⟩ := AT.out _ B0W.out
      have h1' : (kd == 1) = false := by simpa using h1
      rcases h2 with h2 | h2
      · go_enter Tryz.func15, Tryz.ntmps15
        go_upto_region 4 with fail
        obtain ⟨w1, hw1⟩ : ∃ w1, (((w.alloc (.cells #[.slice a p.ps.length c, .slice a' p.ss.length c'] 25)).alloc (.cells #[.int .i64 kd, .int .i64 ac, .int .i64 pu, .int .i64 t, .int .i64 nu, .string ea, .string eb, .string ec] 46)).alloc (.cells #[.slice none 0 0, .slice none 0 0] 25)) = w1 := ⟨_, rfl⟩
        have BB1 := (BB.out _ B0W.out).1
        rw [hw1] at B0W l0 l1 BB1 ⊢
        simp only [hw1] at lf x0 x1 v0 v1 v2 v3 v4 v5 v6 v7
        clear hw1
        go_wp2_with fail
        refine bodyPost_ret (v := .tuple #[.agg #[.slice a p.ps.length c, .slice a' p.ss.length c'], .int .i64 1]) ?_ rfl ⟨_, by rw [HE.out], ?_, ?_⟩
        · simp [results, Tryz.f15, go_sem, l0, l1]
        · rw [HR.out]
          exact ⟨a, c, a', c', rfl, (OP.out _ ((BB1.setCell (by first | omega | (simp; omega) | simp) _).setCell (by first | omega | (simp; omega) | simp) _)).1, (OP.out _ ((BB1.setCell (by first | omega | (simp; omega) | simp) _).setCell (by first | omega | (simp; omega) | simp) _)).2⟩
        · exact ((BB1.setCell (by first | omega | (simp; omega) | simp) _).setCell (by first | omega | (simp; omega) | simp) _)
      · have h2' : ¬ kd < 1 := by omega
        go_enter Tryz.func15, Tryz.ntmps15
        go_upto_region 4 with fail
        obtain ⟨w1, hw1⟩ : ∃ w1, (((w.alloc (.cells #[.slice a p.ps.length c, .slice a' p.ss.length c'] 25)).alloc (.cells #[.int .i64 kd, .int .i64 ac, .int .i64 pu, .int .i64 t, .int .i64 nu, .string ea, .string eb, .string ec] 46)).alloc (.cells #[.slice none 0 0, .slice none 0 0] 25)) = w1 := ⟨_, rfl⟩
        have BB1 := (BB.out _ B0W.out).1
        rw [hw1] at B0W l0 l1 BB1 ⊢
        simp only [hw1] at lf x0 x1 v0 v1 v2 v3 v4 v5 v6 v7
        clear hw1
        go_wp2_with fail
        refine bodyPost_ret (v := .tuple #[.agg #[.slice a p.ps.length c, .slice a' p.ss.length c'], .int .i64 1]) ?_ rfl ⟨_, by rw [HE.out], ?_, ?_⟩
        · simp [results, Tryz.f15, go_sem, l0, l1]
        · rw [HR.out]
          exact ⟨a, c, a', c', rfl, (OP.out _ ((BB1.setCell (by first | omega | (simp; omega) | simp) _).setCell (by first | omega | (simp; omega) | simp) _)).1, (OP.out _ ((BB1.setCell (by first | omega | (simp; omega) | simp) _).setCell (by first | omega | (simp; omega) | simp) _)).2⟩
        · exact ((BB1.setCell (by first | omega | (simp; omega) | simp) _).setCell (by first | omega | (simp; omega) | simp) _)
    · have hk1 : ¬ kd < 1 := by omega
      have hk9 : ¬ 9 < kd := by omega
      have h1' : (kd == 1) = false := by simpa using h1
      by_cases hi : ix < p.ps.length
      · rw [if_pos hi] at AA
        have hil : ¬ p.ps.length ≤ ix := by omega
        rw [if_neg h1, if_neg h2, if_neg hil] at EE RR
        have hi0 : ¬ (ix : Int) < 0 := by omega
        have hi1 : (0 : Int) ≤ ix := by omega
        have hi2 : (ix : Int) < p.ps.length := by omega
        have XM := Lib.hid (SMX.out _ (MEM.out hi))
        obtain ⟨x, hx⟩ : ∃ x, p.ps[ix]?.getD Per.zero = x := ⟨_, rfl⟩
        rw [hx] at DE DF EE RR XM
        have HX := Lib.hid hx
        clear hx MEM SMX SG
        obtain ⟨g, hg, _⟩ := (OP.out _ (BB.out _ (Below.refl _ _)).1).1.all ix hi
        subst hg
        obtain ⟨xid, xmail, xver, xsalt, xchk, xvers, xmiss, xlock, xc0, xc1, xc2, xc3, xc4⟩ := x
        simp only at XM
        have G4X := Lib.hid (G4.out ⟨xid, xmail, xver, xsalt, xchk, xvers, xmiss, xlock, xc0, xc1, xc2, xc3, xc4⟩ XM.out.2.2)
        clear G4
        go_enter Tryz.func15, Tryz.ntmps15
        go_upto_region 12 with (first
          | (go_at_call 35; (refine (AA.out _ (Below.refl _ _)).mono ?_); rintro z w4 ⟨rfl, b4⟩; have B4 := Lib.hid b4; obtain ⟨⟨k0, k1⟩, ⟨g0, g1, g2, g3, g4, g5, g6, g7⟩, _, _, _⟩ := AT.out _ b4; obtain ⟨g', hg', _, _, m0, m1, m2, m3, m4, m5, m6, m7, m8, m9, m10, m11, m12⟩ := (OP.out _ (BB.out _ b4).1).1.all ix hi; obtain rfl : g = g' := (by injection hg' with hh; injection hh with hh); rw [HX.out] at m0 m1 m2 m3 m4 m5 m6 m7 m8 m9 m10 m11 m12; simp only at m0 m1 m2 m3 m4 m5 m6 m7 m8 m9 m10 m11 m12; have B5 := Lib.hid (b4.alloc (BB.out _ b4).2 (.cells #[.int .i64 xid, .string xmail, .bool xver, .string xsalt, .string xchk, .int .i64 xvers, .int .i64 xmiss, .int .i64 xlock, .string xc0, .string xc1, .string xc2, .string xc3, .string xc4] 34)); have H5 := Lib.hid (heap_new w4 (.cells #[.int .i64 xid, .string xmail, .bool xver, .string xsalt, .string xchk, .int .i64 xvers, .int .i64 xmiss, .int .i64 xlock, .string xc0, .string xc1, .string xc2, .string xc3, .string xc4] 34)); obtain ⟨⟨k0, k1⟩, ⟨g0, g1, g2, g3, g4, g5, g6, g7⟩, _, _, _⟩ := AT.out _ B5.out; obtain ⟨n0, n1, n2, n3, n4, n5, n6, n7, n8, n9, n10, n11, n12⟩ := Per.At.of_heap (m := ⟨xid, xmail, xver, xsalt, xchk, xvers, xmiss, xlock, xc0, xc1, xc2, xc3, xc4⟩) H5.out; clear b4 hg')
          | (go_at_call 36; (refine (ON.out _).mono ?_); rintro z w0 ⟨rfl, rfl⟩)
          | (go_at_call 37; (refine (BY.out _ B5.out).mono ?_); rintro z w6 ⟨rfl, b6⟩; have B6 := Lib.hid (B5.out.trans (b6.mono (BB.out _ B5.out).2)); have H6 := (b6.block w4.heap.size (by simp)).trans H5.out; have B6a := Lib.hid (B6.out.alloc (BB.out _ B6.out).2 (.cells #[.int .i64 yid, .string ymail, .bool yver, .string ysalt, .string ychk, .int .i64 yvers, .int .i64 ymiss, .int .i64 ylock, .string yc0, .string yc1, .string yc2, .string yc3, .string yc4] 34)); have H6a := Lib.hid ((Lib.alloc_old w6 (.cells #[.int .i64 yid, .string ymail, .bool yver, .string ysalt, .string ychk, .int .i64 yvers, .int .i64 ymiss, .int .i64 ylock, .string yc0, .string yc1, .string yc2, .string yc3, .string yc4] 34) _ (heap_lt H6)).trans H6); obtain ⟨⟨k0, k1⟩, ⟨g0, g1, g2, g3, g4, g5, g6, g7⟩, _, _, _⟩ := AT.out _ B6a.out; obtain ⟨n0, n1, n2, n3, n4, n5, n6, n7, n8, n9, n10, n11, n12⟩ := Per.At.of_heap (m := ⟨xid, xmail, xver, xsalt, xchk, xvers, xmiss, xlock, xc0, xc1, xc2, xc3, xc4⟩) H6a.out; clear b6 H6)
          | (go_at_call 38; (refine (HS.out ⟨xid, xmail, xver, xsalt, xchk, xvers, xmiss, xlock, xc0, xc1, xc2, xc3, xc4⟩ _).mono ?_); rintro z w7 ⟨rfl, b7⟩; have B7 := Lib.hid (B6a.out.trans (b7.mono (BB.out _ B6a.out).2)); have H7 := Lib.hid ((b7.block w4.heap.size (heap_lt H6a.out)).trans H6a.out); obtain ⟨⟨k0, k1⟩, ⟨g0, g1, g2, g3, g4, g5, g6, g7⟩, _, _, _⟩ := AT.out _ B7.out; obtain ⟨n0, n1, n2, n3, n4, n5, n6, n7, n8, n9, n10, n11, n12⟩ := Per.At.of_heap (m := ⟨xid, xmail, xver, xsalt, xchk, xvers, xmiss, xlock, xc0, xc1, xc2, xc3, xc4⟩) H7.out; clear b7))
        have HP7 := Lib.hid (PH.out _ B7.out)
        obtain ⟨_, pf⟩ := pcell_of (v1 := .slice (some ⟨g, 0, none⟩) p.ps.length c) (v2 := .slice a' p.ss.length c') HP7.out
        obtain ⟨_, _, ⟨_, _, l0, l1⟩, lf, _⟩ := AT.out _ B7.out
        have xf := fun j => frozen_of_row _ _ j _ _ H7.out
        have PE : pasE eb ec = if keyB eb ec = true then 0 else 1 := rfl
        have PF : pasF ⟨xid, xmail, xver, xsalt, xchk, xvers, xmiss, xlock, xc0, xc1, xc2, xc3, xc4⟩ eb ec = if keyB eb ec = true then ⟨xid, xmail, xver, eb, ec, min (xvers + 1) 1099511627776, 0, 0, xc0, xc1, xc2, xc3, xc4⟩ else ⟨xid, xmail, xver, xsalt, xchk, xvers, xmiss, xlock, xc0, xc1, xc2, xc3, xc4⟩ := rfl
        have MF : Hid (missF ⟨xid, xmail, xver, xsalt, xchk, xvers, xmiss, xlock, xc0, xc1, xc2, xc3, xc4⟩ t = if 5 ≤ xmiss + 1 then ⟨xid, xmail, xver, xsalt, xchk, xvers, 0, clk t 100, xc0, xc1, xc2, xc3, xc4⟩ else ⟨xid, xmail, xver, xsalt, xchk, xvers, xmiss + 1, xlock, xc0, xc1, xc2, xc3, xc4⟩) := Lib.hid rfl
        have MVF : Hid (movF p ⟨xid, xmail, xver, xsalt, xchk, xvers, xmiss, xlock, xc0, xc1, xc2, xc3, xc4⟩ ea = if movE p ⟨xid, xmail, xver, xsalt, xchk, xvers, xmiss, xlock, xc0, xc1, xc2, xc3, xc4⟩ ea = 0 then ⟨xid, ea, true, xsalt, xchk, xvers, xmiss, xlock, xc0, xc1, xc2, xc3, xc4⟩ else ⟨xid, xmail, xver, xsalt, xchk, xvers, xmiss, xlock, xc0, xc1, xc2, xc3, xc4⟩) := Lib.hid rfl
        have CTF : Hid (contF ⟨xid, xmail, xver, xsalt, xchk, xvers, xmiss, xlock, xc0, xc1, xc2, xc3, xc4⟩ ea = if contE ⟨xid, xmail, xver, xsalt, xchk, xvers, xmiss, xlock, xc0, xc1, xc2, xc3, xc4⟩ ea = 0 then putC ⟨xid, xmail, xver, xsalt, xchk, xvers, xmiss, xlock, xc0, xc1, xc2, xc3, xc4⟩ (gap ⟨xid, xmail, xver, xsalt, xchk, xvers, xmiss, xlock, xc0, xc1, xc2, xc3, xc4⟩) ea else ⟨xid, xmail, xver, xsalt, xchk, xvers, xmiss, xlock, xc0, xc1, xc2, xc3, xc4⟩) := Lib.hid rfl
        have GAT := Lib.hid (gap_at (x := ⟨xid, xmail, xver, xsalt, xchk, xvers, xmiss, xlock, xc0, xc1, xc2, xc3, xc4⟩))
        have BY2 := BYB.out ⟨xid, xmail, xver, xsalt, xchk, xvers, xmiss, xlock, xc0, xc1, xc2, xc3, xc4⟩
        have CT2 : contE ⟨xid, xmail, xver, xsalt, xchk, xvers, xmiss, xlock, xc0, xc1, xc2, xc3, xc4⟩ ea = if freeE ⟨xid, xmail, xver, xsalt, xchk, xvers, xmiss, xlock, xc0, xc1, xc2, xc3, xc4⟩ ea (decide (xmail = ea)) ≠ 0 then freeE ⟨xid, xmail, xver, xsalt, xchk, xvers, xmiss, xlock, xc0, xc1, xc2, xc3, xc4⟩ ea (decide (xmail = ea)) else if 5 ≤ gap ⟨xid, xmail, xver, xsalt, xchk, xvers, xmiss, xlock, xc0, xc1, xc2, xc3, xc4⟩ then 15 else 0 := CTE.out ⟨xid, xmail, xver, xsalt, xchk, xvers, xmiss, xlock, xc0, xc1, xc2, xc3, xc4⟩
        have FR2 := FRE.out ⟨xid, xmail, xver, xsalt, xchk, xvers, xmiss, xlock, xc0, xc1, xc2, xc3, xc4⟩ (decide (xmail = ea))
        clear BY ON HS AA BYB CTE FRE
        generalize hasB ⟨xid, xmail, xver, xsalt, xchk, xvers, xmiss, xlock, xc0, xc1, xc2, xc3, xc4⟩ ea = hs at *
        generalize byB p ea = th at *
        generalize onesB ea = on at *
        generalize keyB eb ec = ky at *
        have BY2 := Lib.hid BY2
        have PE := Lib.hid PE
        have PF := Lib.hid PF
        have CT2 := Lib.hid CT2
        have FR2 := Lib.hid FR2
        have hz4 := (BB.out _ B4.out).2
        have ne1 : ¬ w4.heap.size = w.heap.size := by omega
        have ne2 : ¬ w.heap.size = w4.heap.size := by omega
        have ne3 : ¬ w4.heap.size = w.heap.size + 1 := by omega
        have ne4 : ¬ w.heap.size + 1 = w4.heap.size := by omega
        clear hz4
        have xm1 := XM.out.1
        have xm2 := XM.out.2.1
        have hkk : kd = 2 ∨ kd = 3 ∨ kd = 4 ∨ kd = 5 ∨ kd = 6 ∨ kd = 7 ∨ kd = 8 ∨ kd = 9 := by omega
        clear h1 h2 h1' hk1 hk9
        rcases hkk with rfl | rfl | rfl | rfl | rfl | rfl | rfl | rfl
        · skip
          have HD : doesE p ⟨xid, xmail, xver, xsalt, xchk, xvers, xmiss, xlock, xc0, xc1, xc2, xc3, xc4⟩ ⟨2, ac, pu, t, nu, ea, eb, ec⟩ = 0 := by rw [DE.out, if_neg (by decide), if_neg (by decide), if_neg (by decide)]
          have HE : Hid (ae = 0) := Lib.hid (by rw [EE.out, if_neg (by decide), if_neg (by decide), HD])
          have HR : Hid (ar = ⟨p.ps.set ix ⟨xid, xmail, true, xsalt, xchk, xvers, xmiss, xlock, xc0, xc1, xc2, xc3, xc4⟩, p.ss⟩) := Lib.hid (by rw [RR.out, if_neg (by decide), if_neg (by decide), if_pos HD, DF.out, if_pos rfl])
          clear EE RR DE DF BY2 CT2 FR2 PE PF MF MVF CTF GAT HD
          go_wp2_with (go_at_call 43; (with_reducible refine (W16.out _ (B7.out.setCell (by have := (BB.out _ B4.out).2; first | omega | (simp; omega)) _) hi _ _ _ _ _ _ _ _ _ _ _ _ _).mono ?_); rintro z w9 ⟨a9, c9, a9', c9', rfl, o9, b9⟩; have O9 := Lib.hid o9; have B9 := Lib.hid b9; obtain ⟨_, _, ⟨_, _, l0, l1⟩, lf, hres⟩ := AT.out _ b9; have RH := Lib.hid hres; clear o9 b9 hres)
          refine bodyPost_ret (v := .tuple #[.agg #[.slice a9 p.ps.length c9, .slice a9' p.ss.length c9'], .int .i64 0]) ?_ rfl ⟨_, by rw [HE.out], ?_, ?_⟩
          · simp [results, Tryz.f15, go_sem, l0, l1]
          · rw [HR.out]
            exact O9.out.apart RH.out _ _
          · exact ((BB.out _ B9.out).1.setCell (by first | omega | (simp; omega) | simp) _).setCell (by first | omega | (simp; omega) | simp) _
        · cases ky
          · skip
            have HD : doesE p ⟨xid, xmail, xver, xsalt, xchk, xvers, xmiss, xlock, xc0, xc1, xc2, xc3, xc4⟩ ⟨3, ac, pu, t, nu, ea, eb, ec⟩ = 1 := by rw [DE.out, if_pos rfl, PE.out, if_neg (by decide)]
            have HE : Hid (ae = 1) := Lib.hid (by rw [EE.out, if_neg (by decide), if_neg (by decide), HD])
            have HR : Hid (ar = p) := Lib.hid (by rw [RR.out, if_neg (by decide), if_neg (by decide), if_neg (by rw [HD]; decide)])
            clear EE RR DE DF BY2 CT2 FR2 PE PF MF MVF CTF GAT HD
            go_wp2_with (go_at_call 39; (refine (KY.out _).mono ?_); rintro z w8 ⟨rfl, rfl⟩)
            refine bodyPost_ret (v := .tuple #[.agg #[.slice (some ⟨g, 0, none⟩) p.ps.length c, .slice a' p.ss.length c'], .int .i64 1]) ?_ rfl ⟨_, by rw [HE.out], ?_, ?_⟩
            · simp [results, Tryz.f15, go_sem, l0, l1]
            · rw [HR.out]
              exact ⟨(some ⟨g, 0, none⟩), c, a', c', rfl, (OP.out _ (((BB.out _ B7.out).1.setCell (by first | omega | (simp; omega) | simp) _).setCell (by first | omega | (simp; omega) | simp) _)).1, (OP.out _ (((BB.out _ B7.out).1.setCell (by first | omega | (simp; omega) | simp) _).setCell (by first | omega | (simp; omega) | simp) _)).2⟩
            · exact (((BB.out _ B7.out).1.setCell (by first | omega | (simp; omega) | simp) _).setCell (by first | omega | (simp; omega) | simp) _)
          · have hwv : IntKind.i64.wrap (xvers + 1) = xvers + 1 := by rw [IntKind.wrap_i64] <;> omega
            have hv4 : xvers < 1099511627776 := by omega
            have hmn : min (xvers + 1) 1099511627776 = xvers + 1 := Int.min_eq_left (by omega)
            have HD : doesE p ⟨xid, xmail, xver, xsalt, xchk, xvers, xmiss, xlock, xc0, xc1, xc2, xc3, xc4⟩ ⟨3, ac, pu, t, nu, ea, eb, ec⟩ = 0 := by rw [DE.out, if_pos rfl, PE.out, if_pos rfl]
            have HE : Hid (ae = 0) := Lib.hid (by rw [EE.out, if_neg (by decide), if_neg (by decide), HD])
            have HR : Hid (ar = ⟨p.ps.set ix ⟨xid, xmail, xver, eb, ec, (xvers + 1), 0, 0, xc0, xc1, xc2, xc3, xc4⟩, p.ss⟩) := Lib.hid (by rw [RR.out, if_neg (by decide), if_neg (by decide), if_pos HD, DF.out, if_neg (by decide), if_pos rfl, PF.out, if_pos rfl, hmn])
            clear EE RR DE DF BY2 CT2 FR2 PE PF MF MVF CTF GAT HD
            go_wp2_with (first
              | (go_at_call 39; (refine (KY.out _).mono ?_); rintro z w8 ⟨rfl, rfl⟩)
              | (go_at_call 43; (with_reducible refine (W16.out _ (((((B7.out.setCell (by have := (BB.out _ B4.out).2; first | omega | (simp; omega)) _).setCell (by have := (BB.out _ B4.out).2; first | omega | (simp; omega)) _).setCell (by have := (BB.out _ B4.out).2; first | omega | (simp; omega)) _).setCell (by have := (BB.out _ B4.out).2; first | omega | (simp; omega)) _).setCell (by have := (BB.out _ B4.out).2; first | omega | (simp; omega)) _) hi _ _ _ _ _ _ _ _ _ _ _ _ _).mono ?_); rintro z w9 ⟨a9, c9, a9', c9', rfl, o9, b9⟩; have O9 := Lib.hid o9; have B9 := Lib.hid b9; obtain ⟨_, _, ⟨_, _, l0, l1⟩, lf, hres⟩ := AT.out _ b9; have RH := Lib.hid hres; clear o9 b9 hres))
            refine bodyPost_ret (v := .tuple #[.agg #[.slice a9 p.ps.length c9, .slice a9' p.ss.length c9'], .int .i64 0]) ?_ rfl ⟨_, by rw [HE.out], ?_, ?_⟩
            · simp [results, Tryz.f15, go_sem, l0, l1]
            · rw [HR.out]
              exact O9.out.apart RH.out _ _
            · exact ((BB.out _ B9.out).1.setCell (by first | omega | (simp; omega) | simp) _).setCell (by first | omega | (simp; omega) | simp) _
        · have hwm : IntKind.i64.wrap (xmiss + 1) = xmiss + 1 := by rw [IntKind.wrap_i64] <;> omega
          by_cases h5 : 5 ≤ xmiss + 1
          · skip
            have HD : doesE p ⟨xid, xmail, xver, xsalt, xchk, xvers, xmiss, xlock, xc0, xc1, xc2, xc3, xc4⟩ ⟨4, ac, pu, t, nu, ea, eb, ec⟩ = 0 := by rw [DE.out, if_neg (by decide), if_neg (by decide), if_neg (by decide)]
            have HE : Hid (ae = 0) := Lib.hid (by rw [EE.out, if_neg (by decide), if_neg (by decide), HD])
            have HR : Hid (ar = ⟨p.ps.set ix ⟨xid, xmail, xver, xsalt, xchk, xvers, 0, (clk t 100), xc0, xc1, xc2, xc3, xc4⟩, p.ss⟩) := Lib.hid (by rw [RR.out, if_neg (by decide), if_neg (by decide), if_pos HD, DF.out, if_neg (by decide), if_neg (by decide), if_pos rfl, MF.out, if_pos h5])
            clear EE RR DE DF BY2 CT2 FR2 PE PF MF MVF CTF GAT HD
            go_wp2_with (first
              | (go_at_call 40; (refine (CK.out _).mono ?_); rintro z w8 ⟨rfl, rfl⟩)
              | (go_at_call 43; (with_reducible refine (W16.out _ (((B7.out.setCell (by have := (BB.out _ B4.out).2; first | omega | (simp; omega)) _).setCell (by have := (BB.out _ B4.out).2; first | omega | (simp; omega)) _).setCell (by have := (BB.out _ B4.out).2; first | omega | (simp; omega)) _) hi _ _ _ _ _ _ _ _ _ _ _ _ _).mono ?_); rintro z w9 ⟨a9, c9, a9', c9', rfl, o9, b9⟩; have O9 := Lib.hid o9; have B9 := Lib.hid b9; obtain ⟨_, _, ⟨_, _, l0, l1⟩, lf, hres⟩ := AT.out _ b9; have RH := Lib.hid hres; clear o9 b9 hres))
            refine bodyPost_ret (v := .tuple #[.agg #[.slice a9 p.ps.length c9, .slice a9' p.ss.length c9'], .int .i64 0]) ?_ rfl ⟨_, by rw [HE.out], ?_, ?_⟩
            · simp [results, Tryz.f15, go_sem, l0, l1]
            · rw [HR.out]
              exact O9.out.apart RH.out _ _
            · exact ((BB.out _ B9.out).1.setCell (by first | omega | (simp; omega) | simp) _).setCell (by first | omega | (simp; omega) | simp) _
          · skip
            have HD : doesE p ⟨xid, xmail, xver, xsalt, xchk, xvers, xmiss, xlock, xc0, xc1, xc2, xc3, xc4⟩ ⟨4, ac, pu, t, nu, ea, eb, ec⟩ = 0 := by rw [DE.out, if_neg (by decide), if_neg (by decide), if_neg (by decide)]
            have HE : Hid (ae = 0) := Lib.hid (by rw [EE.out, if_neg (by decide), if_neg (by decide), HD])
            have HR : Hid (ar = ⟨p.ps.set ix ⟨xid, xmail, xver, xsalt, xchk, xvers, (xmiss + 1), xlock, xc0, xc1, xc2, xc3, xc4⟩, p.ss⟩) := Lib.hid (by rw [RR.out, if_neg (by decide), if_neg (by decide), if_pos HD, DF.out, if_neg (by decide), if_neg (by decide), if_pos rfl, MF.out, if_neg h5])
            clear EE RR DE DF BY2 CT2 FR2 PE PF MF MVF CTF GAT HD
            go_wp2_with (go_at_call 43; (with_reducible refine (W16.out _ (B7.out.setCell (by have := (BB.out _ B4.out).2; first | omega | (simp; omega)) _) hi _ _ _ _ _ _ _ _ _ _ _ _ _).mono ?_); rintro z w9 ⟨a9, c9, a9', c9', rfl, o9, b9⟩; have O9 := Lib.hid o9; have B9 := Lib.hid b9; obtain ⟨_, _, ⟨_, _, l0, l1⟩, lf, hres⟩ := AT.out _ b9; have RH := Lib.hid hres; clear o9 b9 hres)
            refine bodyPost_ret (v := .tuple #[.agg #[.slice a9 p.ps.length c9, .slice a9' p.ss.length c9'], .int .i64 0]) ?_ rfl ⟨_, by rw [HE.out], ?_, ?_⟩
            · simp [results, Tryz.f15, go_sem, l0, l1]
            · rw [HR.out]
              exact O9.out.apart RH.out _ _
            · exact ((BB.out _ B9.out).1.setCell (by first | omega | (simp; omega) | simp) _).setCell (by first | omega | (simp; omega) | simp) _
        · skip
          have HD : doesE p ⟨xid, xmail, xver, xsalt, xchk, xvers, xmiss, xlock, xc0, xc1, xc2, xc3, xc4⟩ ⟨5, ac, pu, t, nu, ea, eb, ec⟩ = 0 := by rw [DE.out, if_neg (by decide), if_neg (by decide), if_neg (by decide)]
          have HE : Hid (ae = 0) := Lib.hid (by rw [EE.out, if_neg (by decide), if_neg (by decide), HD])
          have HR : Hid (ar = ⟨p.ps.set ix ⟨xid, xmail, xver, xsalt, xchk, xvers, 0, xlock, xc0, xc1, xc2, xc3, xc4⟩, p.ss⟩) := Lib.hid (by rw [RR.out, if_neg (by decide), if_neg (by decide), if_pos HD, DF.out, if_neg (by decide), if_neg (by decide), if_neg (by decide), if_pos rfl])
          clear EE RR DE DF BY2 CT2 FR2 PE PF MF MVF CTF GAT HD
          go_wp2_with (go_at_call 43; (with_reducible refine (W16.out _ (B7.out.setCell (by have := (BB.out _ B4.out).2; first | omega | (simp; omega)) _) hi _ _ _ _ _ _ _ _ _ _ _ _ _).mono ?_); rintro z w9 ⟨a9, c9, a9', c9', rfl, o9, b9⟩; have O9 := Lib.hid o9; have B9 := Lib.hid b9; obtain ⟨_, _, ⟨_, _, l0, l1⟩, lf, hres⟩ := AT.out _ b9; have RH := Lib.hid hres; clear o9 b9 hres)
          refine bodyPost_ret (v := .tuple #[.agg #[.slice a9 p.ps.length c9, .slice a9' p.ss.length c9'], .int .i64 0]) ?_ rfl ⟨_, by rw [HE.out], ?_, ?_⟩
          · simp [results, Tryz.f15, go_sem, l0, l1]
          · rw [HR.out]
            exact O9.out.apart RH.out _ _
          · exact ((BB.out _ B9.out).1.setCell (by first | omega | (simp; omega) | simp) _).setCell (by first | omega | (simp; omega) | simp) _
        · cases on
          · skip
            have HD : doesE p ⟨xid, xmail, xver, xsalt, xchk, xvers, xmiss, xlock, xc0, xc1, xc2, xc3, xc4⟩ ⟨6, ac, pu, t, nu, ea, eb, ec⟩ = 1 := by rw [DE.out, if_neg (by decide), if_pos rfl, BY2.out, if_pos rfl]
            have HE : Hid (ae = 1) := Lib.hid (by rw [EE.out, if_neg (by decide), if_neg (by decide), HD])
            have HR : Hid (ar = p) := Lib.hid (by rw [RR.out, if_neg (by decide), if_neg (by decide), if_neg (by rw [HD]; decide)])
            clear EE RR DE DF BY2 CT2 FR2 PE PF MF MVF CTF GAT HD
            go_wp2_with fail
            refine bodyPost_ret (v := .tuple #[.agg #[.slice (some ⟨g, 0, none⟩) p.ps.length c, .slice a' p.ss.length c'], .int .i64 1]) ?_ rfl ⟨_, by rw [HE.out], ?_, ?_⟩
            · simp [results, Tryz.f15, go_sem, l0, l1]
            · rw [HR.out]
              exact ⟨(some ⟨g, 0, none⟩), c, a', c', rfl, (OP.out _ (((BB.out _ B7.out).1.setCell (by first | omega | (simp; omega) | simp) _).setCell (by first | omega | (simp; omega) | simp) _)).1, (OP.out _ (((BB.out _ B7.out).1.setCell (by first | omega | (simp; omega) | simp) _).setCell (by first | omega | (simp; omega) | simp) _)).2⟩
            · exact (((BB.out _ B7.out).1.setCell (by first | omega | (simp; omega) | simp) _).setCell (by first | omega | (simp; omega) | simp) _)
          · cases th
            · cases hs
              · have hmv : movE p ⟨xid, xmail, xver, xsalt, xchk, xvers, xmiss, xlock, xc0, xc1, xc2, xc3, xc4⟩ ea = 0 := by rw [BY2.out, if_neg (by decide), if_neg (by decide)]
                have HD : doesE p ⟨xid, xmail, xver, xsalt, xchk, xvers, xmiss, xlock, xc0, xc1, xc2, xc3, xc4⟩ ⟨6, ac, pu, t, nu, ea, eb, ec⟩ = 0 := by rw [DE.out, if_neg (by decide), if_pos rfl, hmv]
                have HE : Hid (ae = 0) := Lib.hid (by rw [EE.out, if_neg (by decide), if_neg (by decide), HD])
                have HR : Hid (ar = ⟨p.ps.set ix ⟨xid, ea, true, xsalt, xchk, xvers, xmiss, xlock, xc0, xc1, xc2, xc3, xc4⟩, p.ss⟩) := Lib.hid (by rw [RR.out, if_neg (by decide), if_neg (by decide), if_pos HD, DF.out, if_neg (by decide), if_neg (by decide), if_neg (by decide), if_neg (by decide), if_pos rfl, MVF.out, if_pos hmv])
                clear EE RR DE DF BY2 CT2 FR2 PE PF MF MVF CTF GAT HD
                go_wp2_with (go_at_call 43; (with_reducible refine (W16.out _ ((B7.out.setCell (by have := (BB.out _ B4.out).2; first | omega | (simp; omega)) _).setCell (by have := (BB.out _ B4.out).2; first | omega | (simp; omega)) _) hi _ _ _ _ _ _ _ _ _ _ _ _ _).mono ?_); rintro z w9 ⟨a9, c9, a9', c9', rfl, o9, b9⟩; have O9 := Lib.hid o9; have B9 := Lib.hid b9; obtain ⟨_, _, ⟨_, _, l0, l1⟩, lf, hres⟩ := AT.out _ b9; have RH := Lib.hid hres; clear o9 b9 hres)
                refine bodyPost_ret (v := .tuple #[.agg #[.slice a9 p.ps.length c9, .slice a9' p.ss.length c9'], .int .i64 0]) ?_ rfl ⟨_, by rw [HE.out], ?_, ?_⟩
                · simp [results, Tryz.f15, go_sem, l0, l1]
                · rw [HR.out]
                  exact O9.out.apart RH.out _ _
                · exact ((BB.out _ B9.out).1.setCell (by first | omega | (simp; omega) | simp) _).setCell (by first | omega | (simp; omega) | simp) _
              · skip
                have HD : doesE p ⟨xid, xmail, xver, xsalt, xchk, xvers, xmiss, xlock, xc0, xc1, xc2, xc3, xc4⟩ ⟨6, ac, pu, t, nu, ea, eb, ec⟩ = 14 := by rw [DE.out, if_neg (by decide), if_pos rfl, BY2.out, if_neg (by decide), if_pos (by simp)]
                have HE : Hid (ae = 14) := Lib.hid (by rw [EE.out, if_neg (by decide), if_neg (by decide), HD])
                have HR : Hid (ar = p) := Lib.hid (by rw [RR.out, if_neg (by decide), if_neg (by decide), if_neg (by rw [HD]; decide)])
                clear EE RR DE DF BY2 CT2 FR2 PE PF MF MVF CTF GAT HD
                go_wp2_with fail
                refine bodyPost_ret (v := .tuple #[.agg #[.slice (some ⟨g, 0, none⟩) p.ps.length c, .slice a' p.ss.length c'], .int .i64 14]) ?_ rfl ⟨_, by rw [HE.out], ?_, ?_⟩
                · simp [results, Tryz.f15, go_sem, l0, l1]
                · rw [HR.out]
                  exact ⟨(some ⟨g, 0, none⟩), c, a', c', rfl, (OP.out _ (((BB.out _ B7.out).1.setCell (by first | omega | (simp; omega) | simp) _).setCell (by first | omega | (simp; omega) | simp) _)).1, (OP.out _ (((BB.out _ B7.out).1.setCell (by first | omega | (simp; omega) | simp) _).setCell (by first | omega | (simp; omega) | simp) _)).2⟩
                · exact (((BB.out _ B7.out).1.setCell (by first | omega | (simp; omega) | simp) _).setCell (by first | omega | (simp; omega) | simp) _)
            · skip
              have HD : doesE p ⟨xid, xmail, xver, xsalt, xchk, xvers, xmiss, xlock, xc0, xc1, xc2, xc3, xc4⟩ ⟨6, ac, pu, t, nu, ea, eb, ec⟩ = 14 := by rw [DE.out, if_neg (by decide), if_pos rfl, BY2.out, if_neg (by decide), if_pos (by simp)]
              have HE : Hid (ae = 14) := Lib.hid (by rw [EE.out, if_neg (by decide), if_neg (by decide), HD])
              have HR : Hid (ar = p) := Lib.hid (by rw [RR.out, if_neg (by decide), if_neg (by decide), if_neg (by rw [HD]; decide)])
              clear EE RR DE DF BY2 CT2 FR2 PE PF MF MVF CTF GAT HD
              go_wp2_with fail
              refine bodyPost_ret (v := .tuple #[.agg #[.slice (some ⟨g, 0, none⟩) p.ps.length c, .slice a' p.ss.length c'], .int .i64 14]) ?_ rfl ⟨_, by rw [HE.out], ?_, ?_⟩
              · simp [results, Tryz.f15, go_sem, l0, l1]
              · rw [HR.out]
                exact ⟨(some ⟨g, 0, none⟩), c, a', c', rfl, (OP.out _ (((BB.out _ B7.out).1.setCell (by first | omega | (simp; omega) | simp) _).setCell (by first | omega | (simp; omega) | simp) _)).1, (OP.out _ (((BB.out _ B7.out).1.setCell (by first | omega | (simp; omega) | simp) _).setCell (by first | omega | (simp; omega) | simp) _)).2⟩
              · exact (((BB.out _ B7.out).1.setCell (by first | omega | (simp; omega) | simp) _).setCell (by first | omega | (simp; omega) | simp) _)
        · cases on
          · skip
            have hfr : freeE ⟨xid, xmail, xver, xsalt, xchk, xvers, xmiss, xlock, xc0, xc1, xc2, xc3, xc4⟩ ea (decide (xmail = ea)) = 1 := by rw [FR2.out, if_pos rfl]
            have HD : doesE p ⟨xid, xmail, xver, xsalt, xchk, xvers, xmiss, xlock, xc0, xc1, xc2, xc3, xc4⟩ ⟨7, ac, pu, t, nu, ea, eb, ec⟩ = 1 := by rw [DE.out, if_neg (by decide), if_neg (by decide), if_pos rfl, CT2.out, hfr, if_pos (by decide)]
            have HE : Hid (ae = 1) := Lib.hid (by rw [EE.out, if_neg (by decide), if_neg (by decide), HD])
            have HR : Hid (ar = p) := Lib.hid (by rw [RR.out, if_neg (by decide), if_neg (by decide), if_neg (by rw [HD]; decide)])
            clear EE RR DE DF BY2 CT2 FR2 PE PF MF MVF CTF GAT HD
            go_wp2_with fail
            refine bodyPost_ret (v := .tuple #[.agg #[.slice (some ⟨g, 0, none⟩) p.ps.length c, .slice a' p.ss.length c'], .int .i64 1]) ?_ rfl ⟨_, by rw [HE.out], ?_, ?_⟩
            · simp [results, Tryz.f15, go_sem, l0, l1]
            · rw [HR.out]
              exact ⟨(some ⟨g, 0, none⟩), c, a', c', rfl, (OP.out _ (((BB.out _ B7.out).1.setCell (by first | omega | (simp; omega) | simp) _).setCell (by first | omega | (simp; omega) | simp) _)).1, (OP.out _ (((BB.out _ B7.out).1.setCell (by first | omega | (simp; omega) | simp) _).setCell (by first | omega | (simp; omega) | simp) _)).2⟩
            · exact (((BB.out _ B7.out).1.setCell (by first | omega | (simp; omega) | simp) _).setCell (by first | omega | (simp; omega) | simp) _)
          · by_cases hem : xmail = ea
            · have hem' : (xmail.toList == ea.toList) = true := by simpa using tl_inj.2 hem
              rw [decide_eq_true hem] at CT2 FR2
              have hfr : freeE ⟨xid, xmail, xver, xsalt, xchk, xvers, xmiss, xlock, xc0, xc1, xc2, xc3, xc4⟩ ea true = 14 := by rw [FR2.out, if_neg (by decide), if_pos (by simp)]
              clear hem
              have HD : doesE p ⟨xid, xmail, xver, xsalt, xchk, xvers, xmiss, xlock, xc0, xc1, xc2, xc3, xc4⟩ ⟨7, ac, pu, t, nu, ea, eb, ec⟩ = 14 := by rw [DE.out, if_neg (by decide), if_neg (by decide), if_pos rfl, CT2.out, hfr, if_pos (by decide)]
              have HE : Hid (ae = 14) := Lib.hid (by rw [EE.out, if_neg (by decide), if_neg (by decide), HD])
              have HR : Hid (ar = p) := Lib.hid (by rw [RR.out, if_neg (by decide), if_neg (by decide), if_neg (by rw [HD]; decide)])
              clear EE RR DE DF BY2 CT2 FR2 PE PF MF MVF CTF GAT HD
              go_wp2_with fail
              refine bodyPost_ret (v := .tuple #[.agg #[.slice (some ⟨g, 0, none⟩) p.ps.length c, .slice a' p.ss.length c'], .int .i64 14]) ?_ rfl ⟨_, by rw [HE.out], ?_, ?_⟩
              · simp [results, Tryz.f15, go_sem, l0, l1]
              · rw [HR.out]
                exact ⟨(some ⟨g, 0, none⟩), c, a', c', rfl, (OP.out _ (((BB.out _ B7.out).1.setCell (by first | omega | (simp; omega) | simp) _).setCell (by first | omega | (simp; omega) | simp) _)).1, (OP.out _ (((BB.out _ B7.out).1.setCell (by first | omega | (simp; omega) | simp) _).setCell (by first | omega | (simp; omega) | simp) _)).2⟩
              · exact (((BB.out _ B7.out).1.setCell (by first | omega | (simp; omega) | simp) _).setCell (by first | omega | (simp; omega) | simp) _)
            · have hem' : (xmail.toList == ea.toList) = false := by simpa using fun c => hem (tl_inj.1 c)
              rw [decide_eq_false hem] at CT2 FR2
              clear hem
              cases hs
              · by_cases hc4 : xc4 = ⟨#[]⟩
                · have hgp := G4X.out.1.1 hc4
                  have hfr : freeE ⟨xid, xmail, xver, xsalt, xchk, xvers, xmiss, xlock, xc0, xc1, xc2, xc3, xc4⟩ ea false = 0 := by rw [FR2.out, if_neg (by decide), if_neg (by decide)]
                  have hc0 : contE ⟨xid, xmail, xver, xsalt, xchk, xvers, xmiss, xlock, xc0, xc1, xc2, xc3, xc4⟩ ea = 0 := by rw [CT2.out, hfr, if_neg (by decide), if_neg (by omega)]
                  have hc4' : xc4.toList.isEmpty = true := by rw [emp_dec]; exact decide_eq_true hc4
                  have HD : doesE p ⟨xid, xmail, xver, xsalt, xchk, xvers, xmiss, xlock, xc0, xc1, xc2, xc3, xc4⟩ ⟨7, ac, pu, t, nu, ea, eb, ec⟩ = 0 := by rw [DE.out, if_neg (by decide), if_neg (by decide), if_pos rfl, hc0]
                  have HE : Hid (ae = 0) := Lib.hid (by rw [EE.out, if_neg (by decide), if_neg (by decide), HD])
                  have HR : Hid (ar = ⟨p.ps.set ix (putC ⟨xid, xmail, xver, xsalt, xchk, xvers, xmiss, xlock, xc0, xc1, xc2, xc3, xc4⟩ (gap ⟨xid, xmail, xver, xsalt, xchk, xvers, xmiss, xlock, xc0, xc1, xc2, xc3, xc4⟩) ea), p.ss⟩) := Lib.hid (by rw [RR.out, if_neg (by decide), if_neg (by decide), if_pos HD, DF.out, if_neg (by decide), if_neg (by decide), if_neg (by decide), if_neg (by decide), if_neg (by decide), if_pos rfl, CTF.out, if_pos hc0])
                  clear EE RR DE DF BY2 CT2 FR2 PE PF MF MVF CTF HD
                  have CS := Lib.hid (CsAt.of (x := ⟨xid, xmail, xver, xsalt, xchk, xvers, xmiss, xlock, xc0, xc1, xc2, xc3, xc4⟩) (g := w4.heap.size) (o := 8) n8 n9 n10 n11 n12)
                  have GN := Lib.hid G4X.out.2
                  have GA := Lib.hid (GAT.out hgp)
                  obtain ⟨gg, hgg⟩ : ∃ gg, gap ⟨xid, xmail, xver, xsalt, xchk, xvers, xmiss, xlock, xc0, xc1, xc2, xc3, xc4⟩ = gg := ⟨_, rfl⟩
                  rw [hgg] at HR GN GA hgp
                  clear hgg GAT G4X hc4 hc0
                  go_wp2_with fail
                  go_loopw [13] (fun i wr => wr = w7 ∧ ∃ j : Nat, j ≤ gg ∧ i = .int .i64 j) (fun i _ => 5 - (intOf i).toNat)
                  case atStart => exact ⟨rfl, 0, Nat.zero_le _, rfl⟩
                  case round =>
                    obtain ⟨hw, j, hj, rfl⟩ := hrel
                    subst hw
                    by_cases hjg : j < gg
                    · have hj5 : (j : Int) < 5 := by omega
                      have hj0 : (0 : Int) ≤ j := by omega
                      have hcell := CS.out j (show j < 5 by omega)
                      have hgn := GN.out j hjg
                      have e0 : (Per.R.cs ⟨xid, xmail, xver, xsalt, xchk, xvers, xmiss, xlock, xc0, xc1, xc2, xc3, xc4⟩).getD j ByteArray.empty = (Per.R.cs ⟨xid, xmail, xver, xsalt, xchk, xvers, xmiss, xlock, xc0, xc1, xc2, xc3, xc4⟩).getD j ⟨#[]⟩ := rfl
                      rw [e0] at hcell
                      generalize (Per.R.cs ⟨xid, xmail, xver, xsalt, xchk, xvers, xmiss, xlock, xc0, xc1, xc2, xc3, xc4⟩).getD j ⟨#[]⟩ = d at *
                      have hd' : d.toList.isEmpty = false := by rw [emp_dec]; exact decide_eq_false hgn
                      clear hgn e0
                      go_wp2_with fail
                      go_roundw
                      case rel => exact ⟨by trivial, j + 1, by omega, by go_num⟩
                      case measure => simp [intOf]; omega
                    · obtain rfl : j = gg := by omega
                      have hjj : j = 0 ∨ j = 1 ∨ j = 2 ∨ j = 3 ∨ j = 4 := by omega
                      clear hj hjg hgp CS GN
                      rcases hjj with rfl | rfl | rfl | rfl | rfl
                      · have hg0 : xc0.toList.isEmpty = true := by rw [emp_dec]; exact decide_eq_true GA.out
                        go_wp2_with (go_at_call 43; (with_reducible refine (W16.out _ (B7.out.setCell (by have := (BB.out _ B4.out).2; first | omega | (simp; omega)) _) hi _ _ _ _ _ _ _ _ _ _ _ _ _).mono ?_); rintro z w9 ⟨a9, c9, a9', c9', rfl, o9, b9⟩; have O9 := Lib.hid o9; have B9 := Lib.hid b9; obtain ⟨_, _, ⟨_, _, l0, l1⟩, lf, hres⟩ := AT.out _ b9; have RH := Lib.hid hres; clear o9 b9 hres)
                        refine bodyPost_ret (v := .tuple #[.agg #[.slice a9 p.ps.length c9, .slice a9' p.ss.length c9'], .int .i64 0]) ?_ rfl ⟨_, by rw [HE.out], ?_, ?_⟩
                        · simp [results, Tryz.f15, go_sem, l0, l1]
                        · rw [HR.out]
                          exact O9.out.apart RH.out _ _
                        · exact ((BB.out _ B9.out).1.setCell (by first | omega | (simp; omega) | simp) _).setCell (by first | omega | (simp; omega) | simp) _
                      · have hg1 : xc1.toList.isEmpty = true := by rw [emp_dec]; exact decide_eq_true GA.out
                        go_wp2_with (go_at_call 43; (with_reducible refine (W16.out _ (B7.out.setCell (by have := (BB.out _ B4.out).2; first | omega | (simp; omega)) _) hi _ _ _ _ _ _ _ _ _ _ _ _ _).mono ?_); rintro z w9 ⟨a9, c9, a9', c9', rfl, o9, b9⟩; have O9 := Lib.hid o9; have B9 := Lib.hid b9; obtain ⟨_, _, ⟨_, _, l0, l1⟩, lf, hres⟩ := AT.out _ b9; have RH := Lib.hid hres; clear o9 b9 hres)
                        refine bodyPost_ret (v := .tuple #[.agg #[.slice a9 p.ps.length c9, .slice a9' p.ss.length c9'], .int .i64 0]) ?_ rfl ⟨_, by rw [HE.out], ?_, ?_⟩
                        · simp [results, Tryz.f15, go_sem, l0, l1]
                        · rw [HR.out]
                          exact O9.out.apart RH.out _ _
                        · exact ((BB.out _ B9.out).1.setCell (by first | omega | (simp; omega) | simp) _).setCell (by first | omega | (simp; omega) | simp) _
                      · have hg2 : xc2.toList.isEmpty = true := by rw [emp_dec]; exact decide_eq_true GA.out
                        go_wp2_with (go_at_call 43; (with_reducible refine (W16.out _ (B7.out.setCell (by have := (BB.out _ B4.out).2; first | omega | (simp; omega)) _) hi _ _ _ _ _ _ _ _ _ _ _ _ _).mono ?_); rintro z w9 ⟨a9, c9, a9', c9', rfl, o9, b9⟩; have O9 := Lib.hid o9; have B9 := Lib.hid b9; obtain ⟨_, _, ⟨_, _, l0, l1⟩, lf, hres⟩ := AT.out _ b9; have RH := Lib.hid hres; clear o9 b9 hres)
                        refine bodyPost_ret (v := .tuple #[.agg #[.slice a9 p.ps.length c9, .slice a9' p.ss.length c9'], .int .i64 0]) ?_ rfl ⟨_, by rw [HE.out], ?_, ?_⟩
                        · simp [results, Tryz.f15, go_sem, l0, l1]
                        · rw [HR.out]
                          exact O9.out.apart RH.out _ _
                        · exact ((BB.out _ B9.out).1.setCell (by first | omega | (simp; omega) | simp) _).setCell (by first | omega | (simp; omega) | simp) _
                      · have hg3 : xc3.toList.isEmpty = true := by rw [emp_dec]; exact decide_eq_true GA.out
                        go_wp2_with (go_at_call 43; (with_reducible refine (W16.out _ (B7.out.setCell (by have := (BB.out _ B4.out).2; first | omega | (simp; omega)) _) hi _ _ _ _ _ _ _ _ _ _ _ _ _).mono ?_); rintro z w9 ⟨a9, c9, a9', c9', rfl, o9, b9⟩; have O9 := Lib.hid o9; have B9 := Lib.hid b9; obtain ⟨_, _, ⟨_, _, l0, l1⟩, lf, hres⟩ := AT.out _ b9; have RH := Lib.hid hres; clear o9 b9 hres)
                        refine bodyPost_ret (v := .tuple #[.agg #[.slice a9 p.ps.length c9, .slice a9' p.ss.length c9'], .int .i64 0]) ?_ rfl ⟨_, by rw [HE.out], ?_, ?_⟩
                        · simp [results, Tryz.f15, go_sem, l0, l1]
                        · rw [HR.out]
                          exact O9.out.apart RH.out _ _
                        · exact ((BB.out _ B9.out).1.setCell (by first | omega | (simp; omega) | simp) _).setCell (by first | omega | (simp; omega) | simp) _
                      · have hg4 : xc4.toList.isEmpty = true := by rw [emp_dec]; exact decide_eq_true GA.out
                        go_wp2_with (go_at_call 43; (with_reducible refine (W16.out _ (B7.out.setCell (by have := (BB.out _ B4.out).2; first | omega | (simp; omega)) _) hi _ _ _ _ _ _ _ _ _ _ _ _ _).mono ?_); rintro z w9 ⟨a9, c9, a9', c9', rfl, o9, b9⟩; have O9 := Lib.hid o9; have B9 := Lib.hid b9; obtain ⟨_, _, ⟨_, _, l0, l1⟩, lf, hres⟩ := AT.out _ b9; have RH := Lib.hid hres; clear o9 b9 hres)
                        refine bodyPost_ret (v := .tuple #[.agg #[.slice a9 p.ps.length c9, .slice a9' p.ss.length c9'], .int .i64 0]) ?_ rfl ⟨_, by rw [HE.out], ?_, ?_⟩
                        · simp [results, Tryz.f15, go_sem, l0, l1]
                        · rw [HR.out]
                          exact O9.out.apart RH.out _ _
                        · exact ((BB.out _ B9.out).1.setCell (by first | omega | (simp; omega) | simp) _).setCell (by first | omega | (simp; omega) | simp) _
                · have hg5 : 5 ≤ gap ⟨xid, xmail, xver, xsalt, xchk, xvers, xmiss, xlock, xc0, xc1, xc2, xc3, xc4⟩ := Nat.le_of_not_lt (fun q => hc4 (G4X.out.1.2 q))
                  have hc4' : xc4.toList.isEmpty = false := by rw [emp_dec]; exact decide_eq_false hc4
                  clear hc4
                  have hfr : freeE ⟨xid, xmail, xver, xsalt, xchk, xvers, xmiss, xlock, xc0, xc1, xc2, xc3, xc4⟩ ea false = 0 := by rw [FR2.out, if_neg (by decide), if_neg (by decide)]
                  have HD : doesE p ⟨xid, xmail, xver, xsalt, xchk, xvers, xmiss, xlock, xc0, xc1, xc2, xc3, xc4⟩ ⟨7, ac, pu, t, nu, ea, eb, ec⟩ = 15 := by rw [DE.out, if_neg (by decide), if_neg (by decide), if_pos rfl, CT2.out, hfr, if_neg (by decide), if_pos hg5]
                  have HE : Hid (ae = 15) := Lib.hid (by rw [EE.out, if_neg (by decide), if_neg (by decide), HD])
                  have HR : Hid (ar = p) := Lib.hid (by rw [RR.out, if_neg (by decide), if_neg (by decide), if_neg (by rw [HD]; decide)])
                  clear EE RR DE DF BY2 CT2 FR2 PE PF MF MVF CTF GAT HD
                  go_wp2_with fail
                  refine bodyPost_ret (v := .tuple #[.agg #[.slice (some ⟨g, 0, none⟩) p.ps.length c, .slice a' p.ss.length c'], .int .i64 15]) ?_ rfl ⟨_, by rw [HE.out], ?_, ?_⟩
                  · simp [results, Tryz.f15, go_sem, l0, l1]
                  · rw [HR.out]
                    exact ⟨(some ⟨g, 0, none⟩), c, a', c', rfl, (OP.out _ (((BB.out _ B7.out).1.setCell (by first | omega | (simp; omega) | simp) _).setCell (by first | omega | (simp; omega) | simp) _)).1, (OP.out _ (((BB.out _ B7.out).1.setCell (by first | omega | (simp; omega) | simp) _).setCell (by first | omega | (simp; omega) | simp) _)).2⟩
                  · exact (((BB.out _ B7.out).1.setCell (by first | omega | (simp; omega) | simp) _).setCell (by first | omega | (simp; omega) | simp) _)
              · skip
                have hfr : freeE ⟨xid, xmail, xver, xsalt, xchk, xvers, xmiss, xlock, xc0, xc1, xc2, xc3, xc4⟩ ea false = 14 := by rw [FR2.out, if_neg (by decide), if_pos (by simp)]
                have HD : doesE p ⟨xid, xmail, xver, xsalt, xchk, xvers, xmiss, xlock, xc0, xc1, xc2, xc3, xc4⟩ ⟨7, ac, pu, t, nu, ea, eb, ec⟩ = 14 := by rw [DE.out, if_neg (by decide), if_neg (by decide), if_pos rfl, CT2.out, hfr, if_pos (by decide)]
                have HE : Hid (ae = 14) := Lib.hid (by rw [EE.out, if_neg (by decide), if_neg (by decide), HD])
                have HR : Hid (ar = p) := Lib.hid (by rw [RR.out, if_neg (by decide), if_neg (by decide), if_neg (by rw [HD]; decide)])
                clear EE RR DE DF BY2 CT2 FR2 PE PF MF MVF CTF GAT HD
                go_wp2_with fail
                refine bodyPost_ret (v := .tuple #[.agg #[.slice (some ⟨g, 0, none⟩) p.ps.length c, .slice a' p.ss.length c'], .int .i64 14]) ?_ rfl ⟨_, by rw [HE.out], ?_, ?_⟩
                · simp [results, Tryz.f15, go_sem, l0, l1]
                · rw [HR.out]
                  exact ⟨(some ⟨g, 0, none⟩), c, a', c', rfl, (OP.out _ (((BB.out _ B7.out).1.setCell (by first | omega | (simp; omega) | simp) _).setCell (by first | omega | (simp; omega) | simp) _)).1, (OP.out _ (((BB.out _ B7.out).1.setCell (by first | omega | (simp; omega) | simp) _).setCell (by first | omega | (simp; omega) | simp) _)).2⟩
                · exact (((BB.out _ B7.out).1.setCell (by first | omega | (simp; omega) | simp) _).setCell (by first | omega | (simp; omega) | simp) _)
        · have HE : Hid (ae = see) := Lib.hid (by rw [EE.out]; rfl)
          have HR : Hid (ar = ser) := Lib.hid (by rw [RR.out]; rfl)
          clear EE RR DE DF BY2 CT2 PE PF
          go_wp2_with (go_at_call 41; (refine (SS.out _ B7.out).mono ?_); rintro z w9 ⟨a9, c9, a9', c9', rfl, o9, b9⟩; have O9 := Lib.hid o9; have B9 := Lib.hid b9; obtain ⟨_, _, ⟨_, _, l0, l1⟩, lf, hres⟩ := AT.out _ b9; have RH := Lib.hid hres; clear o9 b9 hres)
          refine bodyPost_ret (v := .tuple #[.agg #[.slice a9 ser.ps.length c9, .slice a9' ser.ss.length c9'], .int .i64 see]) ?_ rfl ⟨_, by rw [HE.out], ?_, ?_⟩
          · simp [results, Tryz.f15, go_sem, l0, l1]
          · rw [HR.out]
            exact O9.out.apart RH.out _ _
          · exact ((BB.out _ B9.out).1.setCell (by first | omega | (simp; omega) | simp) _).setCell (by first | omega | (simp; omega) | simp) _
        · have HE : Hid (ae = 0) := Lib.hid (by rw [EE.out]; rfl)
          have HR : Hid (ar = rv) := Lib.hid (by rw [RR.out]; rfl)
          clear EE RR DE DF BY2 CT2 PE PF
          go_wp2_with (go_at_call 42; (refine (RV.out _ B7.out).mono ?_); rintro z w9 ⟨a9, c9, rfl, o9, b9⟩; have O9 := Lib.hid o9; have B9 := Lib.hid b9; obtain ⟨⟨k0, k1⟩, _, ⟨_, _, l0, l1⟩, lf, _⟩ := AT.out _ b9; obtain ⟨_, pf⟩ := pcell_of (v1 := .slice (some ⟨g, 0, none⟩) p.ps.length c) (v2 := .slice a' p.ss.length c') (PH.out _ b9); clear o9 b9)
          have bx := ((((BB.out _ B9.out).1.setCell (p := ⟨w.heap.size, 1, none⟩) (by first | omega | (simp; omega) | simp) (.slice a9 rv.ss.length c9)).setCell (p := ⟨w.heap.size + 2, 0, none⟩) (by first | omega | (simp; omega) | simp) (.slice (some ⟨g, 0, none⟩) p.ps.length c)).setCell (p := ⟨w.heap.size + 2, 1, none⟩) (by first | omega | (simp; omega) | simp) (.slice a9 rv.ss.length c9))
          refine bodyPost_ret (v := .tuple #[.agg #[.slice (some ⟨g, 0, none⟩) p.ps.length c, .slice a9 rv.ss.length c9], .int .i64 0]) ?_ rfl ⟨_, by rw [HE.out], ?_, ?_⟩
          · simp [results, Tryz.f15, go_sem, l0, l1]
          · rw [HR.out]
            refine ⟨some ⟨g, 0, none⟩, c, a9, c9, by rw [RVP.out], ?_, ?_⟩
            · rw [RVP.out]
              exact (OP.out _ bx).1
            · exact (((O9.out.apart (b := w.heap.size) (k := 1) (by omega) _).apart (by omega) _).apart (by omega) _).mono (by omega)
          · exact bx
      · rw [if_neg hi] at AA
        have hil : p.ps.length ≤ ix := by omega
        have HE : Hid (ae = 12) := Lib.hid (by rw [EE.out, if_neg h1, if_neg h2, if_pos hil])
        have HR : Hid (ar = p) := Lib.hid (by rw [RR.out, if_neg h1, if_neg h2, if_pos hil])
        clear EE RR DE DF W16
        go_enter Tryz.func15, Tryz.ntmps15
        go_wp2_with (go_at_call 35; (refine (AA.out _ (Below.refl _ _)).mono ?_); rintro z w4 ⟨rfl, b4⟩; have B4 := Lib.hid b4; obtain ⟨⟨k0, k1⟩, ⟨g0, g1, g2, g3, g4, g5, g6, g7⟩, ⟨_, _, l0, l1⟩, lf, _⟩ := AT.out _ b4; clear b4)
        refine bodyPost_ret (v := .tuple #[.agg #[.slice a p.ps.length c, .slice a' p.ss.length c'], .int .i64 12]) ?_ rfl ⟨_, by rw [HE.out], ?_, ?_⟩
        · simp [results, Tryz.f15, go_sem, l0, l1]
        · rw [HR.out]
          exact ⟨a, c, a', c', rfl, (OP.out _ (((BB.out _ B4.out).1.setCell (by first | omega | (simp; omega) | simp) _).setCell (by first | omega | (simp; omega) | simp) _)).1, (OP.out _ (((BB.out _ B4.out).1.setCell (by first | omega | (simp; omega) | simp) _).setCell (by first | omega | (simp; omega) | simp) _)).2⟩
        · exact (((BB.out _ B4.out).1.setCell (by first | omega | (simp; omega) | simp) _).setCell (by first | omega | (simp; omega) | simp) _)
end Go.Proofs.YtkihleecjgoipaaGreatDoor
