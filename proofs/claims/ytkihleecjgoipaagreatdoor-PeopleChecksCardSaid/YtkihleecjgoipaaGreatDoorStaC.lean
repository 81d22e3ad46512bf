/- people.Check. Written by wip/tools/mkstc.py. -/
import Derived.Test.YtkihleecjgoipaaGreatDoorStaB
import Derived.Test.YtkihleecjgoipaaGreatDoorMg5
namespace Go.Proofs.YtkihleecjgoipaaGreatDoor
open Go.RowKit Go.Maps Go.Proofs.YtkihleecjgoipaaGreatDoor.Rw

theorem getD_mem {L : List Per.R} {k : Nat} (hk : k < L.length) : L[k]?.getD Per.zero ∈ L := by
  rw [List.getElem?_eq_getElem hk]
  exact List.getElem_mem hk
theorem pgo_step {L : List Per.R} {k : Nat} (hk : k < L.length) (last : Int) (s : List ByteArray) :
    pgo (L.drop k) last s = (perB (L[k]?.getD Per.zero) && (!decide ((L[k]?.getD Per.zero).id ≤ last) && (!inB (L[k]?.getD Per.zero).mail s && pgo (L.drop (k + 1)) (L[k]?.getD Per.zero).id ((L[k]?.getD Per.zero).mail :: s)))) := by
  rw [List.drop_eq_getElem_cons hk, List.getElem?_eq_getElem hk, pgo, Option.getD_some]
  simp only [Bool.and_assoc]
theorem sgo_step {p : Ppl} {L : List Ses.R} {k : Nat} (hk : k < L.length) (s : List ByteArray) :
    sgo p (L.drop k) s = (p.ps.any (fun x => decide (x.id = (L[k]?.getD Ses.zero).acc)) && (decide ((L[k]?.getD Ses.zero).dig.size = 32) && ((decide (1 ≤ (L[k]?.getD Ses.zero).acc) && decide ((L[k]?.getD Ses.zero).acc ≤ 99)) && ((decide (0 ≤ (L[k]?.getD Ses.zero).exp) && decide ((L[k]?.getD Ses.zero).exp ≤ 1099511627776)) && (!inB (L[k]?.getD Ses.zero).dig s && sgo p (L.drop (k + 1)) ((L[k]?.getD Ses.zero).dig :: s)))))) := by
  rw [List.drop_eq_getElem_cons hk, List.getElem?_eq_getElem hk, sgo, Option.getD_some, sesB]
  simp only [Bool.and_assoc]
set_option maxHeartbeats 8000000 in
set_option maxRecDepth 100000 in
theorem check_any {B : Nat} {v : Value} {p : Ppl} {w : World} (hown : pown w B v p) (lim : few p) (hm : ML w) (hsz : ∀ x ∈ p.ps, x.mail.size ≤ 4000000000 ∧ ∀ c ∈ x.cs, c.size ≤ 4000000000) :
    Calls Tryz.prog 8 #[v] w fun e w' => e = .returned (.bool (chkB p)) ∧ Below w.heap.size w w' := by
  have hown0 := hown
  obtain ⟨a, c, a', c', rfl, o1, o2⟩ := hown
  have hb : Below w.heap.size w (w.alloc (pobj (.slice a p.ps.length c) (.slice a' p.ss.length c'))) := (Below.refl _ _).alloc (Nat.le_refl _) _
  have z1 : (w.alloc (pobj (.slice a p.ps.length c) (.slice a' p.ss.length c'))).heap.size = w.heap.size + 1 := by simp
  have BB : Hid (∀ w2, Below (w.heap.size + 1) (w.alloc (pobj (.slice a p.ps.length c) (.slice a' p.ss.length c'))) w2 → Below w.heap.size w w2) := Lib.hid (fun w2 b => hb.trans (b.mono (by omega)))
  have SZ : Hid (∀ w2, Below (w.heap.size + 1) (w.alloc (pobj (.slice a p.ps.length c) (.slice a' p.ss.length c'))) w2 → w.heap.size + 1 ≤ w2.heap.size) := Lib.hid (fun w2 b => by have := b.size; omega)
  have PX : Hid (∀ w2, Below (w.heap.size + 1) (w.alloc (pobj (.slice a p.ps.length c) (.slice a' p.ss.length c'))) w2 → w2.cell? ⟨w.heap.size, 0, none⟩ = some (.slice a p.ps.length c) ∧ w2.cell? ⟨w.heap.size, 1, none⟩ = some (.slice a' p.ss.length c')) := Lib.hid (fun w2 b => pbox_later _ _ (Nat.lt_succ_self _) b)
  have O1 : Hid (∀ w2, Below w.heap.size w w2 → Per.owns w2 B (.slice a p.ps.length c) p.ps) := Lib.hid (fun w2 b => o1.below b)
  have O2 : Hid (∀ w2, Below w.heap.size w w2 → Ses.owns w2 B (.slice a' p.ss.length c') p.ss) := Lib.hid (fun w2 b => o2.below b)
  have FD : Hid (∀ (id : Int) (w2 : World), Below w.heap.size w w2 → Calls Tryz.prog 14 #[.agg #[.slice a p.ps.length c, .slice a' p.ss.length c'], .int .i64 id] w2 fun e w' => e = .returned (.tuple #[(pick p.ps (fun x => decide (x.id = id))).agg, .bool (p.ps.any (fun x => decide (x.id = id)))]) ∧ Below w2.heap.size w2 w') := Lib.hid (fun id w2 b => find_any (hown0.below b) lim id)
  have PE : Hid (∀ (k : Nat), k < p.ps.length → ∀ w2, Below w.heap.size w w2 → Calls Tryz.prog 17 #[(p.ps[k]?.getD Per.zero).agg] w2 fun e w' => e = .returned (.bool (perB (p.ps[k]?.getD Per.zero))) ∧ Below w2.heap.size w2 w') := Lib.hid (fun k hk w2 b => person_any _ w2 (hm.below b) (hsz _ (getD_mem hk)))
  have MS : Hid (∀ (k : Nat), k < p.ps.length → (p.ps[k]?.getD Per.zero).mail.size ≤ maxLen) := Lib.hid (fun k hk => by
    have := (hsz _ (getD_mem hk)).1
    unfold maxLen
    omega)
  have WI := Lib.hid (fun n w2 => within_any 1 99 n w2)
  have WL := Lib.hid (fun n w2 => within64_any 0 1099511627776 n w2)
  have PST := Lib.hid (fun k hk last s => pgo_step (L := p.ps) (k := k) hk last s)
  have SST := Lib.hid (fun k hk s => sgo_step (p := p) (L := p.ss) (k := k) hk s)
  have CB : Hid (chkB p = (pgo p.ps 0 [] && (sgo p p.ss [] && (decide (p.ps.length ≤ 12) && decide (p.ss.length ≤ 16))))) := Lib.hid (by
    unfold chkB
    simp only [Bool.and_assoc])
  have lim1 := lim.1
  have lim2 := lim.2
  have MM : ∀ w : World, (Instr.makeMap 52 none).run Tryz.prog w = .ok (.map (some w.heap.size)) (w.alloc (.map #[] 0)) := fun w => by kernel_rfl
  generalize chkB p = r at *
  obtain ⟨rs, hrs⟩ : ∃ rs, sgo p p.ss [] = rs := ⟨_, rfl⟩
  obtain ⟨rp, hrp⟩ : ∃ rp, pgo p.ps 0 [] = rp := ⟨_, rfl⟩
  have HRS := Lib.hid hrs
  have HRP := Lib.hid hrp
  rw [hrs, hrp] at CB
  clear hown0 o1 o2 hb z1 hm hsz lim hrs hrp
  obtain ⟨n, hn⟩ : ∃ n, p.ps.length = n := ⟨_, rfl⟩
  obtain ⟨m, hmm⟩ : ∃ m, p.ss.length = m := ⟨_, rfl⟩
  have HN := Lib.hid hn
  have HM := Lib.hid hmm
  simp only [hn] at PE MS PST lim1
  simp only [hmm] at SST lim2
  rw [hn] at O1
  rw [hmm] at O2
  rw [hn, hmm] at BB SZ PX FD CB
  rw [hn, hmm]
  clear hn hmm
  obtain ⟨p0, p1⟩ := PX.out _ (Below.refl _ _)
  have AW := Lib.hid ((Below.refl (w.heap.size + 1) (w.alloc (pobj (.slice a n c) (.slice a' m c')))).alloc (SZ.out _ (Below.refl _ _)) (.map #[] 0))
  obtain ⟨pa, pb⟩ := PX.out _ AW.out
  have hz1 : (w.alloc (pobj (.slice a n c) (.slice a' m c'))).heap.size = w.heap.size + 1 := by simp
  have MT0 := Lib.hid (met.new (w.alloc (pobj (.slice a n c) (.slice a' m c'))))
  rw [hz1] at MT0
  have HZ := Lib.hid hz1
  clear hz1
  unfold pobj at *
  go_enter Tryz.func8, Tryz.ntmps8
  go_wp2_with fail
  go_loopw [4, 16] (fun la i wr => ∃ (k : Nat) (lv : Int) (seen : List ByteArray), k ≤ n ∧ i = .int .i64 k ∧ la = .int .i64 lv ∧ met wr (w.heap.size + 1) k seen ∧ rp = pgo (p.ps.drop k) lv seen ∧ Below (w.heap.size + 1) (w.alloc (.cells #[.slice a n c, .slice a' m c'] 25)) wr) (fun _ i _ => n - (intOf i).toNat)
  case atStart => exact ⟨0, 0, [], Nat.zero_le _, rfl, rfl, MT0.out, HRP.out.symm, AW.out⟩
  case round =>
    obtain ⟨k, lv, seen, hk, rfl, rfl, hmet, hr, hbr⟩ := hrel
    have ME := Lib.hid hmet
    have HR := Lib.hid hr
    have WB := Lib.hid hbr
    clear hmet hr
    by_cases hkn : k < n
    · have hkn' : (k : Int) < n := by omega
      have hk0 : (0 : Int) ≤ k := by omega
      obtain ⟨g, rfl, _, _, m0, m1, m2, m3, m4, m5, m6, m7, m8, m9, m10, m11, m12⟩ := (O1.out wr (BB.out _ hbr)).all k (by rw [HN.out]; exact hkn)
      have PE2 := Lib.hid (PE.out k hkn)
      have HR2 := Lib.hid (HR.out.trans (PST.out k hkn lv seen))
      have SM := Lib.hid (MS.out k hkn)
      clear HR
      obtain ⟨x, hx⟩ : ∃ x, p.ps[k]?.getD Per.zero = x := ⟨_, rfl⟩
      rw [hx] at m0 m1 m2 m3 m4 m5 m6 m7 m8 m9 m10 m11 m12 PE2 HR2 SM
      clear hx
      have bx := hbr.alloc (SZ.out _ hbr) x.obj
      have HX := Lib.hid (heap_new wr x.obj)
      have MEX := Lib.hid (ME.out.alloc x.obj)
      have SX : Hid (wr.heap.size + 1 = (wr.alloc x.obj).heap.size) := Lib.hid (by simp)
      obtain ⟨g0, g1, g2, g3, g4, g5, g6, g7, g8, g9, g10, g11, g12⟩ := Per.At.of_heap HX.out
      have BXX := Lib.hid bx
      have PC : Hid (Calls Tryz.prog 17 #[x.agg] (wr.alloc x.obj) fun e w' => e = .returned (.bool (perB x)) ∧ Below (wr.alloc x.obj).heap.size (wr.alloc x.obj) w') := Lib.hid (PE2.out _ (BB.out _ bx))
      clear hbr bx PE2
      have OF : Hid (∀ w3 : World, w3.heap[wr.heap.size]? = some x.obj → Per.At w3 wr.heap.size x) := Lib.hid (fun w3 h => Per.At.of_heap h)
      generalize perB x = q1 at *
      obtain ⟨id, mail, ver, salt, chk, vers, miss, lock, c0, c1, c2, c3, c4⟩ := x
      unfold Per.R.agg Per.R.obj at *
      simp only at *
      cases q1
      · have hre : Hid (r = false) := Lib.hid (by rw [CB.out, HR2.out]; rfl)
        clear CB HR2
        go_wp2_with (go_at_call 17; (with_reducible refine (PC.out).mono ?_); rintro z w3 ⟨rfl, b3⟩; have B3 := Lib.hid (BXX.out.trans (b3.mono (SZ.out _ BXX.out))); clear b3)
        go_ret
        exact ⟨ret_bool hre.out.symm, BB.out _ B3.out⟩
      · by_cases hle : id ≤ lv
        · have hre : Hid (r = false) := Lib.hid (by rw [CB.out, HR2.out, decide_eq_true hle]; rfl)
          clear CB HR2
          go_wp2_with (go_at_call 17; (with_reducible refine (PC.out).mono ?_); rintro z w3 ⟨rfl, b3⟩; have B3 := Lib.hid (BXX.out.trans (b3.mono (SZ.out _ BXX.out))); have H3 := Lib.hid ((b3.block wr.heap.size (by rw [← SX.out]; exact Nat.lt_succ_self _)).trans HX.out); have M3 := Lib.hid (MEX.out.below b3); obtain ⟨k0, k1, k2, k3, k4, k5, k6, k7, k8, k9, k10, k11, k12⟩ := OF.out _ H3.out; clear b3)
          go_ret
          exact ⟨ret_bool hre.out.symm, BB.out _ B3.out⟩
        · obtain ⟨q3, hq3⟩ : ∃ q3, inB mail seen = q3 := ⟨_, rfl⟩
          have HQ3 := Lib.hid hq3
          rw [hq3, decide_eq_false hle] at HR2
          clear hq3
          cases q3
          · have hre : Hid (rp = pgo (p.ps.drop (k + 1)) id (mail :: seen)) := Lib.hid (by rw [HR2.out]; rfl)
            clear HR2
            go_wp2_with (go_at_call 17; (with_reducible refine (PC.out).mono ?_); rintro z w3 ⟨rfl, b3⟩; have B3 := Lib.hid (BXX.out.trans (b3.mono (SZ.out _ BXX.out))); have H3 := Lib.hid ((b3.block wr.heap.size (by rw [← SX.out]; exact Nat.lt_succ_self _)).trans HX.out); have M3 := Lib.hid (MEX.out.below b3); obtain ⟨k0, k1, k2, k3, k4, k5, k6, k7, k8, k9, k10, k11, k12⟩ := OF.out _ H3.out; clear b3; have LK := M3.out.look mail SM.out; rw [HQ3.out] at LK; obtain ⟨w5, ru, M5, gr5⟩ := M3.out.drew.put (by omega) mail SM.out; have M5 := Lib.hid M5; have G5 := Lib.hid gr5; clear gr5)
            refine wp_region_held_drew (S := fun w' => w'.heap[wr.heap.size]? = some (.cells #[.int .i64 id, .string mail, .bool ver, .string salt, .string chk, .int .i64 vers, .int .i64 miss, .int .i64 lock, .string c0, .string c1, .string c2, .string c3, .string c4] 34)) (by kernel_rfl) ?_ (fun hHeld0 => ?_)
            · exact H3.out
            refine wpAnyH_take (i := 0) (v := ?_) rfl (by kernel_rfl) (by kernel_rfl) (by kernel_rfl) (fun _ _ _ h => h) (Or.inl ⟨by rfl, ?_⟩) (by assumption) ?_
            rotate_left
            · intro w hSw; (try dsimp only at hSw); obtain ⟨m0, m1, m2, m3, m4, m5, m6, m7, m8, m9, m10, m11, m12⟩ := OF.out w hSw; go_simp; (try with_reducible rfl)
            simp only [List.getElem_toArray, List.getElem_cons_zero, Act.put, List.setIfInBounds_toArray, List.set_cons_zero, List.set_cons_succ]
            refine wpAnyH_take (i := 1) (v := ?_) rfl (by kernel_rfl) (by kernel_rfl) (by kernel_rfl) (fun _ _ _ h => h) (Or.inl ⟨by rfl, ?_⟩) (by assumption) ?_
            rotate_left
            · intro w hSw; (try dsimp only at hSw); obtain ⟨m0, m1, m2, m3, m4, m5, m6, m7, m8, m9, m10, m11, m12⟩ := OF.out w hSw; go_simp; (try with_reducible rfl)
            simp only [List.getElem_toArray, List.getElem_cons_succ, List.getElem_cons_zero, Act.put, List.setIfInBounds_toArray, List.set_cons_zero, List.set_cons_succ]
            refine wpAnyH_take (i := 2) (v := ?_) rfl (by kernel_rfl) (by kernel_rfl) (by kernel_rfl) (fun _ _ _ h => h) (Or.inl ⟨by rfl, ?_⟩) (by assumption) ?_
            rotate_left
            · intro w hSw; (try dsimp only at hSw); obtain ⟨m0, m1, m2, m3, m4, m5, m6, m7, m8, m9, m10, m11, m12⟩ := OF.out w hSw; go_simp; (try with_reducible rfl)
            simp only [List.getElem_toArray, List.getElem_cons_succ, List.getElem_cons_zero, Act.put, List.setIfInBounds_toArray, List.set_cons_zero, List.set_cons_succ]
            refine wpAnyH_take (i := 3) (v := ?_) rfl (by kernel_rfl) (by kernel_rfl) (by kernel_rfl) (fun _ _ _ h => h) (Or.inl ⟨by rfl, ?_⟩) (by assumption) ?_
            rotate_left
            · intro w hSw; (try dsimp only at hSw); obtain ⟨m0, m1, m2, m3, m4, m5, m6, m7, m8, m9, m10, m11, m12⟩ := OF.out w hSw; go_simp; (try with_reducible rfl)
            simp only [List.getElem_toArray, List.getElem_cons_succ, List.getElem_cons_zero, Act.put, List.setIfInBounds_toArray, List.set_cons_zero, List.set_cons_succ]
            refine wpAnyH_take (i := 4) (v := ?_) rfl (by kernel_rfl) (by kernel_rfl) (by kernel_rfl) (fun _ _ _ h => h) (Or.inl ⟨by rfl, ?_⟩) (by assumption) ?_
            rotate_left
            · intro w hSw; (try dsimp only at hSw); obtain ⟨m0, m1, m2, m3, m4, m5, m6, m7, m8, m9, m10, m11, m12⟩ := OF.out w hSw; go_simp; (try with_reducible rfl)
            simp only [List.getElem_toArray, List.getElem_cons_succ, List.getElem_cons_zero, Act.put, List.setIfInBounds_toArray, List.set_cons_zero, List.set_cons_succ]
            refine wpAnyH_ready (rs := [5]) (by kernel_rfl) (by simp) ?_
            refine AllReadyH.cons rfl (fun K hK => ?_) AllReadyH.nil
            go_simp
            skip
            refine hK.out _ _ ?_ (fun hHeld1 => ?_)
            · exact (G5.out.block wr.heap.size (heap_lt H3.out) (by have := ME.out.lt; simp; omega)).trans H3.out
            clear hK K hHeld0
            try simp only [List.getElem_toArray, List.getElem_cons_succ, List.getElem_cons_zero, Act.put, List.setIfInBounds_toArray, List.set_cons_zero, List.set_cons_succ]
            refine wpAnyH_take (i := 6) (v := ?_) rfl (by kernel_rfl) (by kernel_rfl) (by kernel_rfl) (fun _ _ _ h => h) (Or.inl ⟨by rfl, ?_⟩) (by assumption) ?_
            rotate_left
            · intro w hSw; (try dsimp only at hSw); obtain ⟨m0, m1, m2, m3, m4, m5, m6, m7, m8, m9, m10, m11, m12⟩ := OF.out w hSw; go_simp; (try with_reducible rfl)
            try simp only [List.getElem_toArray, List.getElem_cons_succ, List.getElem_cons_zero, Act.put, List.setIfInBounds_toArray, List.set_cons_zero, List.set_cons_succ]
            refine wpAnyH_done (by kernel_rfl) ?_ _
            go_wp2_with fail
            go_roundw
            case rel => exact ⟨k + 1, id, mail :: seen, by omega, by go_num, rfl, M5.out, hre.out, (below_drew B3.out).grown G5.out (SZ.out _ (below_drew B3.out)) (fun j hj => by cases hj; omega)⟩
            case measure => simp [intOf]; omega
          · have hre : Hid (r = false) := Lib.hid (by rw [CB.out, HR2.out]; rfl)
            clear CB HR2
            go_wp2_with (go_at_call 17; (with_reducible refine (PC.out).mono ?_); rintro z w3 ⟨rfl, b3⟩; have B3 := Lib.hid (BXX.out.trans (b3.mono (SZ.out _ BXX.out))); have H3 := Lib.hid ((b3.block wr.heap.size (by rw [← SX.out]; exact Nat.lt_succ_self _)).trans HX.out); have M3 := Lib.hid (MEX.out.below b3); obtain ⟨k0, k1, k2, k3, k4, k5, k6, k7, k8, k9, k10, k11, k12⟩ := OF.out _ H3.out; clear b3; have LK := M3.out.look mail SM.out; rw [HQ3.out] at LK)
            go_ret
            exact ⟨ret_bool hre.out.symm, BB.out _ B3.out⟩
    · have hkn' : ¬ (k : Int) < n := by omega
      have hrp : Hid (rp = true) := Lib.hid (by
        rw [HR.out, List.drop_eq_nil_of_le (by rw [HN.out]; omega)]
        rfl)
      clear HR ME
      have AM := Lib.hid (hbr.alloc (SZ.out _ hbr) (.map #[] 0))
      have MT1 := Lib.hid (met.new wr)
      obtain ⟨pc0, pc1⟩ := PX.out _ hbr
      obtain ⟨pd0, pd1⟩ := PX.out _ AM.out
      have UB : Hid (w.heap.size + 1 ≤ wr.heap.size) := Lib.hid (SZ.out _ hbr)
      clear hbr
      go_wp2_with fail
      go_loopw [45] (fun i wq => ∃ (j : Nat) (seen : List ByteArray), j ≤ m ∧ i = .int .i64 j ∧ met wq wr.heap.size j seen ∧ rs = sgo p (p.ss.drop j) seen ∧ Below (w.heap.size + 1) (w.alloc (.cells #[.slice a n c, .slice a' m c'] 25)) wq) (fun i _ => m - (intOf i).toNat)
      case atStart => exact ⟨0, [], Nat.zero_le _, rfl, MT1.out, HRS.out.symm, AM.out⟩
      case round =>
        obtain ⟨j, seen2, hj, rfl, hmet, hr, hbq⟩ := hrel
        have ME := Lib.hid hmet
        have HR := Lib.hid hr
        have WQ := Lib.hid hbq
        clear hmet hr
        by_cases hjm : j < m
        · have hjm' : (j : Int) < m := by omega
          have hj0 : (0 : Int) ≤ j := by omega
          obtain ⟨g, rfl, _, _, m0, m1, m2⟩ := (O2.out wr (BB.out _ hbq)).all j (by rw [HM.out]; exact hjm)
          have HR2 := Lib.hid (HR.out.trans (SST.out j hjm seen2))
          clear HR
          obtain ⟨s, hs⟩ : ∃ s, p.ss[j]?.getD Ses.zero = s := ⟨_, rfl⟩
          rw [hs] at m0 m1 m2 HR2
          clear hs
          have bx := hbq.alloc (SZ.out _ hbq) s.obj
          have HX := Lib.hid (heap_new wr s.obj)
          have MEX := Lib.hid (ME.out.alloc s.obj)
          obtain ⟨px0, px1⟩ := PX.out _ bx
          obtain ⟨g0, g1, g2⟩ := Ses.At.of_heap HX.out
          have FD2 := Lib.hid (FD.out s.acc _ (BB.out _ bx))
          have SX : Hid (wr.heap.size + 1 = (wr.alloc s.obj).heap.size) := Lib.hid (by simp)
          have BXX := Lib.hid bx
          have OF : Hid (∀ w3 : World, w3.heap[wr.heap.size]? = some s.obj → Ses.At w3 wr.heap.size s) := Lib.hid (fun w3 h => Ses.At.of_heap h)
          have W1 := Lib.hid (WI.out s.acc)
          have W2 := Lib.hid (WL.out s.exp)
          clear hbq bx
          generalize pick p.ps (fun x => decide (x.id = s.acc)) = y at *
          generalize p.ps.any (fun x => decide (x.id = s.acc)) = q1 at *
          generalize (decide (1 ≤ s.acc) && decide (s.acc ≤ 99)) = q3 at *
          generalize (decide (0 ≤ s.exp) && decide (s.exp ≤ 1099511627776)) = q4 at *
          obtain ⟨dig, acc, exp⟩ := s
          obtain ⟨id, mail, ver, salt, chk, vers, miss, lock, c0, c1, c2, c3, c4⟩ := y
          unfold Ses.R.obj Per.R.agg at *
          simp only at *
          cases q1
          · have hre : Hid (r = false) := Lib.hid (by rw [CB.out, HR2.out]; simp)
            clear CB HR2
            go_wp2_with (first | (go_at_call 14; (with_reducible refine (FD2.out).mono ?_); rintro z w3 ⟨rfl, b3⟩; have B3 := Lib.hid (BXX.out.trans (b3.mono (SZ.out _ BXX.out))); have B4 := Lib.hid (B3.out.alloc (SZ.out _ B3.out) (.cells #[.int .i64 id, .string mail, .bool ver, .string salt, .string chk, .int .i64 vers, .int .i64 miss, .int .i64 lock, .string c0, .string c1, .string c2, .string c3, .string c4] 34)); have H3 := (b3.block wr.heap.size (by rw [← SX.out]; exact Nat.lt_succ_self _)).trans HX.out; have H4 := Lib.hid ((Lib.alloc_old w3 (.cells #[.int .i64 id, .string mail, .bool ver, .string salt, .string chk, .int .i64 vers, .int .i64 miss, .int .i64 lock, .string c0, .string c1, .string c2, .string c3, .string c4] 34) _ (heap_lt H3)).trans H3); have M4 := Lib.hid ((MEX.out.below b3).alloc (.cells #[.int .i64 id, .string mail, .bool ver, .string salt, .string chk, .int .i64 vers, .int .i64 miss, .int .i64 lock, .string c0, .string c1, .string c2, .string c3, .string c4] 34)); obtain ⟨k0, k1, k2⟩ := OF.out _ H4.out; clear b3 H3))
            go_ret
            exact ⟨ret_bool hre.out.symm, BB.out _ B4.out⟩
          · by_cases h32 : dig.size = 32
            · have h32' : (dig.size : Int) = 32 := by omega
              have SD : Hid (dig.size ≤ maxLen) := Lib.hid (by unfold maxLen; omega)
              rw [decide_eq_true h32] at HR2
              cases q3
              · have hre : Hid (r = false) := Lib.hid (by rw [CB.out, HR2.out]; simp)
                clear CB HR2
                go_wp2_with (first | (go_at_call 14; (with_reducible refine (FD2.out).mono ?_); rintro z w3 ⟨rfl, b3⟩; have B3 := Lib.hid (BXX.out.trans (b3.mono (SZ.out _ BXX.out))); have B4 := Lib.hid (B3.out.alloc (SZ.out _ B3.out) (.cells #[.int .i64 id, .string mail, .bool ver, .string salt, .string chk, .int .i64 vers, .int .i64 miss, .int .i64 lock, .string c0, .string c1, .string c2, .string c3, .string c4] 34)); have H3 := (b3.block wr.heap.size (by rw [← SX.out]; exact Nat.lt_succ_self _)).trans HX.out; have H4 := Lib.hid ((Lib.alloc_old w3 (.cells #[.int .i64 id, .string mail, .bool ver, .string salt, .string chk, .int .i64 vers, .int .i64 miss, .int .i64 lock, .string c0, .string c1, .string c2, .string c3, .string c4] 34) _ (heap_lt H3)).trans H3); have M4 := Lib.hid ((MEX.out.below b3).alloc (.cells #[.int .i64 id, .string mail, .bool ver, .string salt, .string chk, .int .i64 vers, .int .i64 miss, .int .i64 lock, .string c0, .string c1, .string c2, .string c3, .string c4] 34)); obtain ⟨k0, k1, k2⟩ := OF.out _ H4.out; clear b3 H3) | (go_at_call 18; (with_reducible refine (W1.out _).mono ?_); rintro z w6 ⟨rfl, rfl⟩))
                go_ret
                exact ⟨ret_bool hre.out.symm, BB.out _ B4.out⟩
              · cases q4
                · have hre : Hid (r = false) := Lib.hid (by rw [CB.out, HR2.out]; simp)
                  clear CB HR2
                  go_wp2_with (first | (go_at_call 14; (with_reducible refine (FD2.out).mono ?_); rintro z w3 ⟨rfl, b3⟩; have B3 := Lib.hid (BXX.out.trans (b3.mono (SZ.out _ BXX.out))); have B4 := Lib.hid (B3.out.alloc (SZ.out _ B3.out) (.cells #[.int .i64 id, .string mail, .bool ver, .string salt, .string chk, .int .i64 vers, .int .i64 miss, .int .i64 lock, .string c0, .string c1, .string c2, .string c3, .string c4] 34)); have H3 := (b3.block wr.heap.size (by rw [← SX.out]; exact Nat.lt_succ_self _)).trans HX.out; have H4 := Lib.hid ((Lib.alloc_old w3 (.cells #[.int .i64 id, .string mail, .bool ver, .string salt, .string chk, .int .i64 vers, .int .i64 miss, .int .i64 lock, .string c0, .string c1, .string c2, .string c3, .string c4] 34) _ (heap_lt H3)).trans H3); have M4 := Lib.hid ((MEX.out.below b3).alloc (.cells #[.int .i64 id, .string mail, .bool ver, .string salt, .string chk, .int .i64 vers, .int .i64 miss, .int .i64 lock, .string c0, .string c1, .string c2, .string c3, .string c4] 34)); obtain ⟨k0, k1, k2⟩ := OF.out _ H4.out; clear b3 H3) | (go_at_call 18; (with_reducible refine (W1.out _).mono ?_); rintro z w6 ⟨rfl, rfl⟩) | (go_at_call 19; (with_reducible refine (W2.out _).mono ?_); rintro z w7 ⟨rfl, rfl⟩))
                  go_ret
                  exact ⟨ret_bool hre.out.symm, BB.out _ B4.out⟩
                · obtain ⟨q5, hq5⟩ : ∃ q5, inB dig seen2 = q5 := ⟨_, rfl⟩
                  have HQ5 := Lib.hid hq5
                  rw [hq5] at HR2
                  clear hq5
                  cases q5
                  · have hre : Hid (rs = sgo p (p.ss.drop (j + 1)) (dig :: seen2)) := Lib.hid (by rw [HR2.out]; rfl)
                    clear HR2
                    go_wp2_with (first | (go_at_call 14; (with_reducible refine (FD2.out).mono ?_); rintro z w3 ⟨rfl, b3⟩; have B3 := Lib.hid (BXX.out.trans (b3.mono (SZ.out _ BXX.out))); have B4 := Lib.hid (B3.out.alloc (SZ.out _ B3.out) (.cells #[.int .i64 id, .string mail, .bool ver, .string salt, .string chk, .int .i64 vers, .int .i64 miss, .int .i64 lock, .string c0, .string c1, .string c2, .string c3, .string c4] 34)); have H3 := (b3.block wr.heap.size (by rw [← SX.out]; exact Nat.lt_succ_self _)).trans HX.out; have H4 := Lib.hid ((Lib.alloc_old w3 (.cells #[.int .i64 id, .string mail, .bool ver, .string salt, .string chk, .int .i64 vers, .int .i64 miss, .int .i64 lock, .string c0, .string c1, .string c2, .string c3, .string c4] 34) _ (heap_lt H3)).trans H3); have M4 := Lib.hid ((MEX.out.below b3).alloc (.cells #[.int .i64 id, .string mail, .bool ver, .string salt, .string chk, .int .i64 vers, .int .i64 miss, .int .i64 lock, .string c0, .string c1, .string c2, .string c3, .string c4] 34)); obtain ⟨k0, k1, k2⟩ := OF.out _ H4.out; clear b3 H3; have LK := M4.out.look dig SD.out; rw [HQ5.out] at LK; obtain ⟨w5, ru, M5, gr5⟩ := M4.out.put (by omega) dig SD.out; have M5 := Lib.hid M5; have G5 := Lib.hid gr5; clear gr5) | (go_at_call 18; (with_reducible refine (W1.out _).mono ?_); rintro z w6 ⟨rfl, rfl⟩) | (go_at_call 19; (with_reducible refine (W2.out _).mono ?_); rintro z w7 ⟨rfl, rfl⟩))
                    go_roundw
                    case rel => exact ⟨j + 1, dig :: seen2, by omega, by go_num, M5.out, hre.out, B4.out.grown G5.out (SZ.out _ B4.out) (fun j hj => by cases hj; exact UB.out)⟩
                    case measure => simp [intOf]; omega
                  · have hre : Hid (r = false) := Lib.hid (by rw [CB.out, HR2.out]; simp)
                    clear CB HR2
                    go_wp2_with (first | (go_at_call 14; (with_reducible refine (FD2.out).mono ?_); rintro z w3 ⟨rfl, b3⟩; have B3 := Lib.hid (BXX.out.trans (b3.mono (SZ.out _ BXX.out))); have B4 := Lib.hid (B3.out.alloc (SZ.out _ B3.out) (.cells #[.int .i64 id, .string mail, .bool ver, .string salt, .string chk, .int .i64 vers, .int .i64 miss, .int .i64 lock, .string c0, .string c1, .string c2, .string c3, .string c4] 34)); have H3 := (b3.block wr.heap.size (by rw [← SX.out]; exact Nat.lt_succ_self _)).trans HX.out; have H4 := Lib.hid ((Lib.alloc_old w3 (.cells #[.int .i64 id, .string mail, .bool ver, .string salt, .string chk, .int .i64 vers, .int .i64 miss, .int .i64 lock, .string c0, .string c1, .string c2, .string c3, .string c4] 34) _ (heap_lt H3)).trans H3); have M4 := Lib.hid ((MEX.out.below b3).alloc (.cells #[.int .i64 id, .string mail, .bool ver, .string salt, .string chk, .int .i64 vers, .int .i64 miss, .int .i64 lock, .string c0, .string c1, .string c2, .string c3, .string c4] 34)); obtain ⟨k0, k1, k2⟩ := OF.out _ H4.out; clear b3 H3; have LK := M4.out.look dig SD.out; rw [HQ5.out] at LK) | (go_at_call 18; (with_reducible refine (W1.out _).mono ?_); rintro z w6 ⟨rfl, rfl⟩) | (go_at_call 19; (with_reducible refine (W2.out _).mono ?_); rintro z w7 ⟨rfl, rfl⟩))
                    go_ret
                    exact ⟨ret_bool hre.out.symm, BB.out _ B4.out⟩
            · have h32' : ¬ (dig.size : Int) = 32 := by omega
              have hre : Hid (r = false) := Lib.hid (by rw [CB.out, HR2.out, decide_eq_false h32]; simp)
              clear CB HR2
              go_wp2_with (first | (go_at_call 14; (with_reducible refine (FD2.out).mono ?_); rintro z w3 ⟨rfl, b3⟩; have B3 := Lib.hid (BXX.out.trans (b3.mono (SZ.out _ BXX.out))); have B4 := Lib.hid (B3.out.alloc (SZ.out _ B3.out) (.cells #[.int .i64 id, .string mail, .bool ver, .string salt, .string chk, .int .i64 vers, .int .i64 miss, .int .i64 lock, .string c0, .string c1, .string c2, .string c3, .string c4] 34)); have H3 := (b3.block wr.heap.size (by rw [← SX.out]; exact Nat.lt_succ_self _)).trans HX.out; have H4 := Lib.hid ((Lib.alloc_old w3 (.cells #[.int .i64 id, .string mail, .bool ver, .string salt, .string chk, .int .i64 vers, .int .i64 miss, .int .i64 lock, .string c0, .string c1, .string c2, .string c3, .string c4] 34) _ (heap_lt H3)).trans H3); have M4 := Lib.hid ((MEX.out.below b3).alloc (.cells #[.int .i64 id, .string mail, .bool ver, .string salt, .string chk, .int .i64 vers, .int .i64 miss, .int .i64 lock, .string c0, .string c1, .string c2, .string c3, .string c4] 34)); obtain ⟨k0, k1, k2⟩ := OF.out _ H4.out; clear b3 H3))
              go_ret
              exact ⟨ret_bool hre.out.symm, BB.out _ B4.out⟩
        · have hjm' : ¬ (j : Int) < m := by omega
          have hrs : Hid (rs = true) := Lib.hid (by
            rw [HR.out, List.drop_eq_nil_of_le (by rw [HM.out]; omega)]
            rfl)
          clear HR ME
          have CB2 : Hid (r = (decide (n ≤ 12) && decide (m ≤ 16))) := Lib.hid (by rw [CB.out, hrp.out, hrs.out]; rfl)
          clear CB
          obtain ⟨pe0, pe1⟩ := PX.out _ hbq
          clear hbq
          by_cases h12 : n ≤ 12
          · have h12' : (n : Int) ≤ 12 := by omega
            by_cases h16 : m ≤ 16
            · have h16' : (m : Int) ≤ 16 := by omega
              go_wp2_with fail
              go_ret
              exact ⟨ret_bool (by rw [CB2.out]; simp [h12, h16]), BB.out _ WQ.out⟩
            · have h16' : ¬ (m : Int) ≤ 16 := by omega
              go_wp2_with fail
              go_ret
              exact ⟨ret_bool (by rw [CB2.out]; simp [h16]), BB.out _ WQ.out⟩
          · have h12' : ¬ (n : Int) ≤ 12 := by omega
            go_wp2_with fail
            go_ret
            exact ⟨ret_bool (by rw [CB2.out]; simp [h12]), BB.out _ WQ.out⟩
end Go.Proofs.YtkihleecjgoipaaGreatDoor
