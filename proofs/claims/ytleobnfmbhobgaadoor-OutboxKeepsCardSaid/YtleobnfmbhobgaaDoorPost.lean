/- outbox.Post, Room, for any row of messages. -/
import Derived.Test.YtleobnfmbhobgaaDoorChange
namespace Go.Proofs.YtleobnfmbhobgaaDoor
open Go.RowKit Go.Maps

/-- One message more behind a row of one's own. -/
theorem mpush {w w0 : World} {B : Nat} {v : Value} {ms : List Msg} (m : Msg) (h : mowns w B v ms) (hB : B ≤ w.heap.size) (lim : ms.length ≤ 1000000) (b : Below w0.heap.size w0 w) (h0 : w0.heap.size ≤ B) :
    ∃ v' w', (Builtin.append_ #[24, 24] 24 #[v, .slice (some ⟨w.heap.size, 0, none⟩) 1 1]).run Tryd.prog (w.alloc m.obj) = .ok v' w' ∧ mowns w' B v' (ms ++ [m]) ∧ Below w0.heap.size w0 w' := by
  obtain ⟨i0, hi, hz0, hz1, hz2⟩ := info_parts infoMsg
  have hown2 : (w.alloc m.obj).ownsRow B 27 6 v ms.length (mflat ms) := World.ownsRow.alloc h _
  obtain ⟨v', w', ra, ro, rg, _, rat⟩ := run_append_own_at (P := Tryd.prog) (w.alloc m.obj) B 24 24 27 i0 _ 6 64 Tryd.underlying24 hi hz0 hz1 hz2 rfl (by decide) v ms.length (mflat ms) hown2 ⟨w.heap.size, 0, none⟩ 1 1 m.cells rfl
    (fun j u hj => by
      rw [addM, Nat.zero_add, Lib.cell_of_heap (heap_new w m.obj)]
      simpa [Msg.cells] using hj)
    (cells_one m) (by unfold maxLen; omega) (by omega) (by simp; omega)
  refine ⟨v', w', ra, ?_, ?_⟩
  · unfold mowns
    rw [List.length_append, mflat_append]
    simpa [mflat, Msg.cells] using ro
  · have b1 := b.trans (((Below.refl w.heap.size w).alloc (Nat.le_refl _) m.obj).mono b.size)
    refine b1.grown rg b1.size (fun k hk => ?_)
    have := (World.ownsRow.lt h k hk).1
    omega

def postM (m : Msg) (now : Int) : Msg := { m with att := 0, due := now, dead := false }
def lastId (ms : List Msg) : Nat := (ms[ms.length - 1]?.getD noMsg).id
def postE (ms : List Msg) (m : Msg) (now : Int) : Int := if rightB (postM m now) = false then 1 else if 0 < ms.length ∧ m.id ≤ lastId ms then 14 else if 40 ≤ ms.length then 15 else 0
def postR (ms : List Msg) (m : Msg) (now : Int) : List Msg := if postE ms m now = 0 then ms ++ [postM m now] else ms

theorem post_mid {w wx w1 w2 : World} {v : Value} {ms : List Msg} (b0 : Below w.heap.size w wx) (o : mowns w1 (w.heap.size + 1) v ms) (b1 : Below wx.heap.size wx w1) (b2 : Below w1.heap.size w1 w2) : mowns w2 (w.heap.size + 1) v ms ∧ Below w.heap.size w w2 := by
  have b01 := b0.trans (b1.mono b0.size)
  exact ⟨o.below b2, b01.trans (b2.mono b01.size)⟩
theorem post_drew {w w2 : World} {v : Value} {ms : List Msg} (h : mowns w2 (w.heap.size + 1) v ms ∧ Below w.heap.size w w2) (n : Nat) : mowns (w2.drewN n) (w.heap.size + 1) v ms ∧ Below w.heap.size w (w2.drewN n) :=
  ⟨h.1.below (below_drewN (Below.refl _ _) n), below_drewN h.2 n⟩
theorem post_push {w w3 : World} {a : Option Addr} {n c : Nat} {ms : List Msg} (m : Msg) (h : mowns w3 (w.heap.size + 1) (.slice a n c) ms ∧ Below w.heap.size w w3) (lim : ms.length ≤ 1000000) : ∃ v' w', (Builtin.append_ #[24, 24] 24 #[.slice a n c, .slice (some ⟨w3.heap.size, 0, none⟩) 1 1]).run Tryd.prog (w3.alloc m.obj) = .ok v' w' ∧ Fresh w w' v' (ms ++ [m]) := by
  obtain ⟨v', w', ra, o, b⟩ := mpush m (h.1.mono (Nat.le_succ _)) h.2.size lim h.2 (Nat.le_refl _)
  exact ⟨v', w', ra, o, b⟩

set_option maxHeartbeats 8000000 in
set_option maxRecDepth 100000 in
theorem post_any {Bs c : Nat} {a : Option Addr} {ms : List Msg} {w : World} (hown : mowns w Bs (.slice a ms.length c) ms) (lim : ms.length ≤ 1000000) (m : Msg) (hs : m.dest.size ≤ 4000000000) (now : Int) (hm : ML w) :
    Calls Tryd.prog 11 #[.slice a ms.length c, m.agg, .int .i64 now] w fun e w' => ∃ v, e = .returned (.tuple #[v, .int .i64 (postE ms m now)]) ∧ Fresh w w' v (postR ms m now) := by
  obtain ⟨id, dest, body, att, due, dead⟩ := m
  obtain ⟨x, hx⟩ : ∃ x, x = (⟨id, dest, body, 0, now, false⟩ : Msg) := ⟨_, rfl⟩
  have b0 : Below w.heap.size w (w.alloc x.obj) := (Below.refl _ _).alloc (Nat.le_refl _) _
  have hlt : w.heap.size < (w.alloc x.obj).heap.size := by simp
  obtain ⟨c0, c1', c2, c3, c4, c5⟩ := msg_box w x
  have CL : Calls Tryd.prog 25 #[.slice a ms.length c] (w.alloc x.obj) fun e w1 => ∃ a' c', e = .returned (.slice a' ms.length c') ∧ mowns w1 (w.heap.size + 1) (.slice a' ms.length c') ms ∧ Below (w.alloc x.obj).heap.size (w.alloc x.obj) w1 := by
    have h := mclone_any (hown.below b0) lim
    rw [World.size_alloc] at h ⊢
    exact h
  have RG : ∀ w1 : World, Below (w.alloc x.obj).heap.size (w.alloc x.obj) w1 → Calls Tryd.prog 26 #[x.agg] w1 fun e w2 => e = .returned (.bool (rightB x)) ∧ Below w1.heap.size w1 w2 := fun w1 b1 => right_any x (by rw [hx]; exact hs) w1 ((hm.below b0).below b1)
  have PE : Hid (postE ms ⟨id, dest, body, att, due, dead⟩ now = if rightB x = false then 1 else if 0 < ms.length ∧ id ≤ lastId ms then 14 else if 40 ≤ ms.length then 15 else 0) := Lib.hid (by rw [hx]; rfl)
  have PR : Hid (postR ms ⟨id, dest, body, att, due, dead⟩ now = if postE ms ⟨id, dest, body, att, due, dead⟩ now = 0 then ms ++ [⟨id, dest, body, 0, now, false⟩] else ms) := Lib.hid rfl
  obtain ⟨r, hr⟩ : ∃ r, rightB x = r := ⟨_, rfl⟩
  have HR := Lib.hid hr
  simp only [hr] at RG
  have HP := Lib.hid hr
  rw [hr] at PE
  clear hr HR HP
  subst hx
  simp only [Msg.obj] at c0 c1' c2 c3 c4 c5 hlt CL RG b0
  simp only [Msg.agg] at RG ⊢
  have CL := Lib.hid CL
  have RG := Lib.hid RG
  have B0 := Lib.hid b0
  have LIM := Lib.hid lim
  have OW := Lib.hid hown
  obtain ⟨n, hn⟩ : ∃ n, ms.length = n := ⟨_, rfl⟩
  have HN := Lib.hid hn
  rw [hn] at CL OW PE lim ⊢
  clear hown hm hn b0
  cases r
  · have EQ : Hid (postE ms ⟨id, dest, body, att, due, dead⟩ now = 1) := Lib.hid (by rw [PE.out, if_pos rfl])
    go_enter Tryd.func11, Tryd.ntmps11
    go_wp2_with (first
      | (go_at_call 25; (with_reducible refine (CL.out).mono ?_); rintro e w1 ⟨a1, c1, rfl, o1, b1⟩; have k0 := (b1.cell (p := ⟨w.heap.size, 0, none⟩) hlt).trans c0; have k1 := (b1.cell (p := ⟨w.heap.size, 1, none⟩) hlt).trans c1'; have k2 := (b1.cell (p := ⟨w.heap.size, 2, none⟩) hlt).trans c2; have k3 := (b1.cell (p := ⟨w.heap.size, 3, none⟩) hlt).trans c3; have k4 := (b1.cell (p := ⟨w.heap.size, 4, none⟩) hlt).trans c4; have k5 := (b1.cell (p := ⟨w.heap.size, 5, none⟩) hlt).trans c5; have O1 := Lib.hid (And.intro o1 b1); clear o1 b1)
      | (go_at_call 26; (with_reducible refine (RG.out _ O1.out.2).mono ?_); rintro e w2 ⟨rfl, b2⟩; have hl1 : w.heap.size < w1.heap.size := Nat.lt_of_lt_of_le hlt O1.out.2.size; have q0 := (b2.cell (p := ⟨w.heap.size, 0, none⟩) hl1).trans k0; have q1 := (b2.cell (p := ⟨w.heap.size, 1, none⟩) hl1).trans k1; have q2 := (b2.cell (p := ⟨w.heap.size, 2, none⟩) hl1).trans k2; have q3 := (b2.cell (p := ⟨w.heap.size, 3, none⟩) hl1).trans k3; have q4 := (b2.cell (p := ⟨w.heap.size, 4, none⟩) hl1).trans k4; have q5 := (b2.cell (p := ⟨w.heap.size, 5, none⟩) hl1).trans k5; have O2 := Lib.hid (post_mid B0.out O1.out.1 O1.out.2 b2); clear b2 k0 k1 k2 k3 k4 k5 hl1))
    go_ret2
    exact ⟨_, by rw [EQ.out]; rfl, by rw [PR.out, EQ.out, if_neg (by decide)]; exact ⟨(O2.out.1).mono (Nat.le_succ _), O2.out.2⟩⟩
  · by_cases hl : 0 < n
    · have hl' : (0 : Int) < n := by omega
      obtain ⟨g, rfl, _, hgl, m0, _⟩ := (OW.out).six (n - 1) (by rw [HN.out]; omega)
      have hw1 : IntKind.i64.wrap ((n : Int) - 1) = (n : Int) - 1 := by rw [IntKind.wrap_i64] <;> omega
      have hb1 : (0 : Int) ≤ (n : Int) - 1 := by omega
      have hb1' : (1 : Int) ≤ (n : Int) := by omega
      have hb2 : (n : Int) - 1 < n := by omega
      have htn : ((n : Int) - 1).toNat = n - 1 := by omega
      obtain ⟨li, hli⟩ : ∃ li, lastId ms = li := ⟨_, rfl⟩
      have hm0 : w.cell? ⟨g, (n - 1) * 6, none⟩ = some (.int .u64 li) := by rw [m0, ← hli, lastId, HN.out]
      rw [hli] at PE
      clear m0 hli
      have M0 := Lib.hid hm0
      clear hm0
      by_cases h14 : id ≤ li
      · have h14' : (id : Int) ≤ li := by omega
        have EQ : Hid (postE ms ⟨id, dest, body, att, due, dead⟩ now = 14) := Lib.hid (by rw [PE.out, if_neg (by decide), if_pos ⟨hl, h14⟩])
        go_enter Tryd.func11, Tryd.ntmps11
        go_wp2_with (first
          | (go_at_call 25; (with_reducible refine (CL.out).mono ?_); rintro e w1 ⟨a1, c1, rfl, o1, b1⟩; have k0 := (b1.cell (p := ⟨w.heap.size, 0, none⟩) hlt).trans c0; have k1 := (b1.cell (p := ⟨w.heap.size, 1, none⟩) hlt).trans c1'; have k2 := (b1.cell (p := ⟨w.heap.size, 2, none⟩) hlt).trans c2; have k3 := (b1.cell (p := ⟨w.heap.size, 3, none⟩) hlt).trans c3; have k4 := (b1.cell (p := ⟨w.heap.size, 4, none⟩) hlt).trans c4; have k5 := (b1.cell (p := ⟨w.heap.size, 5, none⟩) hlt).trans c5; have O1 := Lib.hid (And.intro o1 b1); clear o1 b1)
          | (go_at_call 26; (with_reducible refine (RG.out _ O1.out.2).mono ?_); rintro e w2 ⟨rfl, b2⟩; have hl1 : w.heap.size < w1.heap.size := Nat.lt_of_lt_of_le hlt O1.out.2.size; have q0 := (b2.cell (p := ⟨w.heap.size, 0, none⟩) hl1).trans k0; have q1 := (b2.cell (p := ⟨w.heap.size, 1, none⟩) hl1).trans k1; have q2 := (b2.cell (p := ⟨w.heap.size, 2, none⟩) hl1).trans k2; have q3 := (b2.cell (p := ⟨w.heap.size, 3, none⟩) hl1).trans k3; have q4 := (b2.cell (p := ⟨w.heap.size, 4, none⟩) hl1).trans k4; have q5 := (b2.cell (p := ⟨w.heap.size, 5, none⟩) hl1).trans k5; have O2 := Lib.hid (post_mid B0.out O1.out.1 O1.out.2 b2); clear b2 k0 k1 k2 k3 k4 k5 hl1))
        have l0 := (O2.out.2.cell (p := ⟨g, (n - 1) * 6, none⟩) hgl).trans M0.out
        refine wp_region_quiet_lit (by kernel_rfl) (by kernel_rfl) ?_
        repeat (with_reducible refine wpQuiet_step (fun K hK => ?_); go_simp; with_reducible refine hK _ ?_; clear hK K)
        refine wpQuiet_nil ?_
        intro _ hw'
        obtain ⟨nq, hw''⟩ := hw'
        subst hw''
        obtain ⟨w3, hw3⟩ : ∃ w3, w2.drewN nq = w3 := ⟨_, rfl⟩
        have r0 : w3.cell? ⟨w.heap.size, 0, none⟩ = some (.int .u64 id) := by rw [← hw3]; exact q0
        have r1 : w3.cell? ⟨w.heap.size, 1, none⟩ = some (.string dest) := by rw [← hw3]; exact q1
        have r2 : w3.cell? ⟨w.heap.size, 2, none⟩ = some (.string body) := by rw [← hw3]; exact q2
        have r3 : w3.cell? ⟨w.heap.size, 3, none⟩ = some (.int .i64 0) := by rw [← hw3]; exact q3
        have r4 : w3.cell? ⟨w.heap.size, 4, none⟩ = some (.int .i64 now) := by rw [← hw3]; exact q4
        have r5 : w3.cell? ⟨w.heap.size, 5, none⟩ = some (.bool false) := by rw [← hw3]; exact q5
        have O3 := Lib.hid (post_drew O2.out nq)
        rw [hw3] at O3 ⊢
        clear hw3 q0 q1 q2 q3 q4 q5
        go_wp2_with fail
        go_ret2
        exact ⟨_, by rw [EQ.out]; rfl, by rw [PR.out, EQ.out, if_neg (by decide)]; exact ⟨(O3.out.1).mono (Nat.le_succ _), O3.out.2⟩⟩
      · have h14' : ¬ (id : Int) ≤ li := by omega
        have h14d : decide ((id : Int) ≤ li) = false := by simpa using h14'
        have h14e : (li : Int) < id := by omega
        by_cases h40 : 40 ≤ n
        · have h40' : (40 : Int) ≤ n := by omega
          have EQ : Hid (postE ms ⟨id, dest, body, att, due, dead⟩ now = 15) := Lib.hid (by rw [PE.out, if_neg (by decide), if_neg (fun h => h14 h.2), if_pos h40])
          go_enter Tryd.func11, Tryd.ntmps11
          go_wp2_with (first
            | (go_at_call 25; (with_reducible refine (CL.out).mono ?_); rintro e w1 ⟨a1, c1, rfl, o1, b1⟩; have k0 := (b1.cell (p := ⟨w.heap.size, 0, none⟩) hlt).trans c0; have k1 := (b1.cell (p := ⟨w.heap.size, 1, none⟩) hlt).trans c1'; have k2 := (b1.cell (p := ⟨w.heap.size, 2, none⟩) hlt).trans c2; have k3 := (b1.cell (p := ⟨w.heap.size, 3, none⟩) hlt).trans c3; have k4 := (b1.cell (p := ⟨w.heap.size, 4, none⟩) hlt).trans c4; have k5 := (b1.cell (p := ⟨w.heap.size, 5, none⟩) hlt).trans c5; have O1 := Lib.hid (And.intro o1 b1); clear o1 b1)
            | (go_at_call 26; (with_reducible refine (RG.out _ O1.out.2).mono ?_); rintro e w2 ⟨rfl, b2⟩; have hl1 : w.heap.size < w1.heap.size := Nat.lt_of_lt_of_le hlt O1.out.2.size; have q0 := (b2.cell (p := ⟨w.heap.size, 0, none⟩) hl1).trans k0; have q1 := (b2.cell (p := ⟨w.heap.size, 1, none⟩) hl1).trans k1; have q2 := (b2.cell (p := ⟨w.heap.size, 2, none⟩) hl1).trans k2; have q3 := (b2.cell (p := ⟨w.heap.size, 3, none⟩) hl1).trans k3; have q4 := (b2.cell (p := ⟨w.heap.size, 4, none⟩) hl1).trans k4; have q5 := (b2.cell (p := ⟨w.heap.size, 5, none⟩) hl1).trans k5; have O2 := Lib.hid (post_mid B0.out O1.out.1 O1.out.2 b2); clear b2 k0 k1 k2 k3 k4 k5 hl1))
          have l0 := (O2.out.2.cell (p := ⟨g, (n - 1) * 6, none⟩) hgl).trans M0.out
          refine wp_region_quiet_lit (by kernel_rfl) (by kernel_rfl) ?_
          repeat (with_reducible refine wpQuiet_step (fun K hK => ?_); go_simp; with_reducible refine hK _ ?_; clear hK K)
          refine wpQuiet_nil ?_
          intro _ hw'
          obtain ⟨nq, hw''⟩ := hw'
          subst hw''
          obtain ⟨w3, hw3⟩ : ∃ w3, w2.drewN nq = w3 := ⟨_, rfl⟩
          have r0 : w3.cell? ⟨w.heap.size, 0, none⟩ = some (.int .u64 id) := by rw [← hw3]; exact q0
          have r1 : w3.cell? ⟨w.heap.size, 1, none⟩ = some (.string dest) := by rw [← hw3]; exact q1
          have r2 : w3.cell? ⟨w.heap.size, 2, none⟩ = some (.string body) := by rw [← hw3]; exact q2
          have r3 : w3.cell? ⟨w.heap.size, 3, none⟩ = some (.int .i64 0) := by rw [← hw3]; exact q3
          have r4 : w3.cell? ⟨w.heap.size, 4, none⟩ = some (.int .i64 now) := by rw [← hw3]; exact q4
          have r5 : w3.cell? ⟨w.heap.size, 5, none⟩ = some (.bool false) := by rw [← hw3]; exact q5
          have O3 := Lib.hid (post_drew O2.out nq)
          rw [hw3] at O3 ⊢
          clear hw3 q0 q1 q2 q3 q4 q5
          go_wp2_with fail
          go_ret2
          exact ⟨_, by rw [EQ.out]; rfl, by rw [PR.out, EQ.out, if_neg (by decide)]; exact ⟨(O3.out.1).mono (Nat.le_succ _), O3.out.2⟩⟩
        · have h40' : ¬ (40 : Int) ≤ n := by omega
          have EQ : Hid (postE ms ⟨id, dest, body, att, due, dead⟩ now = 0) := Lib.hid (by rw [PE.out, if_neg (by decide), if_neg (fun h => h14 h.2), if_neg h40])
          go_enter Tryd.func11, Tryd.ntmps11
          go_wp2_with (first
            | (go_at_call 25; (with_reducible refine (CL.out).mono ?_); rintro e w1 ⟨a1, c1, rfl, o1, b1⟩; have k0 := (b1.cell (p := ⟨w.heap.size, 0, none⟩) hlt).trans c0; have k1 := (b1.cell (p := ⟨w.heap.size, 1, none⟩) hlt).trans c1'; have k2 := (b1.cell (p := ⟨w.heap.size, 2, none⟩) hlt).trans c2; have k3 := (b1.cell (p := ⟨w.heap.size, 3, none⟩) hlt).trans c3; have k4 := (b1.cell (p := ⟨w.heap.size, 4, none⟩) hlt).trans c4; have k5 := (b1.cell (p := ⟨w.heap.size, 5, none⟩) hlt).trans c5; have O1 := Lib.hid (And.intro o1 b1); clear o1 b1)
            | (go_at_call 26; (with_reducible refine (RG.out _ O1.out.2).mono ?_); rintro e w2 ⟨rfl, b2⟩; have hl1 : w.heap.size < w1.heap.size := Nat.lt_of_lt_of_le hlt O1.out.2.size; have q0 := (b2.cell (p := ⟨w.heap.size, 0, none⟩) hl1).trans k0; have q1 := (b2.cell (p := ⟨w.heap.size, 1, none⟩) hl1).trans k1; have q2 := (b2.cell (p := ⟨w.heap.size, 2, none⟩) hl1).trans k2; have q3 := (b2.cell (p := ⟨w.heap.size, 3, none⟩) hl1).trans k3; have q4 := (b2.cell (p := ⟨w.heap.size, 4, none⟩) hl1).trans k4; have q5 := (b2.cell (p := ⟨w.heap.size, 5, none⟩) hl1).trans k5; have O2 := Lib.hid (post_mid B0.out O1.out.1 O1.out.2 b2); clear b2 k0 k1 k2 k3 k4 k5 hl1))
          have l0 := (O2.out.2.cell (p := ⟨g, (n - 1) * 6, none⟩) hgl).trans M0.out
          refine wp_region_quiet_lit (by kernel_rfl) (by kernel_rfl) ?_
          repeat (with_reducible refine wpQuiet_step (fun K hK => ?_); go_simp; with_reducible refine hK _ ?_; clear hK K)
          refine wpQuiet_nil ?_
          intro _ hw'
          obtain ⟨nq, hw''⟩ := hw'
          subst hw''
          obtain ⟨w3, hw3⟩ : ∃ w3, w2.drewN nq = w3 := ⟨_, rfl⟩
          have r0 : w3.cell? ⟨w.heap.size, 0, none⟩ = some (.int .u64 id) := by rw [← hw3]; exact q0
          have r1 : w3.cell? ⟨w.heap.size, 1, none⟩ = some (.string dest) := by rw [← hw3]; exact q1
          have r2 : w3.cell? ⟨w.heap.size, 2, none⟩ = some (.string body) := by rw [← hw3]; exact q2
          have r3 : w3.cell? ⟨w.heap.size, 3, none⟩ = some (.int .i64 0) := by rw [← hw3]; exact q3
          have r4 : w3.cell? ⟨w.heap.size, 4, none⟩ = some (.int .i64 now) := by rw [← hw3]; exact q4
          have r5 : w3.cell? ⟨w.heap.size, 5, none⟩ = some (.bool false) := by rw [← hw3]; exact q5
          have O3 := Lib.hid (post_drew O2.out nq)
          rw [hw3] at O3 ⊢
          clear hw3 q0 q1 q2 q3 q4 q5
          obtain ⟨v4, w4, ra, f4⟩ := post_push ⟨id, dest, body, 0, now, false⟩ O3.out LIM.out
          unfold Msg.obj at ra
          have RA := Lib.hid ra
          have F4 := Lib.hid f4
          clear ra f4
          go_wp2_with (at_builtin; refine Lib.wpList_append_run _ rfl _ _ _ _ rfl _ _ rfl rfl _ _ RA.out ?_)
          go_ret2
          exact ⟨_, by rw [EQ.out]; rfl, by rw [PR.out, EQ.out, if_pos rfl]; exact F4.out⟩
    · have hl' : ¬ (0 : Int) < n := by omega
      have hld : decide ((0 : Int) < n) = false := by simpa using hl'
      have h40' : ¬ (40 : Int) ≤ n := by omega
      have EQ : Hid (postE ms ⟨id, dest, body, att, due, dead⟩ now = 0) := Lib.hid (by rw [PE.out, if_neg (by decide), if_neg (fun h => hl h.1), if_neg (by omega)])
      go_enter Tryd.func11, Tryd.ntmps11
      go_wp2_with (first
        | (go_at_call 25; (with_reducible refine (CL.out).mono ?_); rintro e w1 ⟨a1, c1, rfl, o1, b1⟩; have k0 := (b1.cell (p := ⟨w.heap.size, 0, none⟩) hlt).trans c0; have k1 := (b1.cell (p := ⟨w.heap.size, 1, none⟩) hlt).trans c1'; have k2 := (b1.cell (p := ⟨w.heap.size, 2, none⟩) hlt).trans c2; have k3 := (b1.cell (p := ⟨w.heap.size, 3, none⟩) hlt).trans c3; have k4 := (b1.cell (p := ⟨w.heap.size, 4, none⟩) hlt).trans c4; have k5 := (b1.cell (p := ⟨w.heap.size, 5, none⟩) hlt).trans c5; have O1 := Lib.hid (And.intro o1 b1); clear o1 b1)
        | (go_at_call 26; (with_reducible refine (RG.out _ O1.out.2).mono ?_); rintro e w2 ⟨rfl, b2⟩; have hl1 : w.heap.size < w1.heap.size := Nat.lt_of_lt_of_le hlt O1.out.2.size; have q0 := (b2.cell (p := ⟨w.heap.size, 0, none⟩) hl1).trans k0; have q1 := (b2.cell (p := ⟨w.heap.size, 1, none⟩) hl1).trans k1; have q2 := (b2.cell (p := ⟨w.heap.size, 2, none⟩) hl1).trans k2; have q3 := (b2.cell (p := ⟨w.heap.size, 3, none⟩) hl1).trans k3; have q4 := (b2.cell (p := ⟨w.heap.size, 4, none⟩) hl1).trans k4; have q5 := (b2.cell (p := ⟨w.heap.size, 5, none⟩) hl1).trans k5; have O2 := Lib.hid (post_mid B0.out O1.out.1 O1.out.2 b2); clear b2 k0 k1 k2 k3 k4 k5 hl1))
      skip
      refine wp_region_quiet_lit (by kernel_rfl) (by kernel_rfl) ?_
      repeat (with_reducible refine wpQuiet_step (fun K hK => ?_); go_simp; with_reducible refine hK _ ?_; clear hK K)
      refine wpQuiet_nil ?_
      intro _ hw'
      obtain ⟨nq, hw''⟩ := hw'
      subst hw''
      obtain ⟨w3, hw3⟩ : ∃ w3, w2.drewN nq = w3 := ⟨_, rfl⟩
      have r0 : w3.cell? ⟨w.heap.size, 0, none⟩ = some (.int .u64 id) := by rw [← hw3]; exact q0
      have r1 : w3.cell? ⟨w.heap.size, 1, none⟩ = some (.string dest) := by rw [← hw3]; exact q1
      have r2 : w3.cell? ⟨w.heap.size, 2, none⟩ = some (.string body) := by rw [← hw3]; exact q2
      have r3 : w3.cell? ⟨w.heap.size, 3, none⟩ = some (.int .i64 0) := by rw [← hw3]; exact q3
      have r4 : w3.cell? ⟨w.heap.size, 4, none⟩ = some (.int .i64 now) := by rw [← hw3]; exact q4
      have r5 : w3.cell? ⟨w.heap.size, 5, none⟩ = some (.bool false) := by rw [← hw3]; exact q5
      have O3 := Lib.hid (post_drew O2.out nq)
      rw [hw3] at O3 ⊢
      clear hw3 q0 q1 q2 q3 q4 q5
      obtain ⟨v4, w4, ra, f4⟩ := post_push ⟨id, dest, body, 0, now, false⟩ O3.out LIM.out
      unfold Msg.obj at ra
      have RA := Lib.hid ra
      have F4 := Lib.hid f4
      clear ra f4
      go_wp2_with (at_builtin; refine Lib.wpList_append_run _ rfl _ _ _ _ rfl _ _ rfl rfl _ _ RA.out ?_)
      go_ret2
      exact ⟨_, by rw [EQ.out]; rfl, by rw [PR.out, EQ.out, if_pos rfl]; exact F4.out⟩
end Go.Proofs.YtleobnfmbhobgaaDoor
