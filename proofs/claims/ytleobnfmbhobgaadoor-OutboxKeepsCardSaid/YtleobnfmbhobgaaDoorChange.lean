/- outbox.change, Failed, Taken, for any row of messages. -/
import Derived.Test.YtleobnfmbhobgaaDoorFail1
namespace Go.Proofs.YtleobnfmbhobgaaDoor
open Go.RowKit Go.Maps

/-- Is there one of this number that is not dead? -/
def live (ms : List Msg) (id : Nat) : Bool := decide (pos ms id < ms.length) && !(ms[pos ms id]?.getD noMsg).dead
def failR (ms : List Msg) (id : Nat) (now : Int) : List Msg := if live ms id then ms.set (pos ms id) (failM (ms[pos ms id]?.getD noMsg) now) else ms
def takeR (ms : List Msg) (id : Nat) : List Msg := if live ms id then ms.take (pos ms id) ++ ms.drop (pos ms id + 1) else ms
def liveE (ms : List Msg) (id : Nat) : Int := if live ms id then 0 else 12

/-- A row that a call gave: fresh. -/
def Fresh (w w' : World) (v : Value) (ms : List Msg) : Prop := mowns w' w.heap.size v ms ∧ Below w.heap.size w w'

set_option maxRecDepth 100000 in
theorem takec_any {Bs g n cap : Nat} {ms : List Msg} {w : World} (hown : mowns w Bs (.slice (some ⟨g, 0, none⟩) n cap) ms) (hn : ms.length = n) (i : Nat) (hi : i < ms.length) (lim : ms.length ≤ 1000000) :
    Calls Tryd.prog 30 #[.slice (some ⟨g, 0, none⟩) n cap, .int .i64 i] w fun e w' => e = .returned (.slice (some ⟨g, 0, none⟩) (i + (n - (i + 1))) cap) ∧ mowns w' Bs (.slice (some ⟨g, 0, none⟩) (i + (n - (i + 1))) cap) (ms.take i ++ ms.drop (i + 1)) ∧ w.grownBy w' (some g) := by
  subst hn
  have D := mdelete_any Bs ms.length i (i + 1) cap g (mflat ms) w hown (by omega) (by omega) (mflat_one ms)
  have ec : (((i + 1 : Nat)) : Int) = (i : Int) + 1 := by omega
  rw [ec] at D
  have fin : ∀ w' : World, w'.ownsRow Bs 27 6 (.slice (some ⟨g, 0, none⟩) (i + (ms.length - (i + 1))) cap) (i + (ms.length - (i + 1))) ((mflat ms).take (i * 6) ++ (mflat ms).drop ((i + 1) * 6)) → mowns w' Bs (.slice (some ⟨g, 0, none⟩) (i + (ms.length - (i + 1))) cap) (ms.take i ++ ms.drop (i + 1)) := fun w' h => by
    unfold mowns
    rw [mflat_take, mflat_drop, ← mflat_append] at h
    rw [show (ms.take i ++ ms.drop (i + 1)).length = i + (ms.length - (i + 1)) by rw [List.length_append, List.length_take, List.length_drop]; omega]
    exact h
  have FN := Lib.hid fin
  have DD := Lib.hid D
  have hi' : (i : Int) ≤ 1000000 := by omega
  obtain ⟨m, hm⟩ : ∃ m, i + (ms.length - (i + 1)) = m := ⟨_, rfl⟩
  obtain ⟨n, hn⟩ : ∃ n, ms.length = n := ⟨_, rfl⟩
  rw [hm, hn] at DD
  rw [hm] at FN
  rw [hm, hn]
  clear hown hi lim ec D fin hm hn
  go_enter Tryd.func30, Tryd.ntmps30
  go_wp2_with (go_at_call 31; (with_reducible refine (DD.out).mono ?_); rintro e w2 ⟨rfl, o2, g2⟩; have O2 := Lib.hid (FN.out _ o2); have G2 := Lib.hid g2; clear o2 g2)
  go_ret
  exact ⟨rfl, O2.out, G2.out⟩

theorem changeF_end {g n c' : Nat} {ms : List Msg} {w w2 : World} {id : Nat} (o : mowns w2 (w.heap.size + 1) (.slice (some ⟨g, 0, none⟩) n c') ms) (b : Below w.heap.size w w2) (hn : ms.length = n) (k : Nat) (hk : k < ms.length) (B : Nat) (now : Int) (hB : w.cell? ⟨B, 0, none⟩ = some (.int .i64 now)) (hBl : B < w.heap.size) (hl : live ms id = true) (hp : pos ms id = k) :
    Calls Tryd.prog 22 #[.slice (some ⟨g, 0, none⟩) n c', .int .i64 k, .pointer (some ⟨B, 0, none⟩)] w2 fun e w' => e = .returned (.slice (some ⟨g, 0, none⟩) n c') ∧ Fresh w w' (.slice (some ⟨g, 0, none⟩) n c') (failR ms id now) := by
  have hg := (World.ownsRow.lt o g rfl).1
  refine (failc_any o hn k hk B now ((b.cell (p := ⟨B, 0, none⟩) hBl).trans hB) (by omega)).mono ?_
  rintro e w' ⟨rfl, o', g'⟩
  refine ⟨rfl, ?_, b.grown g' b.size (fun j e => by cases e; omega)⟩
  rw [failR, if_pos hl, hp]
  exact o'.mono (Nat.le_succ _)
theorem changeT_end {g n c' : Nat} {ms : List Msg} {w w2 : World} {id : Nat} (o : mowns w2 (w.heap.size + 1) (.slice (some ⟨g, 0, none⟩) n c') ms) (b : Below w.heap.size w w2) (hn : ms.length = n) (k : Nat) (hk : k < ms.length) (lim : ms.length ≤ 1000000) (hl : live ms id = true) (hp : pos ms id = k) :
    Calls Tryd.prog 30 #[.slice (some ⟨g, 0, none⟩) n c', .int .i64 k] w2 fun e w' => e = .returned (.slice (some ⟨g, 0, none⟩) (k + (n - (k + 1))) c') ∧ Fresh w w' (.slice (some ⟨g, 0, none⟩) (k + (n - (k + 1))) c') (takeR ms id) := by
  have hg := (World.ownsRow.lt o g rfl).1
  refine (takec_any o hn k hk lim).mono ?_
  rintro e w' ⟨rfl, o', g'⟩
  refine ⟨rfl, ?_, b.grown g' b.size (fun j e => by cases e; omega)⟩
  rw [takeR, if_pos hl, hp]
  exact o'.mono (Nat.le_succ _)

set_option maxHeartbeats 4000000 in
set_option maxRecDepth 100000 in
theorem changeF_any {Bs c : Nat} {a : Option Addr} {ms : List Msg} {w : World} (hown : mowns w Bs (.slice a ms.length c) ms) (lim : ms.length ≤ 1000000) (id : Nat) (B : Nat) (now : Int) (hB : w.cell? ⟨B, 0, none⟩ = some (.int .i64 now)) (hBl : B < w.heap.size) :
    Calls Tryd.prog 21 #[.slice a ms.length c, .int .u64 id, .func (.func 22) #[] #[.pointer (some ⟨B, 0, none⟩)]] w fun e w' => ∃ v, e = .returned (.tuple #[v, .int .i64 (liveE ms id)]) ∧ Fresh w w' v (failR ms id now) := by
  have CL := mclone_any (w := w.alloc (.cells #[.int .u64 id] 25)) (hown.below ((Below.refl _ _).alloc (Nat.le_refl _) _)) lim
  have hbx : (w.alloc (.cells #[.int .u64 id] 25)).cell? ⟨w.heap.size, 0, none⟩ = some (.int .u64 id) := by rw [Lib.cell_of_heap (heap_new w _)]; rfl
  have MI : ∀ (a' : Option Addr) (c' : Nat) (w1 : World), mowns w1 (w.alloc (.cells #[.int .u64 id] 25)).heap.size (.slice a' ms.length c') ms → Below (w.alloc (.cells #[.int .u64 id] 25)).heap.size (w.alloc (.cells #[.int .u64 id] 25)) w1 →
      Calls Tryd.prog 43 #[.slice a' ms.length c', .func (.func 44) #[] #[.pointer (some ⟨w.heap.size, 0, none⟩)]] w1 fun e w2 => e = .returned (.int .i64 (idxI ms id)) ∧ mowns w2 (w.heap.size + 1) (.slice a' ms.length c') ms ∧ Below w.heap.size w w2 := fun a' c' w1 o1 b1 => by
    refine (midx_any o1 lim id w.heap.size ((b1.cell (p := ⟨w.heap.size, 0, none⟩) (by simp)).trans hbx) (Nat.lt_of_lt_of_le (by simp) b1.size)).mono ?_
    rintro e w2 ⟨rfl, b2⟩
    have b01 : Below w.heap.size w w1 := ((Below.refl w.heap.size w).alloc (Nat.le_refl _) _).trans (b1.mono (by simp))
    refine ⟨rfl, ?_, b01.trans (b2.mono b01.size)⟩
    have := o1.below b2
    rw [World.size_alloc] at this
    exact this
  have CL := Lib.hid CL
  have MI := Lib.hid MI
  clear hbx
  have HB := Lib.hid hB
  clear hB
  have hmf : ∀ (fn : Fn) (first cap : Array Value) (w : World), (Instr.makeFunc fn first cap).run Tryd.prog w = .ok (.func fn first cap) w := fun _ _ _ _ => rfl
  by_cases hp : pos ms id < ms.length
  · have hi : idxI ms id = (pos ms id : Int) := by simp [idxI, hp]
    obtain ⟨k, hk⟩ : ∃ k, pos ms id = k := ⟨_, rfl⟩
    rw [hi, hk] at MI
    cases hd : (ms[pos ms id]?.getD noMsg).dead
    · have hl : live ms id = true := by simp only [live, hp, decide_true, hd, Bool.not_false, Bool.and_self]
      have HL := Lib.hid hl
      have HK := Lib.hid hk
      rw [hk] at hp hd
      have HP := Lib.hid hp
      have HD := Lib.hid hd
      have hk0 : ¬ ((k : Int) < 0) := by omega
      have hk1 : (0 : Int) ≤ k := by omega
      obtain ⟨n, hn⟩ : ∃ n, ms.length = n := ⟨_, rfl⟩
      have HN := Lib.hid hn
      rw [hn] at CL MI hp ⊢
      have hk2 : (k : Int) < n := by omega
      clear hown hl hi hd hn hk
      go_enter Tryd.func21, Tryd.ntmps21
      go_wp2_with (first
        | (go_at_call 25; (with_reducible refine (CL.out).mono ?_); rintro e w1 ⟨a1, c1, rfl, o1, b1⟩; have MJ := Lib.hid (MI.out a1 c1 w1 o1 b1); clear o1 b1)
        | (go_at_call 43; (with_reducible refine (MJ.out).mono ?_); rintro e w2 ⟨rfl, o2, b2⟩; obtain ⟨g, rfl, hg1, hg2, m0, m1, m2, m3, m4, m5⟩ := o2.six k HP.out; rw [HD.out] at m5; have CC := Lib.hid (changeF_end o2 b2 HN.out k HP.out B now HB.out hBl HL.out HK.out); clear o2 b2 m0 m1 m2 m3 m4)
        | (go_at_call 22; (with_reducible refine (CC.out).mono ?_); rintro e w3 ⟨rfl, o3⟩; have O3 := Lib.hid o3; clear o3))
      go_ret2
      exact ⟨_, by rw [liveE, HL.out]; rfl, O3.out⟩
    · have hl : live ms id = false := by simp only [live, hd, Bool.not_true, Bool.and_false]
      have HL := Lib.hid hl
      have HK := Lib.hid hk
      rw [hk] at hp hd
      have HP := Lib.hid hp
      have HD := Lib.hid hd
      have hk0 : ¬ ((k : Int) < 0) := by omega
      have hk1 : (0 : Int) ≤ k := by omega
      obtain ⟨n, hn⟩ : ∃ n, ms.length = n := ⟨_, rfl⟩
      have HN := Lib.hid hn
      rw [hn] at CL MI hp ⊢
      have hk2 : (k : Int) < n := by omega
      clear hown hl hi hd hn hk
      go_enter Tryd.func21, Tryd.ntmps21
      go_wp2_with (first
        | (go_at_call 25; (with_reducible refine (CL.out).mono ?_); rintro e w1 ⟨a1, c1, rfl, o1, b1⟩; have MJ := Lib.hid (MI.out a1 c1 w1 o1 b1); clear o1 b1)
        | (go_at_call 43; (with_reducible refine (MJ.out).mono ?_); rintro e w2 ⟨rfl, o2, b2⟩; obtain ⟨g, rfl, hg1, hg2, m0, m1, m2, m3, m4, m5⟩ := o2.six k HP.out; rw [HD.out] at m5; have O2 := Lib.hid o2; have B2 := Lib.hid b2; clear o2 b2 m0 m1 m2 m3 m4))
      go_ret2
      exact ⟨_, by rw [liveE, HL.out]; rfl, by rw [failR, if_neg (by rw [HL.out]; simp)]; exact ⟨(O2.out).mono (Nat.le_succ _), B2.out⟩⟩
  · have hi : idxI ms id = -1 := by simp [idxI, hp]
    have hl : live ms id = false := by simp [live, hp]
    have HL := Lib.hid hl
    rw [hi] at MI
    obtain ⟨n, hn⟩ : ∃ n, ms.length = n := ⟨_, rfl⟩
    rw [hn] at CL MI ⊢
    clear hown hl hi hn hp
    go_enter Tryd.func21, Tryd.ntmps21
    go_wp2_with (first
      | (go_at_call 25; (with_reducible refine (CL.out).mono ?_); rintro e w1 ⟨a1, c1, rfl, o1, b1⟩; have MJ := Lib.hid (MI.out a1 c1 w1 o1 b1); clear o1 b1)
      | (go_at_call 43; (with_reducible refine (MJ.out).mono ?_); rintro e w2 ⟨rfl, o2, b2⟩; have O2 := Lib.hid o2; have B2 := Lib.hid b2; clear o2 b2))
    go_ret2
    exact ⟨_, by rw [liveE, HL.out]; rfl, by rw [failR, if_neg (by rw [HL.out]; simp)]; exact ⟨(O2.out).mono (Nat.le_succ _), B2.out⟩⟩

set_option maxHeartbeats 4000000 in
set_option maxRecDepth 100000 in
theorem changeT_any {Bs c : Nat} {a : Option Addr} {ms : List Msg} {w : World} (hown : mowns w Bs (.slice a ms.length c) ms) (lim : ms.length ≤ 1000000) (id : Nat) :
    Calls Tryd.prog 21 #[.slice a ms.length c, .int .u64 id, .func (.func 30) #[] #[]] w fun e w' => ∃ v, e = .returned (.tuple #[v, .int .i64 (liveE ms id)]) ∧ Fresh w w' v (takeR ms id) := by
  have CL := mclone_any (w := w.alloc (.cells #[.int .u64 id] 25)) (hown.below ((Below.refl _ _).alloc (Nat.le_refl _) _)) lim
  have hbx : (w.alloc (.cells #[.int .u64 id] 25)).cell? ⟨w.heap.size, 0, none⟩ = some (.int .u64 id) := by rw [Lib.cell_of_heap (heap_new w _)]; rfl
  have MI : ∀ (a' : Option Addr) (c' : Nat) (w1 : World), mowns w1 (w.alloc (.cells #[.int .u64 id] 25)).heap.size (.slice a' ms.length c') ms → Below (w.alloc (.cells #[.int .u64 id] 25)).heap.size (w.alloc (.cells #[.int .u64 id] 25)) w1 →
      Calls Tryd.prog 43 #[.slice a' ms.length c', .func (.func 44) #[] #[.pointer (some ⟨w.heap.size, 0, none⟩)]] w1 fun e w2 => e = .returned (.int .i64 (idxI ms id)) ∧ mowns w2 (w.heap.size + 1) (.slice a' ms.length c') ms ∧ Below w.heap.size w w2 := fun a' c' w1 o1 b1 => by
    refine (midx_any o1 lim id w.heap.size ((b1.cell (p := ⟨w.heap.size, 0, none⟩) (by simp)).trans hbx) (Nat.lt_of_lt_of_le (by simp) b1.size)).mono ?_
    rintro e w2 ⟨rfl, b2⟩
    have b01 : Below w.heap.size w w1 := ((Below.refl w.heap.size w).alloc (Nat.le_refl _) _).trans (b1.mono (by simp))
    refine ⟨rfl, ?_, b01.trans (b2.mono b01.size)⟩
    have := o1.below b2
    rw [World.size_alloc] at this
    exact this
  have CL := Lib.hid CL
  have MI := Lib.hid MI
  clear hbx
  have LIM := Lib.hid lim
  have hmf : ∀ (fn : Fn) (first cap : Array Value) (w : World), (Instr.makeFunc fn first cap).run Tryd.prog w = .ok (.func fn first cap) w := fun _ _ _ _ => rfl
  by_cases hp : pos ms id < ms.length
  · have hi : idxI ms id = (pos ms id : Int) := by simp [idxI, hp]
    obtain ⟨k, hk⟩ : ∃ k, pos ms id = k := ⟨_, rfl⟩
    rw [hi, hk] at MI
    cases hd : (ms[pos ms id]?.getD noMsg).dead
    · have hl : live ms id = true := by simp only [live, hp, decide_true, hd, Bool.not_false, Bool.and_self]
      have HL := Lib.hid hl
      have HK := Lib.hid hk
      rw [hk] at hp hd
      have HP := Lib.hid hp
      have HD := Lib.hid hd
      have hk0 : ¬ ((k : Int) < 0) := by omega
      have hk1 : (0 : Int) ≤ k := by omega
      obtain ⟨n, hn⟩ : ∃ n, ms.length = n := ⟨_, rfl⟩
      have HN := Lib.hid hn
      rw [hn] at CL MI hp ⊢
      have hk2 : (k : Int) < n := by omega
      clear hown hl hi hd hn hk
      go_enter Tryd.func21, Tryd.ntmps21
      go_wp2_with (first
        | (go_at_call 25; (with_reducible refine (CL.out).mono ?_); rintro e w1 ⟨a1, c1, rfl, o1, b1⟩; have MJ := Lib.hid (MI.out a1 c1 w1 o1 b1); clear o1 b1)
        | (go_at_call 43; (with_reducible refine (MJ.out).mono ?_); rintro e w2 ⟨rfl, o2, b2⟩; obtain ⟨g, rfl, hg1, hg2, m0, m1, m2, m3, m4, m5⟩ := o2.six k HP.out; rw [HD.out] at m5; have CC := Lib.hid (changeT_end o2 b2 HN.out k HP.out LIM.out HL.out HK.out); clear o2 b2 m0 m1 m2 m3 m4)
        | (go_at_call 30; (with_reducible refine (CC.out).mono ?_); rintro e w3 ⟨rfl, o3⟩; have O3 := Lib.hid o3; clear o3))
      go_ret2
      exact ⟨_, by rw [liveE, HL.out]; rfl, O3.out⟩
    · have hl : live ms id = false := by simp only [live, hd, Bool.not_true, Bool.and_false]
      have HL := Lib.hid hl
      have HK := Lib.hid hk
      rw [hk] at hp hd
      have HP := Lib.hid hp
      have HD := Lib.hid hd
      have hk0 : ¬ ((k : Int) < 0) := by omega
      have hk1 : (0 : Int) ≤ k := by omega
      obtain ⟨n, hn⟩ : ∃ n, ms.length = n := ⟨_, rfl⟩
      have HN := Lib.hid hn
      rw [hn] at CL MI hp ⊢
      have hk2 : (k : Int) < n := by omega
      clear hown hl hi hd hn hk
      go_enter Tryd.func21, Tryd.ntmps21
      go_wp2_with (first
        | (go_at_call 25; (with_reducible refine (CL.out).mono ?_); rintro e w1 ⟨a1, c1, rfl, o1, b1⟩; have MJ := Lib.hid (MI.out a1 c1 w1 o1 b1); clear o1 b1)
        | (go_at_call 43; (with_reducible refine (MJ.out).mono ?_); rintro e w2 ⟨rfl, o2, b2⟩; obtain ⟨g, rfl, hg1, hg2, m0, m1, m2, m3, m4, m5⟩ := o2.six k HP.out; rw [HD.out] at m5; have O2 := Lib.hid o2; have B2 := Lib.hid b2; clear o2 b2 m0 m1 m2 m3 m4))
      go_ret2
      exact ⟨_, by rw [liveE, HL.out]; rfl, by rw [takeR, if_neg (by rw [HL.out]; simp)]; exact ⟨(O2.out).mono (Nat.le_succ _), B2.out⟩⟩
  · have hi : idxI ms id = -1 := by simp [idxI, hp]
    have hl : live ms id = false := by simp [live, hp]
    have HL := Lib.hid hl
    rw [hi] at MI
    obtain ⟨n, hn⟩ : ∃ n, ms.length = n := ⟨_, rfl⟩
    rw [hn] at CL MI ⊢
    clear hown hl hi hn hp
    go_enter Tryd.func21, Tryd.ntmps21
    go_wp2_with (first
      | (go_at_call 25; (with_reducible refine (CL.out).mono ?_); rintro e w1 ⟨a1, c1, rfl, o1, b1⟩; have MJ := Lib.hid (MI.out a1 c1 w1 o1 b1); clear o1 b1)
      | (go_at_call 43; (with_reducible refine (MJ.out).mono ?_); rintro e w2 ⟨rfl, o2, b2⟩; have O2 := Lib.hid o2; have B2 := Lib.hid b2; clear o2 b2))
    go_ret2
    exact ⟨_, by rw [liveE, HL.out]; rfl, by rw [takeR, if_neg (by rw [HL.out]; simp)]; exact ⟨(O2.out).mono (Nat.le_succ _), B2.out⟩⟩

set_option maxRecDepth 100000 in
theorem failed_any {Bs c : Nat} {a : Option Addr} {ms : List Msg} {w : World} (hown : mowns w Bs (.slice a ms.length c) ms) (lim : ms.length ≤ 1000000) (id : Nat) (now : Int) :
    Calls Tryd.prog 9 #[.slice a ms.length c, .int .u64 id, .int .i64 now] w fun e w' => ∃ v, e = .returned (.tuple #[v, .int .i64 (liveE ms id)]) ∧ Fresh w w' v (failR ms id now) := by
  have b0 : Below w.heap.size w (w.alloc (.cells #[.int .i64 now] 2)) := (Below.refl _ _).alloc (Nat.le_refl _) _
  have CH := changeF_any (w := w.alloc (.cells #[.int .i64 now] 2)) (hown.below b0) lim id w.heap.size now (by rw [Lib.cell_of_heap (heap_new w _)]; rfl) (by simp)
  have CH := Lib.hid CH
  have hmf : ∀ (fn : Fn) (first cap : Array Value) (w : World), (Instr.makeFunc fn first cap).run Tryd.prog w = .ok (.func fn first cap) w := fun _ _ _ _ => rfl
  obtain ⟨n, hn⟩ : ∃ n, ms.length = n := ⟨_, rfl⟩
  rw [hn] at CH ⊢
  clear hown lim hn
  go_enter Tryd.func9, Tryd.ntmps9
  go_wp2_with (go_at_call 21; (with_reducible refine (CH.out).mono ?_); rintro e w2 ⟨v, rfl, o2, b2⟩; have O2 := Lib.hid o2; have B2 := Lib.hid b2; clear o2 b2)
  go_ret2
  exact ⟨v, rfl, (O2.out).mono (by simp), b0.trans ((B2.out).mono (by simp))⟩
set_option maxRecDepth 100000 in
theorem taken_any {Bs c : Nat} {a : Option Addr} {ms : List Msg} {w : World} (hown : mowns w Bs (.slice a ms.length c) ms) (lim : ms.length ≤ 1000000) (id : Nat) :
    Calls Tryd.prog 15 #[.slice a ms.length c, .int .u64 id] w fun e w' => ∃ v, e = .returned (.tuple #[v, .int .i64 (liveE ms id)]) ∧ Fresh w w' v (takeR ms id) := by
  have CH := Lib.hid (changeT_any hown lim id)
  obtain ⟨n, hn⟩ : ∃ n, ms.length = n := ⟨_, rfl⟩
  rw [hn] at CH ⊢
  clear hown lim hn
  go_enter Tryd.func15, Tryd.ntmps15
  go_wp2_with (go_at_call 21; (with_reducible refine (CH.out).mono ?_); rintro e w2 ⟨v, rfl, o2⟩; have O2 := Lib.hid o2; clear o2)
  go_ret2
  exact ⟨v, rfl, O2.out⟩
end Go.Proofs.YtleobnfmbhobgaaDoor
