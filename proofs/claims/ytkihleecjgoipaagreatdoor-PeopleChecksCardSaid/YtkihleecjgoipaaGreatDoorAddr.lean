/- address: letter, digit, only, name, host, Kind, for any text. -/
import Derived.Test.YtkihleecjgoipaaGreatDoorSmall
import Derived.Test.YtkihleecjgoipaaGreatDoorShelf
namespace Go.Proofs.YtkihleecjgoipaaGreatDoor
open Go.RowKit Go.Shelf

def digB (c : Nat) : Bool := decide (48 ≤ c) && decide (c ≤ 57)
def letB (c : Nat) : Bool := (decide (97 ≤ c) && decide (c ≤ 122)) || digB c
def nmB (c : Nat) : Bool := letB c || decide (c = 95) || decide (c = 45) || decide (c = 46)
def hsB (c : Nat) : Bool := letB c || decide (c = 45)
def onlyB (p : Nat → Bool) (s : ByteArray) : Bool := decide (Lib.idxFunc (fun c => !p c) true s < 0)

set_option maxRecDepth 100000 in
theorem digit_any (c : Nat) (w : World) : Calls Tryz.prog 76 #[.int .i32 c] w fun e w' => e = .returned (.bool (digB c)) ∧ w' = w := by
  unfold digB
  by_cases h1 : 48 ≤ c
  · by_cases h2 : c ≤ 57
    · have e1 : (48 : Int) ≤ c := by omega
      have e2 : (c : Int) ≤ 57 := by omega
      simp only [h1, h2, decide_true, Bool.and_self]
      clear h1 h2
      go_enter Tryz.func76, Tryz.ntmps76
      go_wp2_with fail
      go_ret
      exact ⟨rfl, rfl⟩
    · have e1 : (48 : Int) ≤ c := by omega
      have e2 : ¬ ((c : Int) ≤ 57) := by omega
      simp only [h1, h2, decide_true, decide_false, Bool.and_false]
      clear h1 h2
      go_enter Tryz.func76, Tryz.ntmps76
      go_wp2_with fail
      go_ret
      exact ⟨rfl, rfl⟩
  · have e1 : ¬ ((48 : Int) ≤ c) := by omega
    simp only [h1, decide_false, Bool.false_and]
    clear h1
    go_enter Tryz.func76, Tryz.ntmps76
    go_wp2_with fail
    go_ret
    exact ⟨rfl, rfl⟩

set_option maxRecDepth 100000 in
theorem letter_any (c : Nat) (w : World) : Calls Tryz.prog 83 #[.int .i32 c] w fun e w' => e = .returned (.bool (letB c)) ∧ w' = w := by
  have D := Lib.hid (digit_any c w)
  obtain ⟨d, hd⟩ : ∃ d, digB c = d := ⟨_, rfl⟩
  unfold letB
  rw [hd] at D ⊢
  clear hd
  by_cases h1 : 97 ≤ c
  · by_cases h2 : c ≤ 122
    · have e1 : (97 : Int) ≤ c := by omega
      have e2 : (c : Int) ≤ 122 := by omega
      simp only [h1, h2, decide_true, Bool.and_self, Bool.true_or]
      clear h1 h2 D
      go_enter Tryz.func83, Tryz.ntmps83
      go_wp2_with fail
      go_ret
      exact ⟨rfl, rfl⟩
    · have e1 : (97 : Int) ≤ c := by omega
      have e2 : ¬ ((c : Int) ≤ 122) := by omega
      simp only [h1, h2, decide_true, decide_false, Bool.and_false, Bool.false_or]
      clear h1 h2
      go_enter Tryz.func83, Tryz.ntmps83
      go_wp2_with (go_at_call 76; (with_reducible refine (D.out).mono ?_); rintro e w2 ⟨rfl, rfl⟩)
      go_ret
      exact ⟨rfl, rfl⟩
  · have e1 : ¬ ((97 : Int) ≤ c) := by omega
    simp only [h1, decide_false, Bool.false_and, Bool.false_or]
    clear h1
    go_enter Tryz.func83, Tryz.ntmps83
    go_wp2_with (go_at_call 76; (with_reducible refine (D.out).mono ?_); rintro e w2 ⟨rfl, rfl⟩)
    go_ret
    exact ⟨rfl, rfl⟩

set_option maxRecDepth 100000 in
theorem hostc_any (c : Nat) (w : World) : Calls Tryz.prog 85 #[.int .i32 c] w fun e w' => e = .returned (.bool (hsB c)) ∧ w' = w := by
  have L := Lib.hid (letter_any c w)
  obtain ⟨d, hd⟩ : ∃ d, letB c = d := ⟨_, rfl⟩
  unfold hsB
  rw [hd] at L ⊢
  clear hd
  cases d
  · rw [Bool.false_or]
    by_cases h1 : c = 45
    · have e1 : ((c : Int) == 45) = true := by simp; omega
      simp only [h1, decide_true]
      rw [← h1]
      clear h1
      go_enter Tryz.func85, Tryz.ntmps85
      go_wp2_with (go_at_call 83; (with_reducible refine (L.out).mono ?_); rintro e w2 ⟨rfl, rfl⟩)
      go_ret
      exact ⟨rfl, rfl⟩
    · have e1 : ((c : Int) == 45) = false := by simp; omega
      simp only [h1, decide_false]
      clear h1
      go_enter Tryz.func85, Tryz.ntmps85
      go_wp2_with (go_at_call 83; (with_reducible refine (L.out).mono ?_); rintro e w2 ⟨rfl, rfl⟩)
      go_ret
      exact ⟨rfl, rfl⟩
  · rw [Bool.true_or]
    go_enter Tryz.func85, Tryz.ntmps85
    go_wp2_with (go_at_call 83; (with_reducible refine (L.out).mono ?_); rintro e w2 ⟨rfl, rfl⟩)
    go_ret
    exact ⟨rfl, rfl⟩

set_option maxRecDepth 100000 in
theorem namec_any (c : Nat) (w : World) : Calls Tryz.prog 82 #[.int .i32 c] w fun e w' => e = .returned (.bool (nmB c)) ∧ w' = w := by
  have L := Lib.hid (letter_any c w)
  obtain ⟨d, hd⟩ : ∃ d, letB c = d := ⟨_, rfl⟩
  unfold nmB
  rw [hd] at L ⊢
  clear hd
  have q1 : ((c : Int) == 95) = decide (c = 95) := by rw [Bool.eq_iff_iff]; simp; omega
  have q2 : ((c : Int) == 45) = decide (c = 45) := by rw [Bool.eq_iff_iff]; simp; omega
  have q3 : ((c : Int) == 46) = decide (c = 46) := by rw [Bool.eq_iff_iff]; simp; omega
  obtain ⟨b1, h1⟩ : ∃ b, decide (c = 95) = b := ⟨_, rfl⟩
  obtain ⟨b2, h2⟩ : ∃ b, decide (c = 45) = b := ⟨_, rfl⟩
  obtain ⟨b3, h3⟩ : ∃ b, decide (c = 46) = b := ⟨_, rfl⟩
  rw [h1] at q1 ⊢
  rw [h2] at q2 ⊢
  rw [h3] at q3 ⊢
  clear h1 h2 h3
  cases d
  · cases b1
    · cases b2
      · simp only [Bool.false_or]
        go_enter Tryz.func82, Tryz.ntmps82
        go_wp2_with (go_at_call 83; (with_reducible refine (L.out).mono ?_); rintro e w2 ⟨rfl, rfl⟩)
        go_ret
        exact ⟨rfl, rfl⟩
      · simp only [Bool.false_or, Bool.true_or]
        clear q3
        go_enter Tryz.func82, Tryz.ntmps82
        go_wp2_with (go_at_call 83; (with_reducible refine (L.out).mono ?_); rintro e w2 ⟨rfl, rfl⟩)
        go_ret
        exact ⟨rfl, rfl⟩
    · simp only [Bool.false_or, Bool.true_or]
      clear q2 q3
      go_enter Tryz.func82, Tryz.ntmps82
      go_wp2_with (go_at_call 83; (with_reducible refine (L.out).mono ?_); rintro e w2 ⟨rfl, rfl⟩)
      go_ret
      exact ⟨rfl, rfl⟩
  · simp only [Bool.true_or]
    clear q1 q2 q3
    go_enter Tryz.func82, Tryz.ntmps82
    go_wp2_with (go_at_call 83; (with_reducible refine (L.out).mono ?_); rintro e w2 ⟨rfl, rfl⟩)
    go_ret
    exact ⟨rfl, rfl⟩
/- The closure of only, and only, at each predicate. -/

set_option maxRecDepth 100000 in
theorem onlyc_dig (B c : Nat) (w : World) (hB : w.cell? ⟨B, 0, none⟩ = some (.func (.func 76) #[] #[])) :
    Calls Tryz.prog 87 #[.int .i32 c, .pointer (some ⟨B, 0, none⟩)] w fun e w' => e = .returned (.bool (!digB c)) ∧ w' = w := by
  have P := Lib.hid (digit_any c w)
  obtain ⟨b, hb⟩ : ∃ b, digB c = b := ⟨_, rfl⟩
  rw [hb] at P ⊢
  clear hb
  go_enter Tryz.func87, Tryz.ntmps87
  go_wp2_with (go_at_call 76; (with_reducible refine (P.out).mono ?_); rintro e w2 ⟨rfl, rfl⟩)
  go_ret
  exact ⟨rfl, rfl⟩

set_option maxRecDepth 100000 in
theorem only_dig (s : ByteArray) (w : World) : Calls Tryz.prog 75 #[.string s, .func (.func 76) #[] #[]] w fun e w' => e = .returned (.bool (onlyB digB s)) ∧ Below w.heap.size w w' := by
  have I := Tryz.strings_IndexFunc_grows 87 #[.pointer (some ⟨w.heap.size, 0, none⟩)] (enters_of Tryz.func87 (by kernel_rfl) rfl) (fun c => !digB c) s (w.alloc (.cells #[.func (.func 76) #[] #[]] 93)) (fun W c _ hb => by
    have hc : W.cell? ⟨w.heap.size, 0, none⟩ = some (.func (.func 76) #[] #[]) := (hb.cell (p := ⟨w.heap.size, 0, none⟩) (by simp)).trans (by rw [Lib.cell_of_heap (heap_new w _)]; rfl)
    exact (onlyc_dig w.heap.size c W hc).mono fun e w' ⟨h1, h2⟩ => ⟨h1, h2 ▸ Below.refl _ _⟩)
  unfold onlyB
  obtain ⟨i, hi⟩ : ∃ i, Lib.idxFunc (fun c => !digB c) true s = i := ⟨_, rfl⟩
  rw [hi] at I ⊢
  clear hi
  have I := Lib.hid I
  have hmf : ∀ (fn : Fn) (first cap : Array Value) (w : World), (Instr.makeFunc fn first cap).run Tryz.prog w = .ok (.func fn first cap) w := fun _ _ _ _ => rfl
  go_enter Tryz.func75, Tryz.ntmps75
  go_wp2_with (go_at_call 86; (with_reducible refine (I.out).mono ?_); rintro e w2 ⟨rfl, hb⟩)
  go_ret
  exact ⟨rfl, ((Below.refl _ _).alloc (Nat.le_refl _) _).trans (hb.mono (by simp))⟩

set_option maxRecDepth 100000 in
theorem onlyc_nam (B c : Nat) (w : World) (hB : w.cell? ⟨B, 0, none⟩ = some (.func (.func 82) #[] #[])) :
    Calls Tryz.prog 87 #[.int .i32 c, .pointer (some ⟨B, 0, none⟩)] w fun e w' => e = .returned (.bool (!nmB c)) ∧ w' = w := by
  have P := Lib.hid (namec_any c w)
  obtain ⟨b, hb⟩ : ∃ b, nmB c = b := ⟨_, rfl⟩
  rw [hb] at P ⊢
  clear hb
  go_enter Tryz.func87, Tryz.ntmps87
  go_wp2_with (go_at_call 82; (with_reducible refine (P.out).mono ?_); rintro e w2 ⟨rfl, rfl⟩)
  go_ret
  exact ⟨rfl, rfl⟩

set_option maxRecDepth 100000 in
theorem only_nam (s : ByteArray) (w : World) : Calls Tryz.prog 75 #[.string s, .func (.func 82) #[] #[]] w fun e w' => e = .returned (.bool (onlyB nmB s)) ∧ Below w.heap.size w w' := by
  have I := Tryz.strings_IndexFunc_grows 87 #[.pointer (some ⟨w.heap.size, 0, none⟩)] (enters_of Tryz.func87 (by kernel_rfl) rfl) (fun c => !nmB c) s (w.alloc (.cells #[.func (.func 82) #[] #[]] 93)) (fun W c _ hb => by
    have hc : W.cell? ⟨w.heap.size, 0, none⟩ = some (.func (.func 82) #[] #[]) := (hb.cell (p := ⟨w.heap.size, 0, none⟩) (by simp)).trans (by rw [Lib.cell_of_heap (heap_new w _)]; rfl)
    exact (onlyc_nam w.heap.size c W hc).mono fun e w' ⟨h1, h2⟩ => ⟨h1, h2 ▸ Below.refl _ _⟩)
  unfold onlyB
  obtain ⟨i, hi⟩ : ∃ i, Lib.idxFunc (fun c => !nmB c) true s = i := ⟨_, rfl⟩
  rw [hi] at I ⊢
  clear hi
  have I := Lib.hid I
  have hmf : ∀ (fn : Fn) (first cap : Array Value) (w : World), (Instr.makeFunc fn first cap).run Tryz.prog w = .ok (.func fn first cap) w := fun _ _ _ _ => rfl
  go_enter Tryz.func75, Tryz.ntmps75
  go_wp2_with (go_at_call 86; (with_reducible refine (I.out).mono ?_); rintro e w2 ⟨rfl, hb⟩)
  go_ret
  exact ⟨rfl, ((Below.refl _ _).alloc (Nat.le_refl _) _).trans (hb.mono (by simp))⟩

set_option maxRecDepth 100000 in
theorem onlyc_hst (B c : Nat) (w : World) (hB : w.cell? ⟨B, 0, none⟩ = some (.func (.func 85) #[] #[])) :
    Calls Tryz.prog 87 #[.int .i32 c, .pointer (some ⟨B, 0, none⟩)] w fun e w' => e = .returned (.bool (!hsB c)) ∧ w' = w := by
  have P := Lib.hid (hostc_any c w)
  obtain ⟨b, hb⟩ : ∃ b, hsB c = b := ⟨_, rfl⟩
  rw [hb] at P ⊢
  clear hb
  go_enter Tryz.func87, Tryz.ntmps87
  go_wp2_with (go_at_call 85; (with_reducible refine (P.out).mono ?_); rintro e w2 ⟨rfl, rfl⟩)
  go_ret
  exact ⟨rfl, rfl⟩

set_option maxRecDepth 100000 in
theorem only_hst (s : ByteArray) (w : World) : Calls Tryz.prog 75 #[.string s, .func (.func 85) #[] #[]] w fun e w' => e = .returned (.bool (onlyB hsB s)) ∧ Below w.heap.size w w' := by
  have I := Tryz.strings_IndexFunc_grows 87 #[.pointer (some ⟨w.heap.size, 0, none⟩)] (enters_of Tryz.func87 (by kernel_rfl) rfl) (fun c => !hsB c) s (w.alloc (.cells #[.func (.func 85) #[] #[]] 93)) (fun W c _ hb => by
    have hc : W.cell? ⟨w.heap.size, 0, none⟩ = some (.func (.func 85) #[] #[]) := (hb.cell (p := ⟨w.heap.size, 0, none⟩) (by simp)).trans (by rw [Lib.cell_of_heap (heap_new w _)]; rfl)
    exact (onlyc_hst w.heap.size c W hc).mono fun e w' ⟨h1, h2⟩ => ⟨h1, h2 ▸ Below.refl _ _⟩)
  unfold onlyB
  obtain ⟨i, hi⟩ : ∃ i, Lib.idxFunc (fun c => !hsB c) true s = i := ⟨_, rfl⟩
  rw [hi] at I ⊢
  clear hi
  have I := Lib.hid I
  have hmf : ∀ (fn : Fn) (first cap : Array Value) (w : World), (Instr.makeFunc fn first cap).run Tryz.prog w = .ok (.func fn first cap) w := fun _ _ _ _ => rfl
  go_enter Tryz.func75, Tryz.ntmps75
  go_wp2_with (go_at_call 86; (with_reducible refine (I.out).mono ?_); rintro e w2 ⟨rfl, hb⟩)
  go_ret
  exact ⟨rfl, ((Below.refl _ _).alloc (Nat.le_refl _) _).trans (hb.mono (by simp))⟩
end Go.Proofs.YtkihleecjgoipaaGreatDoor
