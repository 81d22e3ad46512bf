/- address: name, host, Kind, for any text of at most 4,000,000,000 bytes. -/
import Derived.Test.YtkihleecjgoipaaGreatDoorAddr
import Derived.LoopTactic
import Derived.RangeFuncOwn
namespace Go.Proofs.YtkihleecjgoipaaGreatDoor
open Go.RowKit Go.Shelf

/-- The library's variable MaxLen holds some number. -/
def ML (w : World) : Prop := ∃ m : Int, w.cell? ⟨0, 0, none⟩ = some (.int .i64 m)
theorem ML.lt {w : World} (h : ML w) : 0 < w.heap.size := by
  obtain ⟨m, h⟩ := h
  obtain ⟨o, ho, _⟩ := cells_of_cell h
  exact (Array.getElem?_eq_some_iff.1 ho).1
theorem ML.below {w W : World} (h : ML w) (b : Below w.heap.size w W) : ML W := by
  have hl := h.lt
  obtain ⟨m, h⟩ := h
  exact ⟨m, (b.cell (p := ⟨0, 0, none⟩) hl).trans h⟩

def dotted (s : ByteArray) : ByteArray := ⟨#[46]⟩ ++ s ++ ⟨#[46]⟩
def nameB (s : ByteArray) : Bool := !s.toList.isEmpty && !(Lib.contains (dotted s).data.toList [46, 46]) && onlyB nmB s

set_option maxRecDepth 100000 in
set_option maxHeartbeats 1000000 in
theorem name_any (s : ByteArray) (hs : s.size ≤ 4000000000) (w : World) (hm : ML w) : Calls Tryz.prog 73 #[.string s] w fun e w' => e = .returned (.bool (nameB s)) ∧ Below w.heap.size w w' := by
  obtain ⟨m, hm⟩ := hm
  have o1 : (⟨#[46]⟩ : ByteArray).size = 1 := rfl
  have hz : (dotted s).size = s.size + 2 := by unfold dotted; rw [ByteArray.size_append, ByteArray.size_append, o1]; omega
  have CT := fun wx (h : wx.cell? ⟨0, 0, none⟩ = some (.int .i64 m)) => Tryz.strings_Contains (dotted s) ⟨#[46, 46]⟩ m wx (by omega) h
  have CT := Lib.hid (CT w hm)
  have ON := Lib.hid (only_nam s w)
  have hd : ⟨#[46]⟩ ++ s ++ ⟨#[46]⟩ = dotted s := rfl
  have c1 : ¬ 9223372036854775807 < (⟨#[46]⟩ : ByteArray).size + s.size := by omega
  have c2 : ¬ 9223372036854775807 < ((⟨#[46]⟩ : ByteArray) ++ s).size + (⟨#[46]⟩ : ByteArray).size := by rw [ByteArray.size_append, o1]; omega
  unfold nameB
  obtain ⟨e0, he0⟩ : ∃ e, s.toList.isEmpty = e := ⟨_, rfl⟩
  obtain ⟨ct, hct⟩ : ∃ e, Lib.contains (dotted s).data.toList [46, 46] = e := ⟨_, rfl⟩
  obtain ⟨on, hon⟩ : ∃ e, onlyB nmB s = e := ⟨_, rfl⟩
  rw [show (⟨#[46, 46]⟩ : ByteArray).data.toList = [46, 46] from rfl, hct] at CT
  rw [hon] at ON
  rw [he0, hct, hon]
  clear hct hon hm hz o1
  cases e0
  · cases ct
    · simp only [Bool.not_false, Bool.true_and]
      go_enter Tryz.func73, Tryz.ntmps73
      go_wp2_with (first
        | (go_at_call 81; (with_reducible refine (CT.out).mono ?_); rintro e w2 ⟨rfl, rfl⟩)
        | (go_at_call 75; (with_reducible refine (ON.out).mono ?_); rintro e w2 ⟨rfl, hb⟩))
      try rw [Exit.noGoto_ret]
      go_ret
      exact ⟨rfl, hb⟩
    · simp only [Bool.not_false, Bool.true_and, Bool.not_true, Bool.false_and]
      go_enter Tryz.func73, Tryz.ntmps73
      go_wp2_with (first
        | (go_at_call 81; (with_reducible refine (CT.out).mono ?_); rintro e w2 ⟨rfl, rfl⟩)
        | (go_at_call 75; (with_reducible refine (ON.out).mono ?_); rintro e w2 ⟨rfl, hb⟩))
      try rw [Exit.noGoto_ret]
      go_ret
      exact ⟨rfl, Below.refl _ _⟩
  · simp only [Bool.not_true, Bool.false_and]
    go_enter Tryz.func73, Tryz.ntmps73
    go_wp2_with fail
    go_ret
    exact ⟨rfl, Below.refl _ _⟩

/-- A label of a host. -/
def labB (x : ByteArray) : Bool := !x.toList.isEmpty && decide (x.size ≤ 20) && decide (x.data.toList[0]?.getD 0 ≠ 45) && decide (x.data.toList[x.size - 1]?.getD 0 ≠ 45) && onlyB hsB x
def hostL (s : ByteArray) : List ByteArray := Lib.splitB ⟨#[46]⟩ 0 (Lib.countB s ⟨#[46]⟩) s
def hostB (s : ByteArray) : Bool := decide (2 ≤ Lib.countB s ⟨#[46]⟩ + 1) && (hostL s).all labB

theorem splitB_length (sep : ByteArray) (h1 : 1 ≤ sep.size) : ∀ (k : Nat) (s : ByteArray), Lib.countB s sep = k → (Lib.splitB sep 0 k s).length = k + 1 := by
  intro k
  induction k with
  | zero => intro s _; rfl
  | succ k ih =>
    intro s h
    have hx : ¬ Lib.indexB s sep = -1 := fun e => by rw [Lib.countB_miss s sep e] at h; omega
    have hge : 0 ≤ Lib.indexB s sep := by have := Lib.index_ge s.data.toList sep.data.toList; unfold Lib.indexB at hx ⊢; omega
    obtain ⟨i, hi⟩ : ∃ i : Nat, Lib.indexB s sep = i := ⟨(Lib.indexB s sep).toNat, by omega⟩
    have hc := Lib.countB_hit s sep i h1 hi
    rw [h] at hc
    unfold Lib.splitB
    rw [if_neg (by simpa using hx)]
    rw [List.length_cons, hi, Int.toNat_natCast, ih _ (by omega)]
theorem hostL_length (s : ByteArray) : (hostL s).length = Lib.countB s ⟨#[46]⟩ + 1 := splitB_length ⟨#[46]⟩ (by decide) _ s rfl

theorem all_take_false {L : List ByteArray} {p : ByteArray → Bool} {j : Nat} (h : (L.take j).all p = false) : L.all p = false := by
  cases hL : L.all p
  · rfl
  · rw [List.all_eq_true] at hL
    have : (L.take j).all p = true := List.all_eq_true.2 (fun y hy => hL y (List.mem_of_mem_take hy))
    rw [this] at h
    cases h
theorem byte_at (x : ByteArray) (i : Nat) (h : i < x.size) : x.data.toList[i]?.getD 0 = x[i] := by
  have h2 : i < x.data.toList.length := by simpa using h
  rw [List.getElem?_eq_getElem h2]
  simp [ByteArray.getElem_eq_getElem_data]
theorem u8_eq (a : UInt8) (n : Nat) (hn : n < 256) : a = UInt8.ofNat n ↔ a.toNat = n := by
  constructor
  · intro h; rw [h]; simp; omega
  · intro h; apply UInt8.toNat_inj.1; rw [h]; simp; omega
set_option maxRecDepth 100000 in
set_option maxHeartbeats 4000000 in
theorem host_any (s : ByteArray) (hs : s.size ≤ 4000000000) (w : World) (hm : ML w) : Calls Tryz.prog 74 #[.string s] w fun e w' => e = .returned (.bool (hostB s)) ∧ Below w.heap.size w w' := by
  obtain ⟨m, hm⟩ := hm
  have SP := Lib.hid (Tryz.strings_Split s ⟨#[46]⟩ m w (by omega) hm (by decide))
  have hl := hostL_length s
  have hle : Lib.countB s ⟨#[46]⟩ ≤ s.size := Lib.countB_le ⟨#[46]⟩ (by decide) s.size s (Nat.le_refl _)
  have hcell : ∀ (W : World) (i : Nat) (h : i < (hostL s).length), Below (w.heap.size + 1) (w.alloc (.cells ((hostL s).map Value.string).toArray 9)) W → W.cell? ⟨w.heap.size, i, none⟩ = some (.string (hostL s)[i]) := fun W i h hb => by
    rw [hb.cell (p := ⟨w.heap.size, i, none⟩) (by simp), Lib.cell_of_heap (heap_new w _)]
    simp [h]
  have hbel : Below w.heap.size w (w.alloc (.cells ((hostL s).map Value.string).toArray 9)) := (Below.refl _ _).alloc (Nat.le_refl _) _
  unfold hostB
  rw [show Lib.splitB ⟨#[46]⟩ 0 (Lib.countB s ⟨#[46]⟩) s = hostL s from rfl] at SP
  rw [← hl]
  rw [← hl] at SP
  generalize hostL s = L at *
  have HC := Lib.hid hcell
  have HB := Lib.hid hbel
  obtain ⟨n, hn⟩ : ∃ n, L.length = n := ⟨_, rfl⟩
  have hnb : n ≤ 4000000001 := by omega
  rw [hn] at SP
  rw [hn]
  obtain ⟨base, hbase⟩ : ∃ b, decide (2 ≤ n) = b := ⟨_, rfl⟩
  have hb2 : decide ((2 : Int) ≤ n) = base := by rw [← hbase, Bool.eq_iff_iff]; simp; omega
  rw [hbase]
  have HN := Lib.hid hn
  clear hcell hbel hl hle hm hn hbase
  go_enter Tryz.func74, Tryz.ntmps74
  go_wp2_with fail
  go_step3
  go_wp2_with (go_at_call 84; (with_reducible refine (SP.out).mono ?_); rintro e w2 ⟨rfl, rfl⟩)
  clear SP
  go_step3
  go_wp2_with fail
  go_loopw [4, 14] (fun ok i wr => ∃ k : Nat, k ≤ n ∧ i = .int .i64 k ∧ ok = .bool (base && (L.take k).all labB) ∧ Below (w.heap.size + 1) (w.alloc (.cells (L.map Value.string).toArray 9)) wr) (fun _ i _ => n - (intOf i).toNat)
  case atStart => exact ⟨0, Nat.zero_le _, rfl, by simp, Below.refl _ _⟩
  case round =>
    obtain ⟨k, hk, rfl, rfl, hb⟩ := hrel
    have WB := Lib.hid hb
    obtain ⟨ok, hok⟩ : ∃ b, (base && (L.take k).all labB) = b := ⟨_, rfl⟩
    rw [hok]
    by_cases hlt : k < n
    · have hlt' : (k : Int) < n := by omega
      have hkl : k < L.length := by rw [HN.out]; exact hlt
      have hc := HC.out wr k hkl hb
      have htk : (L.take (k + 1)).all labB = ((L.take k).all labB && labB L[k]) := by rw [List.take_succ_eq_append_getElem hkl, List.all_append]; simp only [List.all_cons, List.all_nil, Bool.and_true]
      obtain ⟨x, hx⟩ : ∃ x, L[k] = x := ⟨_, rfl⟩
      rw [hx] at hc htk
      have ON := Lib.hid (only_hst x wr)
      have FF : Hid (labB x = false → (base && L.all labB) = false) := Lib.hid (fun h => by rw [all_take_false (j := k + 1) (by rw [htk, h, Bool.and_false]), Bool.and_false])
      have F0 : Hid ((base && (L.take k).all labB) = false → (base && L.all labB) = false) := Lib.hid (fun h => by
        cases base
        · rfl
        · rw [Bool.true_and] at h ⊢; exact all_take_false h)
      have HK := Lib.hid htk
      have HO := Lib.hid hok
      have hws : w.heap.size + 1 ≤ wr.heap.size := by have := hb.size; simpa using this
      have HW := Lib.hid hws
      clear hb htk hok hx hws
      cases ok
      · go_wp2_with fail
        try rw [Exit.noGoto_ret]
        go_ret
        exact ⟨ret_bool (F0.out HO.out).symm, HB.out.trans (WB.out.mono (Nat.le_succ _))⟩
      · have LB : Hid (labB x = (!x.toList.isEmpty && decide (x.size ≤ 20) && decide (x.data.toList[0]?.getD 0 ≠ 45) && decide (x.data.toList[x.size - 1]?.getD 0 ≠ 45) && onlyB hsB x)) := Lib.hid rfl
        cases h0 : x.toList.isEmpty
        · have hps : 0 < x.size := by
            rcases Nat.eq_zero_or_pos x.size with e | e
            · rw [ByteArray.toList_eq] at h0
              have : x.data.toList = [] := List.eq_nil_of_length_eq_zero (by simpa using e)
              rw [this] at h0
              cases h0
            · exact e
          have hi1 : (1 : Int) ≤ x.size := by omega
          have hi2 : (x.size : Int) - 1 < x.size := by omega
          have hi3 : ((x.size : Int) - 1).toNat = x.size - 1 := by omega
          have hlz : x.size - 1 < x.size := by omega
          by_cases h1 : x.size ≤ 20
          · have h1' : (x.size : Int) ≤ 20 := by omega
            by_cases h2 : x[0] = 45
            · have e2 : (x[0].toNat : Int) = 45 := by rw [h2]; rfl
              have e2' : ((x[0].toNat : Int) != 45) = false := by rw [e2]; rfl
              have hf : labB x = false := by rw [LB.out, byte_at x 0 hps]; simp [h2]
              have HF := Lib.hid hf
              clear h2 hf
              go_wp2_with (go_at_call 75; (with_reducible refine (ON.out).mono ?_); rintro e w3 ⟨rfl, hb3⟩)
              try rw [Exit.noGoto_ret]
              go_ret
              exact ⟨ret_bool (FF.out HF.out).symm, HB.out.trans (WB.out.mono (Nat.le_succ _))⟩
            · have e2 : ¬ (x[0].toNat : Int) = 45 := fun e => h2 ((u8_eq x[0] 45 (by decide)).2 (by omega))
              have e2' : ((x[0].toNat : Int) != 45) = true := by simpa using e2
              by_cases h3 : x[x.size - 1] = 45
              · have e3 : (x[x.size - 1].toNat : Int) = 45 := by rw [h3]; rfl
                have e3' : ((x[x.size - 1].toNat : Int) != 45) = false := by rw [e3]; rfl
                have hf : labB x = false := by rw [LB.out, byte_at x _ hlz]; simp [h3]
                have HF := Lib.hid hf
                clear h2 h3 hf
                go_wp2_with (go_at_call 75; (with_reducible refine (ON.out).mono ?_); rintro e w3 ⟨rfl, hb3⟩)
                try rw [Exit.noGoto_ret]
                go_ret
                exact ⟨ret_bool (FF.out HF.out).symm, HB.out.trans (WB.out.mono (Nat.le_succ _))⟩
              · have e3 : ¬ (x[x.size - 1].toNat : Int) = 45 := fun e => h3 ((u8_eq x[x.size - 1] 45 (by decide)).2 (by omega))
                have e3' : ((x[x.size - 1].toNat : Int) != 45) = true := by simpa using e3
                have hf : labB x = onlyB hsB x := by rw [LB.out, byte_at x _ hlz, byte_at x 0 hps]; simp [h0, h1, h2, h3]
                have HF := Lib.hid hf
                clear h2 h3 hf
                obtain ⟨on, hon⟩ : ∃ b, onlyB hsB x = b := ⟨_, rfl⟩
                rw [hon] at ON HF
                clear hon
                cases on
                · go_wp2_with (go_at_call 75; (with_reducible refine (ON.out).mono ?_); rintro e w3 ⟨rfl, hb3⟩)
                  try rw [Exit.noGoto_ret]
                  go_ret
                  exact ⟨ret_bool (FF.out HF.out).symm, (HB.out.trans (WB.out.mono (Nat.le_succ _))).trans (hb3.mono (Nat.le_trans (Nat.le_succ _) HW.out))⟩
                · go_wp2_with (go_at_call 75; (with_reducible refine (ON.out).mono ?_); rintro e w3 ⟨rfl, hb3⟩)
                  go_roundw
                  case rel => exact ⟨k + 1, by omega, by go_num, by rw [HK.out, HF.out, Bool.and_true, HO.out], WB.out.trans (hb3.mono HW.out)⟩
                  case measure => simp [intOf]; omega
          · have h1' : ¬ ((x.size : Int) ≤ 20) := by omega
            have hf : labB x = false := by rw [LB.out]; simp [h1]
            have HF := Lib.hid hf
            clear hf
            go_wp2_with (go_at_call 75; (with_reducible refine (ON.out).mono ?_); rintro e w3 ⟨rfl, hb3⟩)
            try rw [Exit.noGoto_ret]
            go_ret
            exact ⟨ret_bool (FF.out HF.out).symm, HB.out.trans (WB.out.mono (Nat.le_succ _))⟩
        · have hf : labB x = false := by rw [LB.out, h0]; simp
          have HF := Lib.hid hf
          clear hf
          go_wp2_with (go_at_call 75; (with_reducible refine (ON.out).mono ?_); rintro e w3 ⟨rfl, hb3⟩)
          try rw [Exit.noGoto_ret]
          go_ret
          exact ⟨ret_bool (FF.out HF.out).symm, HB.out.trans (WB.out.mono (Nat.le_succ _))⟩
    · have hlt' : ¬ ((k : Int) < n) := by omega
      have e1 : L.take k = L := List.take_of_length_le (by rw [HN.out]; omega)
      rw [e1] at hok
      have HO := Lib.hid hok
      clear hok e1 hb
      go_wp2_with fail
      go_ret
      exact ⟨ret_bool HO.out.symm, HB.out.trans (WB.out.mono (Nat.le_succ _))⟩
end Go.Proofs.YtkihleecjgoipaaGreatDoor
