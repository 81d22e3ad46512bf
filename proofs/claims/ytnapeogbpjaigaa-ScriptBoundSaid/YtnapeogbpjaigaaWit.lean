/- script.Witness of no crashes, no refusals and no delay: three steps, of the kinds request, dispatch, request; and the chapter's example in the laws' package. -/
import Derived.Test.YtnapeogbpjaigaaUp
import Derived.Test.YtnapeogbpjaigaaEnc
import Derived.Test.YtnapeogbpjaigaaReq
import Derived.Test.YtnapeogbpjaigaaWWords
namespace Go.Proofs.Ytnapeogbpjaigaa
open Go.RowKit Go.Proofs.YtnapeogbpjaigaaW.PrintWords

theorem encF_len (l : List UInt8) (h : l.length = 10) : (encF l).length = 16 := by
  have h1 := encRun_len l
  have h2 := (encRun_inv l).1
  unfold encF
  rw [h] at h1
  have h3 : (encRun l).n = 0 := by omega
  simp only [h3, Nat.lt_irrefl, if_false]
  omega

def zero60 : Array Value := (List.replicate 60 (Value.int .u8 0)).toArray
theorem make60 (w : World) : (Instr.makeSlice 32 (.int .i64 60) (.int .i64 60)).run Try.prog w = .ok (.slice (some ⟨w.heap.size, 0, none⟩) 60 60) (w.alloc (.cells zero60 5)) := by kernel_rfl

theorem news_new (w : World) (vals : List Value) (T : TypeId) (g : Nat) (hg : g = w.heap.size) : ∀ (j : Nat) (u : Value), vals[j]? = some u → (w.alloc (.cells vals.toArray T)).cell? ((⟨g, 0, none⟩ : Addr).add j) = some u := by
  intro j u hj
  rw [add_plain, hg, Lib.cell_of_heap (heap_push1 w _)]
  simpa using hj
theorem slice_of_row {w : World} {B n size : Nat} {e : TypeId} {v : Value} {xs : List Value} (h : w.ownsRow B e size v (n + 1) xs) : ∃ g cap, v = .slice (some ⟨g, 0, none⟩) (n + 1) cap := by
  rcases h.2 with ⟨_, h0⟩ | ⟨g, cap, cur, hv, _⟩
  · omega
  · exact ⟨g, cap, hv⟩
theorem _root_.Go.World.ownsRow.carry {w w1 : World} {B n size : Nat} {e : TypeId} {v : Value} {xs : List Value} (h : w.ownsRow B e size v n xs) (hb : Below w.heap.size w w1) : w1.ownsRow B e size v n xs := pw_own_below h hb
theorem infoStep : (Try.prog.info? 30).map (fun i => (i.zero, i.size, i.bytes)) = some (some (.agg #[.int .i64 0, .string ⟨#[]⟩, .string ⟨#[]⟩, .int .i64 0, .slice none 0 0, .int .i64 0]), 6, 80) := by kernel_rfl
set_option maxHeartbeats 1000000 in
theorem bound0 (w : World) : Calls Try.prog 5 #[.int .i64 0, .int .i64 0, .int .i64 0] w fun e w' => e = .returned (.int .i64 0) ∧ w' = w := by
  go_enter Try.func5, Try.ntmps5
  go_wp2
  go_ret
  exact ⟨rfl, rfl⟩
def asP : ByteArray := ⟨#[112]⟩
def none_ : ByteArray := ⟨#[]⟩
theorem req1 (draws : ByteArray) (w : World) :
    Calls Try.prog 10 #[.agg #[.int .i64 1, .int .i64 0, .string ⟨#[]⟩, .string ⟨#[]⟩, .string ⟨#[]⟩, .string ⟨#[]⟩, .string ⟨#[112]⟩], .string draws] w fun e' w' =>
      (∃ s, e' = .returned (.agg #[.int .i64 1, .string s, .string draws, .int .i64 0, .slice none 0 0, .int .i64 0])) ∧ Below w.heap.size w w' :=
  (request_some 1 0 (by decide) (by decide) none_ none_ none_ none_ asP draws (by decide) (by decide) (by decide) w (by decide +kernel)).mono fun _ _ ⟨h1, h2⟩ => ⟨⟨_, h1⟩, h2⟩
theorem chk2 (s : ByteArray) (h : s.size = 16) : chkK 2 0 asW asM none_ s none_ = true := by
  have h1 : s.toList.isEmpty = false := by
    rw [ByteArray.toList_eq]
    cases h3 : s.data.toList with
    | nil =>
      have h2 : s.data.toList.length = s.size := by rw [Array.length_toList]; rfl
      rw [h3, h] at h2
      cases h2
    | cons a r => rfl
  have e1 : tx asM true true = true := by decide +kernel
  have e2 : ∀ b, tx none_ false b = b := by decide +kernel
  have e3 : tx s true true = true := by
    unfold tx
    rw [h1, h]; decide
  have e4 : chkK 2 0 asW asM none_ s none_ = (tx none_ false (tx s true (tx none_ false (tx asM true true))) && decide ((0 : Int) ≥ 0) && decide ((0 : Int) ≤ 0) && !asW.toList.isEmpty && decide ((asW.size : Int) ≤ 20)) := rfl
  rw [e4, e1, e2 true, e3, e2]
  decide +kernel
theorem req2 (s draws : ByteArray) (h : s.size = 16) (w : World) :
    Calls Try.prog 10 #[.agg #[.int .i64 2, .int .i64 0, .string ⟨#[]⟩, .string ⟨#[]⟩, .string ⟨#[]⟩, .string s, .string ⟨#[]⟩], .string draws] w fun e' w' =>
      (∃ s', e' = .returned (.agg #[.int .i64 1, .string s', .string draws, .int .i64 0, .slice none 0 0, .int .i64 0])) ∧ Below w.heap.size w w' :=
  (request_some 2 0 (by decide) (by decide) none_ none_ none_ s none_ draws (by decide) (by omega) (by decide) w (chk2 s h)).mono fun _ _ ⟨h1, h2⟩ => ⟨⟨_, h1⟩, h2⟩

set_option maxHeartbeats 4000000 in
set_option maxRecDepth 100000 in
theorem witness0 (w : World) :
    Calls Try.prog 7 #[.int .i64 0, .int .i64 0, .int .i64 0] w fun e w' => ∃ g cap, e = .returned (.tuple #[.slice (some ⟨g, 0, none⟩) 3 cap, .int .i64 3]) ∧
      w'.cell? ⟨g, 0, none⟩ = some (.int .i64 1) ∧ w'.cell? ⟨g, 6, none⟩ = some (.int .i64 2) ∧ w'.cell? ⟨g, 12, none⟩ = some (.int .i64 1) ∧ Below w.heap.size w w' := by
  have hmk := make60
  go_enter Try.func7, Try.ntmps7
  go_wp2_with fail
  have h60 : (w.alloc (.cells zero60 5)).ownsRow w.heap.size 5 1 (.slice (some ⟨w.heap.size, 0, none⟩) 60 60) 60 (nums .u8 (List.replicate 60 0)) := own_lit w w.heap.size 5 .u8 (List.replicate 60 0) (Nat.le_refl _) (by simp)
  have H60 := Lib.hid h60
  clear h60
  go_loopw [9, 37] (fun _ v wr => ∃ (k : Nat) (xs : List Int), k ≤ 60 ∧ v = .int .i64 k ∧ xs.length = 60 ∧ wr.ownsRow w.heap.size 5 1 (.slice (some ⟨w.heap.size, 0, none⟩) 60 60) 60 (nums .u8 xs) ∧ Below w.heap.size w wr)
    (fun _ v _ => 60 - (intOf v).toNat)
  case atStart => exact ⟨0, List.replicate 60 0, by omega, rfl, by simp, H60.out, below_alloc (Below.refl _ w) _⟩
  case round =>
    obtain ⟨k, xs, hk, rfl, hx, hown, hbel⟩ := hrel
    have Hx := Lib.hid hx
    clear hx
    by_cases hlt : k < 60
    · obtain ⟨cv, hcv⟩ : ∃ cv, wr.cell? ⟨w.heap.size, k, none⟩ = some cv := by
        have := hown.cells (g := w.heap.size) rfl k (.int .u8 (xs.getD k 0)) (by simp [nums, Hx.out, hlt])
        rw [add_plain] at this
        exact ⟨_, this⟩
      have hfz : wr.frozen? ⟨w.heap.size, k, none⟩ = false := by
        rcases hown.2 with ⟨h1, _⟩ | ⟨g, cap, cur, hv, _, hg, _⟩
        · cases h1
        · injection hv with h1; injection h1 with h1; injection h1 with h1; subst h1
          exact Lib.frozen_of_heap hg k
      have hst := fun u => own_store hown (k : Int) u
      have Hst := Lib.hid hst
      clear hst
      go_wp2_with fail
      go_roundw
      case rel =>
        refine ⟨k + 1, xs.set k k, by omega, by go_num, by simp [Hx.out], ?_, below_set hbel _ _ (Nat.le_refl _) _⟩
        exact (Hst.out (k : Int)).1
      case measure => simp [intOf]; omega
    · have hstr : ∀ W : World, W = wr → (convert 32 9 (.slice (some ⟨w.heap.size, 0, none⟩) 60 60)).run Try.prog wr = .ok (.string (strOfNums xs)) wr := by
        intro W _
        exact own_string Try.underlying32 Try.underlying5 Try.underlying9 hown
      have hs2 := hstr wr rfl
      clear hstr
      go_wp2_with fail
      refine (req1 _ _).mono ?_
      rintro e w1 ⟨⟨s1, rfl⟩, hb1⟩
      have hbel1 := hbel.trans (hb1.mono hbel.size)
      clear hs2 hb1 hown
      go_wp2_with fail
      refine (bound0 _).mono ?_
      rintro e w' ⟨rfl, rfl⟩
      go_wp2_with fail
      refine wp_loop_rounds 2 ?_
      rw [rounds_succ]
      go_wp2_with fail
      refine (delay_any _ _ (by decide) (by decide)).mono ?_
      rintro e w' ⟨rfl, rfl⟩
      have hd1 : dly 1 = 1 := rfl
      rw [hd1]
      clear hd1
      obtain ⟨i0, hi, hz0, hz1, hz2⟩ := info_parts infoStep
      have hsz1 : w.heap.size ≤ w1.heap.size := hbel1.size
      have hown1 := World.ownsRow_lit (base := w.heap.size) (e := 30) (size := 6) w1 #[Value.int .i64 1, .string s1, .string (strOfNums xs), .int .i64 0, .slice none 0 0, .int .i64 0] 1 hsz1 (by decide) rfl
      go_wp2_with (at_builtin; refine wpList_append_own _ rfl _ _ 25 rfl w.heap.size 30 i0 _ 6 80 Try.underlying25 hi hz0 hz1 hz2 rfl (by decide) _ _ _ rfl (((hown1.alloc _).alloc _).alloc _) ⟨w1.heap.size + 1 + 1 + 1, 0, none⟩ 1 1 [.int .i64 2, .string ⟨#[]⟩, .string ⟨#[]⟩, .int .i64 (min 0 1), .slice (some ⟨w1.heap.size + 1, 0, none⟩) 1 1, .int .i64 0] rfl rfl ?c1 ?c2 ?c3 ?c4 ?c5 ?_)
      case c1 => exact news_new _ [_, _, _, _, _, _] _ _ (by simp)
      case c2 => intro u hu; simp at hu; rcases hu with rfl | rfl | rfl | rfl | rfl <;> rfl
      case c3 => decide
      case c4 => decide
      case c5 => simp; omega
      intro v2 w2 hown2 hgrow2 _
      have hbel2 : Below w.heap.size w w2 := (below_alloc (below_alloc (below_alloc (below_alloc hbel1 _) _) _) _).grown hgrow2 (by simp; omega) (fun k hk => by simp [Value.ownBlock] at hk; omega)
      have Hown2 := Lib.hid hown2
      clear hown1 hown2 hgrow2 hbel1
      go_wp2_with fail
      have hdr0 : (strOfNums xs).size = 60 := by rw [strOfNums_size]; exact Hx.out
      generalize strOfNums xs = dr at *
      have hdr1 : (20 : Int) ≤ (dr.size : Int) := by omega
      have hex : (dr.extract 10 20).size = 10 := by rw [ByteArray.size_extract]; omega
      have Hex := Lib.hid hex
      clear hdr0 hex
      have hsz2 : w.heap.size ≤ w2.heap.size := hbel2.size
      rw [rounds_succ]
      go_wp2_with fail
      refine (token_any _ _ Hex.out).mono ?_
      rintro e w3 ⟨rfl, hb3⟩
      have htk : (⟨(encF (dr.extract 10 20).data.toList).toArray⟩ : ByteArray).size = 16 := by
        show (encF (dr.extract 10 20).data.toList).toArray.size = 16
        rw [List.size_toArray]
        exact encF_len _ (by rw [Array.length_toList]; exact Hex.out)
      generalize (⟨(encF (dr.extract 10 20).data.toList).toArray⟩ : ByteArray) = tk at *
      have Htk := Lib.hid htk
      clear htk
      have hbel3 := hbel2.trans (hb3.mono hsz2)
      have hown3 := Hown2.out.carry hb3
      have Hown3 := Lib.hid hown3
      clear hown3 hb3 Hown2
      have hsz3 : w.heap.size ≤ w3.heap.size := hbel3.size
      go_wp2_with fail
      refine (req2 _ _ Htk.out _).mono ?_
      rintro e w4 ⟨⟨s2, rfl⟩, hb4⟩
      have hbel4 := hbel3.trans (hb4.mono hsz3)
      have hown4 := Hown3.out.carry hb4
      clear hb4 Hown3
      have hsz4 : w.heap.size ≤ w4.heap.size := hbel4.size
      go_wp2_with (at_builtin; refine wpList_append_own _ rfl _ _ 25 rfl w.heap.size 30 i0 _ 6 80 Try.underlying25 hi hz0 hz1 hz2 rfl (by decide) _ _ _ rfl (hown4.alloc _) ⟨w4.heap.size, 0, none⟩ 1 1 [.int .i64 1, .string s2, .string dr, .int .i64 0, .slice none 0 0, .int .i64 0] rfl rfl ?c1 ?c2 ?c3 ?c4 ?c5 ?_)
      case c1 => exact news_new _ [_, _, _, _, _, _] _ _ rfl
      case c2 => intro u hu; simp at hu; rcases hu with rfl | rfl | rfl | rfl | rfl | rfl <;> rfl
      case c3 => decide
      case c4 => decide
      case c5 => simp; omega
      intro v5 w5 hown5 hgrow5 _
      have hbel5 : Below w.heap.size w w5 := (below_alloc hbel4 _).grown hgrow5 (by simp; omega) (fun k hk => (hown4.lt k hk).1)
      obtain ⟨g5, cap5, rfl⟩ := slice_of_row hown5
      have k0 := hown5.cells (g := g5) rfl 0 (.int .i64 1) rfl
      have k6 := hown5.cells (g := g5) rfl 6 (.int .i64 2) rfl
      have k12 := hown5.cells (g := g5) rfl 12 (.int .i64 1) rfl
      rw [add_plain] at k0 k6 k12
      have K0 := Lib.hid k0
      have K6 := Lib.hid k6
      have K12 := Lib.hid k12
      clear k0 k6 k12 hown5 hown4 hgrow5
      go_wp2_with fail
      go_ret2
      exact ⟨g5, cap5, rfl, K0.out, K6.out, K12.out, hbel5⟩

set_option maxHeartbeats 2000000 in
set_option maxRecDepth 100000 in
theorem awake_any (w : World) : Calls Try.prog 4 #[] w fun e w' => e = .returned (.bool true) ∧ Below w.heap.size w w' := by
  go_enter Try.func4, Try.ntmps4
  go_wp2_with fail
  refine (witness0 w).mono ?_
  rintro e w1 ⟨g, cap, rfl, c0, c6, c12, hb⟩
  go_wp2
  go_ret
  exact ⟨rfl, hb⟩
end Go.Proofs.Ytnapeogbpjaigaa
