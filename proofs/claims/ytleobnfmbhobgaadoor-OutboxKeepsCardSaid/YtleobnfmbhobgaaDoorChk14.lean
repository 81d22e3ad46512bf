/- outbox.Check, for any row of messages to addresses of at most 4,000,000,000 bytes. -/
import Derived.Test.YtleobnfmbhobgaaDoorInv14
namespace Go.Proofs.YtleobnfmbhobgaaDoor
open Go.RowKit Go.Maps

def chkF : Nat → List Msg → Bool
  | _, [] => true
  | last, m :: ms => rightB m && decide (last < m.id) && chkF m.id ms
def checkB (ms : List Msg) : Bool := chkF 0 ms && decide (ms.length ≤ 40)
def lastOf (ms : List Msg) (k : Nat) : Nat := if k = 0 then 0 else (ms[k - 1]?.getD noMsg).id
theorem chkF_drop {ms : List Msg} {k last : Nat} (hk : k < ms.length) : chkF last (ms.drop k) = (rightB (ms[k]?.getD noMsg) && decide (last < (ms[k]?.getD noMsg).id) && chkF (ms[k]?.getD noMsg).id (ms.drop (k + 1))) := by
  rw [List.drop_eq_getElem_cons hk, List.getElem?_eq_getElem hk]
  rfl

set_option maxRecDepth 100000 in
set_option maxHeartbeats 4000000 in
theorem check_any {Bs c : Nat} {a : Option Addr} {ms : List Msg} {w : World} (hown : mowns w Bs (.slice a ms.length c) ms) (lim : ms.length ≤ 1000000) (hs : ∀ m ∈ ms, m.dest.size ≤ 4000000000) (hm : ML w) :
    Calls Tryd.prog 19 #[.slice a ms.length c] w fun e w' => e = .returned (.bool (checkB ms)) ∧ Below w.heap.size w w' := by
  have OW := Lib.hid hown
  have HM := Lib.hid hm
  obtain ⟨n, hn⟩ : ∃ n, ms.length = n := ⟨_, rfl⟩
  have HN := Lib.hid hn
  have CK : Hid (checkB ms = (chkF 0 ms && decide (n ≤ 40))) := Lib.hid (by rw [← hn]; rfl)
  rw [hn] at lim ⊢
  have HS := Lib.hid hs
  clear hown hm hn hs
  go_enter Tryd.func19, Tryd.ntmps19
  go_wp2_with fail
  go_loopw [3, 8] (fun l i wr => ∃ k : Nat, k ≤ n ∧ i = .int .i64 k ∧ l = .int .u64 (lastOf ms k) ∧ chkF 0 ms = chkF (lastOf ms k) (ms.drop k) ∧ Below w.heap.size w wr) (fun _ i _ => n - (intOf i).toNat)
  case atStart => exact ⟨0, Nat.zero_le _, rfl, rfl, rfl, Below.refl _ _⟩
  case round =>
    obtain ⟨k, hk, rfl, rfl, hck, hb⟩ := hrel
    have HC := Lib.hid hck
    have WB := Lib.hid hb
    by_cases hkn : k < n
    · have hkn' : (k : Int) < n := by omega
      have hkl : k < ms.length := by rw [HN.out]; exact hkn
      obtain ⟨g, rfl, _, _, m0, m1, m2, m3, m4, m5⟩ := (OW.out.below hb).six k hkl
      have HD := Lib.hid (chkF_drop (last := lastOf ms k) hkl)
      have hxs : (ms[k]?.getD noMsg).dest.size ≤ 4000000000 := by
        rw [List.getElem?_eq_getElem hkl]
        exact HS.out _ (List.getElem_mem hkl)
      have hlo : lastOf ms (k + 1) = (ms[k]?.getD noMsg).id := rfl
      have HL := Lib.hid hlo
      obtain ⟨x, hx⟩ : ∃ x, ms[k]?.getD noMsg = x := ⟨_, rfl⟩
      rw [hx] at m0 m1 m2 m3 m4 m5 HD hxs HL
      obtain ⟨la, hla⟩ : ∃ la, lastOf ms k = la := ⟨_, rfl⟩
      rw [hla] at HC HD ⊢
      have RG := right_any x hxs (wr.alloc x.obj) ((HM.out.below hb).below ((Below.refl _ _).alloc (Nat.le_refl _) _))
      obtain ⟨c0, c1, c2, c3, c4, c5⟩ := msg_box wr x
      have hl1 : wr.heap.size < (wr.alloc x.obj).heap.size := by simp
      have BB : Hid (∀ w2, Below (wr.alloc x.obj).heap.size (wr.alloc x.obj) w2 → Below w.heap.size w w2) := Lib.hid (fun w2 b2 => by
        have b := ((Below.refl wr.heap.size wr).alloc (Nat.le_refl _) x.obj).trans (b2.mono (Nat.le_of_lt hl1))
        exact WB.out.trans (b.mono WB.out.size))
      unfold Msg.obj at *
      unfold Msg.agg at RG
      obtain ⟨r, hr⟩ : ∃ r, rightB x = r := ⟨_, rfl⟩
      rw [hr] at RG HD
      have RG := Lib.hid RG
      clear hck hb hx hla hr hlo hxs
      cases r
      · have FF : Hid (checkB ms = false) := Lib.hid (by rw [CK.out, HC.out, HD.out]; rfl)
        go_wp2_with (go_at_call 26; (with_reducible refine (RG.out).mono ?_); rintro e w2 ⟨rfl, b2⟩; have B2 := Lib.hid (BB.out _ b2); clear b2)
        go_ret
        exact ⟨ret_bool FF.out.symm, B2.out⟩
      · by_cases hid : la < x.id
        · have hid' : ¬ (x.id : Int) ≤ la := by omega
          have hidd : decide ((x.id : Int) ≤ la) = false := by simpa using hid'
          have FT : Hid (chkF 0 ms = chkF x.id (ms.drop (k + 1))) := Lib.hid (by rw [HC.out, HD.out]; simp [hid])
          go_wp2_with (go_at_call 26; (with_reducible refine (RG.out).mono ?_); rintro e w2 ⟨rfl, b2⟩; have p0 := (b2.cell (p := ⟨wr.heap.size, 0, none⟩) hl1).trans c0; have B2 := Lib.hid (BB.out _ b2); clear b2)
          go_roundw
          case rel => exact ⟨k + 1, by omega, by go_num, by rw [HL.out], by rw [HL.out]; exact FT.out, B2.out⟩
          case measure => simp [intOf]; omega
        · have hid' : (x.id : Int) ≤ la := by omega
          have FF : Hid (checkB ms = false) := Lib.hid (by rw [CK.out, HC.out, HD.out]; simp [hid])
          go_wp2_with (go_at_call 26; (with_reducible refine (RG.out).mono ?_); rintro e w2 ⟨rfl, b2⟩; have p0 := (b2.cell (p := ⟨wr.heap.size, 0, none⟩) hl1).trans c0; have B2 := Lib.hid (BB.out _ b2); clear b2)
          go_ret
          exact ⟨ret_bool FF.out.symm, B2.out⟩
    · have hkn' : ¬ (k : Int) < n := by omega
      obtain rfl : k = n := by omega
      have hdr : ms.drop k = [] := List.drop_eq_nil_of_le (by rw [HN.out]; omega)
      have FF : Hid (checkB ms = decide ((k : Int) ≤ 40)) := Lib.hid (by
        rw [CK.out, HC.out, hdr]
        simp only [chkF, Bool.true_and]
        rw [Bool.eq_iff_iff]; simp; omega)
      clear hck hb hdr
      go_wp2_with fail
      go_ret
      exact ⟨ret_bool FF.out.symm, WB.out⟩

theorem kind_size {s : ByteArray} (h : kindOf s ≠ 0) : s.size ≤ 40 := by
  unfold kindOf at h
  split at h
  · rename_i hm
    unfold mailB at hm
    simp only [Bool.and_eq_true, decide_eq_true_eq] at hm
    exact hm.1.1.2
  · split at h
    · rename_i hp
      unfold phoneB at hp
      simp only [Bool.and_eq_true, decide_eq_true_eq] at hp
      have := hp.1.1.1.2
      omega
    · exact absurd rfl h
theorem inv_check {last : Nat} {L : List Msg} (h : INV last L) : checkB L = true ∧ ∀ m ∈ L, m.dest.size ≤ 4000000000 := by
  refine ⟨?_, fun m hm => by have := kind_size (right_parts (h.2.1 m hm).1).2.2.1; omega⟩
  have key : ∀ (L : List Msg) (l : Nat), L.Pairwise (fun a b => a.id < b.id) → (∀ m ∈ L, rightB m = true ∧ l < m.id) → chkF l L = true := by
    intro L
    induction L with
    | nil => intro l _ _; rfl
    | cons m L ih =>
      intro l hp hm
      obtain ⟨h1, h2⟩ := List.pairwise_cons.1 hp
      have h3 := hm m (by simp)
      simp only [chkF, h3.1, h3.2, decide_true, Bool.true_and]
      exact ih m.id h2 (fun x hx => ⟨(hm x (by simp [hx])).1, h1 x hx⟩)
  unfold checkB
  rw [key L 0 h.1 (fun m hm => ⟨(h.2.1 m hm).1, (right_parts (h.2.1 m hm).1).1⟩)]
  simpa using h.2.2
end Go.Proofs.YtleobnfmbhobgaaDoor
