/- token.Code of any draw, law 10's draw, and mint.Plain of a draw, of any kind. -/
import Derived.Test.YtocooobelmngdaaDoorCode
import Derived.Test.YtocooobelmngdaaDoorClock
import Derived.Test.YtocooobelmngdaaDoorInj
import Derived.Lib.BufferWrite
import Derived.Laws.CopyOwn
import Derived.Laws.Tables
namespace Go.Proofs.YtocooobelmngdaaDoor
open Go.RowKit

/-- A draw as six digits. -/
def codeOf (d : Nat) : ByteArray := ⟨(Lib.repeatL [48] (6 - (fmtOf (d % 1000000)).size)).toArray⟩ ++ fmtOf (d % 1000000)
theorem fmtOf_le (u : Nat) (h : u < 1000000) : (fmtOf u).size ≤ 6 := by rw [fmtOf_size]; exact nDigits_six u h
theorem codeOf_size (d : Nat) : (codeOf d).size = 6 := by
  have h := fmtOf_le (d % 1000000) (Nat.mod_lt _ (by decide))
  unfold codeOf
  rw [ByteArray.size_append]
  have e : (⟨(Lib.repeatL [48] (6 - (fmtOf (d % 1000000)).size)).toArray⟩ : ByteArray).size = 6 - (fmtOf (d % 1000000)).size := by
    show (Lib.repeatL [48] _).toArray.size = _
    rw [List.size_toArray, Lib.repeatL_length]
    simp
  rw [e]
  omega
theorem fmt_any (u : Nat) (h : u < 1000000) (w : World) (htab : Lib.TabIs Tryd.prog w "internal/strconv.uint64pow10" .u64 Lib.pow10Tab) :
    Calls Tryd.prog 49 #[.int .u64 u, .int .i64 10] w fun e w' => e = .returned (.string (fmtOf u)) ∧ Below w.heap.size w w' := by
  by_cases h1 : u < 100
  · exact fmt_small u h1 w
  · exact fmt_big u (by omega) h w htab
set_option maxRecDepth 100000 in
theorem format_any (u : Nat) (h : u < 1000000) (w : World) (htab : Lib.TabIs Tryd.prog w "internal/strconv.uint64pow10" .u64 Lib.pow10Tab) :
    Calls Tryd.prog 36 #[.int .u64 u, .int .i64 10] w fun e w' => e = .returned (.string (fmtOf u)) ∧ Below w.heap.size w w' := by
  have HF := Lib.hid (fmt_any u h w htab)
  clear htab
  go_enter Tryd.func36, Tryd.ntmps36
  go_wp2_with fail
  refine HF.out.mono ?_
  rintro e w' ⟨rfl, hb⟩
  go_wp2
  go_ret
  exact ⟨rfl, hb⟩
set_option maxRecDepth 100000 in
theorem code_any (d : Nat) (hd : d < 18446744073709551616) (w : World) (htab : Lib.TabIs Tryd.prog w "internal/strconv.uint64pow10" .u64 Lib.pow10Tab) :
    Calls Tryd.prog 20 #[.int .u64 d] w fun e w' => e = .returned (.string (codeOf d)) ∧ Below w.heap.size w w' := by
  have hlt : d % 1000000 < 1000000 := Nat.mod_lt _ (by decide)
  have HF := Lib.hid (format_any (d % 1000000) hlt w htab)
  have hc : codeOf d = ⟨(Lib.repeatL [48] (6 - (fmtOf (d % 1000000)).size)).toArray⟩ ++ fmtOf (d % 1000000) := rfl
  have hle := fmtOf_le _ hlt
  have hm : ((d % 1000000 : Nat) : Int) = (d : Int) % 1000000 := by omega
  rw [hm] at HF
  generalize fmtOf (d % 1000000) = S at *
  have HR := Lib.hid (fun W => Tryd.strings_Repeat ⟨#[48]⟩ (6 - S.size) W (by omega) (by show 1 * (6 - S.size) ≤ _; omega))
  have hsub : ((6 - S.size : Nat) : Int) = 6 - (S.size : Int) := by omega
  have Hsub := Lib.hid hsub
  rw [hsub] at HR
  have Hc := Lib.hid hc
  have hw6 : IntKind.i64.wrap (6 - (S.size : Int)) = 6 - (S.size : Int) := IntWalk.i64_in _ (by omega)
  clear htab hc hm hsub
  go_enter Tryd.func20, Tryd.ntmps20
  go_wp2_with fail
  refine HF.out.mono ?_
  rintro e w1 ⟨rfl, hb1⟩
  go_wp2_with fail
  refine (HR.out _).mono ?_
  rintro e w2 ⟨rfl, hb2⟩
  have hrl : (Lib.repeatL [48] (6 - S.size)).length = 6 - S.size := by rw [Lib.repeatL_length]; simp
  go_wp2
  go_ret
  refine ⟨?_, hb1.trans (hb2.mono hb1.size)⟩
  rw [Hc.out]
  rfl

/-- Ten bytes of a text, with 0 where it is too short. -/
def drawL (s : ByteArray) : List UInt8 := s.data.toList.take (min s.size 10) ++ List.replicate (10 - min s.size 10) 0
def drawF (s : ByteArray) : ByteArray := ⟨(drawL s).toArray⟩
theorem drawL_length (s : ByteArray) : (drawL s).length = 10 := by
  unfold drawL
  rw [List.length_append, List.length_take, List.length_replicate]
  have : s.data.toList.length = s.size := by rw [Array.length_toList]; rfl
  omega
theorem drawF_size (s : ByteArray) : (drawF s).size = 10 := by
  show (drawL s).toArray.size = 10
  rw [List.size_toArray, drawL_length]
theorem drawF_list (s : ByteArray) : (drawF s).data.toList = drawL s := rfl
theorem copy10 (s : ByteArray) (w : World) :
    (Builtin.copy_ #[47, 9] 3 #[.slice (some ⟨w.heap.size, 0, none⟩) 10 10, .string s]).run Tryd.prog (w.alloc (.cells zero10 5)) =
      .ok (goInt ((min s.size 10 : Nat) : Int)) ((w.alloc (.cells zero10 5)).setRow w.heap.size (Lib.byteCells (drawL s)).toArray) := by
  have hg := heap_push1 w (.cells zero10 5)
  have hl : (Lib.byteCells (s.data.toList.take (min s.size 10))).length = min s.size 10 := by
    rw [Lib.byteCells_length, List.length_take, Array.length_toList]
    show min (min s.size 10) s.size = _
    omega
  have hst := run_storeCells_at Tryd.prog w.heap.size 0 5 (Lib.byteCells (s.data.toList.take (min s.size 10))) 0 zero10 (w.alloc (.cells zero10 5)) hg (by rw [hl]; show 0 + 0 + min s.size 10 ≤ 10; omega) (Lib.byteCells_one _)
  have htk : List.take (min s.size 10) (List.map (fun b : UInt8 => Value.int IntKind.u8 (b.toNat : Int)) s.data.toList) = Lib.byteCells (s.data.toList.take (min s.size 10)) := by
    rw [← List.map_take]; rfl
  have hrow : (zero10.toList.take 0 ++ Lib.byteCells (s.data.toList.take (min s.size 10)) ++ zero10.toList.drop (0 + min s.size 10)) = Lib.byteCells (drawL s) := by
    have : zero10.toList.drop (0 + min s.size 10) = Lib.byteCells (List.replicate (10 - min s.size 10) 0) := by
      show (List.replicate 10 (Value.int .u8 0)).drop (0 + min s.size 10) = (List.replicate _ (0 : UInt8)).map _
      rw [List.drop_replicate, List.map_replicate, Nat.zero_add]
      rfl
    rw [this]
    unfold drawL
    rw [Lib.byteCells_append]
    rfl
  rw [hl] at hst
  simp only [Nat.add_zero] at hst
  rw [hrow] at hst
  have hi : ∃ i, Tryd.prog.info? 5 = some i ∧ i.size = 1 := by
    have h : (Tryd.prog.info? 5).map (·.size) = some 1 := by kernel_rfl
    cases hq : Tryd.prog.info? 5 with
    | none => rw [hq] at h; cases h
    | some i => rw [hq] at h; exact ⟨i, rfl, by simpa using h⟩
  obtain ⟨i, hq, _⟩ := hi
  have hmin : Nat.min s.size 10 = min s.size 10 := rfl
  simp [Builtin.copy_, run_underlying Tryd.underlying47, Builtin.lenOf, Builtin.firstCells, sizeOf, typeInfo, hq, hmin]
  rw [htk, hst]
  simp [Result.andThen]
theorem drawStr (s : ByteArray) (w : World) : (convert 47 9 (.slice (some ⟨w.heap.size, 0, none⟩) 10 10)).run Tryd.prog ((w.alloc (.cells zero10 5)).setRow w.heap.size (Lib.byteCells (drawL s)).toArray) = .ok (.string (drawF s)) ((w.alloc (.cells zero10 5)).setRow w.heap.size (Lib.byteCells (drawL s)).toArray) := by
  have hg := heap_push1 w (.cells zero10 5)
  have h := run_convert_bytes_back (P := Tryd.prog) ((w.alloc (.cells zero10 5)).setRow w.heap.size (Lib.byteCells (drawL s)).toArray) 47 9 5 ⟨w.heap.size, 0, none⟩ 10 (drawL s) Tryd.underlying47 Tryd.underlying5 Tryd.underlying9 (fun j hj => by
    rw [Lib.add_plain, cell_setRow_same _ _ _ _ _ _ _ hg]
    simp [Lib.byteCells, hj])
  rw [drawL_length] at h
  exact h
set_option maxRecDepth 100000 in
theorem draw_any (s : ByteArray) (w : World) : Calls Tryd.prog 9 #[.string s] w fun e w' => e = .returned (.string (drawF s)) ∧ Below w.heap.size w w' := by
  have hmk := make10
  have hcp := copy10 s w
  have hst := drawStr s w
  have hb : Below w.heap.size w ((w.alloc (.cells zero10 5)).setRow w.heap.size (Lib.byteCells (drawL s)).toArray) := below_setRow (below_alloc (Below.refl _ w) _) (Nat.le_refl _) _
  go_enter Tryd.func9, Tryd.ntmps9
  go_wp2_with fail
  go_ret
  exact ⟨rfl, hb⟩
/-- mint.Plain of a draw. -/
def plainF (p : Nat) (s : ByteArray) : ByteArray := if p = 4 then codeOf (be8 (s.data.toList.take 8)) else ⟨(encF s.data.toList).toArray⟩
theorem plain_any (p : Nat) (hp : 1 ≤ p ∧ p < 7) (s : ByteArray) (hs : s.size = 10) (w : World) (htab : Lib.TabIs Tryd.prog w "internal/strconv.uint64pow10" .u64 Lib.pow10Tab) :
    Calls Tryd.prog 8 #[.int .i64 p, .string s] w fun e w' => e = .returned (.tuple #[.string (plainF p s), .bool true]) ∧ Below w.heap.size w w' := by
  by_cases h4 : p = 4
  · subst h4
    refine plain_code s hs _ w ?_
    intro W hb
    refine code_any _ ?_ W (tabIs_below htab hb)
    refine Nat.lt_of_lt_of_le (be8_lt _) (Nat.le_trans (Nat.pow_le_pow_right (by decide) (show _ ≤ 8 from ?_)) (by decide))
    rw [List.length_take]; omega
  · have h := plain_token p hp h4 s hs w
    unfold plainF
    rw [if_neg h4]
    exact h
end Go.Proofs.YtocooobelmngdaaDoor
