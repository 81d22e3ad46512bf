/- strconv.FormatUint of a number below a million, and token.Code of any draw. -/
import Derived.Test.YtocooobelmngdaaDoorCode0
import Derived.Test.YtocooobelmngdaaDoorShelf2
import Derived.Lib.ItoaMem
import Derived.Lib.ItoaLen
import Derived.Lib.AppendIntMem
namespace Go.Proofs.YtocooobelmngdaaDoor
open Go.Shelf Go.RowKit Go.Sort Go.Lib

theorem tabIs_below {P : Program} {w w' : World} {name : String} {k : IntKind} {zs : List Int} (h : TabIs P w name k zs) (hb : Below w.heap.size w w') : TabIs P w' name k zs := by
  unfold TabIs World.var? at *
  cases hg : P.globalNamed name with
  | none => simp [hg] at h
  | some g =>
    simp only [hg, Option.bind_some] at h ⊢
    have hlt : g < w.heap.size := by
      rcases Nat.lt_or_ge g w.heap.size with h' | h'
      · exact h'
      · rw [Array.getElem?_eq_none h'] at h; simp at h
    rw [hb.block g hlt]
    exact h

theorem holds_zero0 (w : World) (T : TypeId) (nd : Nat) (hs : nd ≤ 24) : Holds (fun (b : UInt8) => Value.int .u8 (b.toNat : Int)) (w.alloc (.cells zeros24 T)) w.heap.size 0 (Array.replicate nd (0 : UInt8)) := fun j hj => by
  have hj' : j < nd := by simpa using hj
  refine ⟨?_, World.frozen?_alloc_new _ _ _ _⟩
  rw [World.cell?_alloc_new, zeros24_at _ (by omega), getElem!_pos _ j hj]
  simp

theorem fin_zero (w : World) (o : Obj) (dk : Array UInt8) (k : Nat) : ∃ os, (putRow (fun (b : UInt8) => Value.int .u8 (b.toNat : Int)) (w.alloc o) w.heap.size 0 dk).drewN k = grow (w.drewN k) os := by
  rw [alloc_eq_grow]
  obtain ⟨os', _, e⟩ := putRow_grow_new (fun (b : UInt8) => Value.int .u8 (b.toNat : Int)) w #[o] w.heap.size 0 dk (Nat.le_refl _)
  exact ⟨os', by rw [e]; rfl⟩

/-- The numeral as a text. -/
def fmtOf (u : Nat) : ByteArray := ⟨(decDigits u).toArray⟩
theorem fmtOf_size (u : Nat) : (fmtOf u).size = nDigits u := by
  unfold fmtOf
  rw [← decDigits_length]
  simp [ByteArray.size]
theorem nDigits_six (u : Nat) (h : u < 1000000) : nDigits u ≤ 6 := by
  by_cases h1 : u < 10
  · rw [nDigits_small h1]; omega
  · by_cases h2 : u < 100
    · rw [nDigits_unique 1 u (by omega) (by omega)]; omega
    · by_cases h3 : u < 1000
      · rw [nDigits_unique 2 u (by omega) (by omega)]; omega
      · by_cases h4 : u < 10000
        · rw [nDigits_unique 3 u (by omega) (by omega)]; omega
        · by_cases h5 : u < 100000
          · rw [nDigits_unique 4 u (by omega) (by omega)]; omega
          · rw [nDigits_unique 5 u (by omega) (by omega)]; omega

set_option maxHeartbeats 2000000 in
set_option maxRecDepth 100000 in
theorem fmt_small (u : Nat) (h : u < 100) (w : World) : Calls Tryd.prog 49 #[.int .u64 u, .int .i64 10] w fun e w' => e = .returned (.string (fmtOf u)) ∧ Below w.heap.size w w' := by
  have hw : IntKind.i64.wrap (u : Int) = (u : Int) := IntWalk.i64_in _ (by omega)
  have HS := Lib.hid (Tryd.internal_strconv_small u h)
  go_enter Tryd.func49, Tryd.ntmps49
  go_wp2_with fail
  refine (HS.out w).mono ?_
  rintro e w' ⟨rfl, rfl⟩
  go_wp2
  go_ret
  exact ⟨rfl, Below.refl _ _⟩

set_option maxHeartbeats 4000000 in
set_option maxRecDepth 100000 in
theorem fmt_big (u : Nat) (h1 : 100 ≤ u) (h2 : u < 1000000) (w : World) (htab : TabIs Tryd.prog w "internal/strconv.uint64pow10" .u64 pow10Tab) :
    Calls Tryd.prog 49 #[.int .u64 u, .int .i64 10] w fun e w' => e = .returned (.string (fmtOf u)) ∧ Below w.heap.size w w' := by
  have hu64 : u < 18446744073709551616 := by omega
  have hnd : nDigits u ≤ 6 := nDigits_six u h2
  have hal : Tryd.prog.arrayLen 109 = 24 := by simp [Program.arrayLen, Tryd.underlying109]
  have hsl : ∀ W, (Instr.sliceAt 109 (.pointer (some ⟨w.heap.size, 0, none⟩)) none (some (.int .i64 (nDigits u : Int))) none).run Tryd.prog W = .ok (.slice (some ⟨w.heap.size, 0, none⟩) (nDigits u) 24) W := fun W => by
    rw [run_sliceAt_array_h W 109 ⟨w.heap.size, 0, none⟩ (by simp [Program.arrayLen, Program.elem, Tryd.underlying109]) .i64 (nDigits u : Int) (by omega) (by rw [hal]; omega)]
    go_simp
    try omega
  have hH0 := holds_zero0 w 109 (nDigits u) (by omega)
  have hfmt := Tryd.internal_strconv_formatBase10 w.heap.size 0 24 u (Array.replicate (nDigits u) 0) (w.alloc (.cells zeros24 109)) hH0 (by rw [Array.size_replicate]; exact lt_pow_nDigits u) hu64 (by rw [Array.size_replicate]; omega)
  rw [Array.size_replicate] at hfmt
  have HH0 := Lib.hid hH0
  have HF := Lib.hid hfmt
  have HN := Lib.hid (Tryd.internal_strconv_numDigits u (by omega) hu64 _ (tabIs_alloc htab (.cells zeros24 109)))
  clear hH0 hal hfmt
  go_enter Tryd.func49, Tryd.ntmps49
  go_wp2_with fail
  refine HN.out.mono ?_
  rintro e w' ⟨rfl, rfl⟩
  go_wp2_with fail
  refine HF.out.mono ?_
  rintro e w' ⟨rfl, k, v', dk, rfl, hF⟩
  have hcv : (convert 47 9 (.slice (some ⟨w.heap.size, 0, none⟩) (nDigits u) 24)).run Tryd.prog ((putRow (fun (b : UInt8) => Value.int .u8 (b.toNat : Int)) (w.alloc (.cells zeros24 109)) w.heap.size 0 dk).drewN k) = .ok (.string (fmtOf u)) ((putRow (fun (b : UInt8) => Value.int .u8 (b.toNat : Int)) (w.alloc (.cells zeros24 109)) w.heap.size 0 dk).drewN k) := by
    have h := run_convert_bytes_back (P := Tryd.prog) ((putRow (fun (b : UInt8) => Value.int .u8 (b.toNat : Int)) (w.alloc (.cells zeros24 109)) w.heap.size 0 dk).drewN k) 47 9 5 ⟨w.heap.size, 0, none⟩ 24 (decDigits u) Tryd.underlying47 Tryd.underlying5 Tryd.underlying9 (fun j hj => by
      rw [row_is_numeral hF j hj, add_plain, World.cell?_drewN]
      exact cell?_putRow (fun (b : UInt8) => Value.int .u8 (b.toNat : Int)) _ w.heap.size 0 _ dk HH0.out (by rw [hF.size, Array.size_replicate]) j (by rw [hF.size]; rw [decDigits_length] at hj; exact hj))
    rw [decDigits_length] at h
    exact h
  have hb : Below w.heap.size w ((putRow (fun (b : UInt8) => Value.int .u8 (b.toNat : Int)) (w.alloc (.cells zeros24 109)) w.heap.size 0 dk).drewN k) := by
    obtain ⟨os, eo⟩ := fin_zero w (.cells zeros24 109) dk k
    rw [eo]
    exact below_grow _ w (Nat.le_refl _) k os
  generalize (putRow (fun (b : UInt8) => Value.int .u8 (b.toNat : Int)) (w.alloc (.cells zeros24 109)) w.heap.size 0 dk).drewN k = w2 at *
  go_wp2
  go_ret
  exact ⟨rfl, hb⟩
end Go.Proofs.YtocooobelmngdaaDoor
