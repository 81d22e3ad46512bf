/- token.Code of 0, and the chapter's example of law 10. -/
import Derived.Test.YtocooobelmngdaaDoorPlain
import Derived.Test.YtocooobelmngdaaDoorShelf
namespace Go.Proofs.YtocooobelmngdaaDoor
open Go.RowKit

theorem small0 (w : World) : Calls Tryd.prog 63 #[.int .i64 0] w fun e w' => e = .returned (.string ⟨#[48]⟩) ∧ w' = w := by
  have h := Tryd.internal_strconv_small 0 (by decide) w
  have e : (⟨(Lib.decDigits 0).toArray⟩ : ByteArray) = ⟨#[48]⟩ := by decide +kernel
  rw [e] at h
  exact h
set_option maxRecDepth 100000 in
theorem fmt0 (w : World) : Calls Tryd.prog 49 #[.int .u64 0, .int .i64 10] w fun e w' => e = .returned (.string ⟨#[48]⟩) ∧ w' = w := by
  go_enter Tryd.func49, Tryd.ntmps49
  go_wp2_with fail
  refine (small0 w).mono ?_
  rintro e w' ⟨rfl, rfl⟩
  go_wp2
  go_ret
  exact ⟨rfl, rfl⟩
set_option maxRecDepth 100000 in
theorem format0 (w : World) : Calls Tryd.prog 36 #[.int .u64 0, .int .i64 10] w fun e w' => e = .returned (.string ⟨#[48]⟩) ∧ w' = w := by
  go_enter Tryd.func36, Tryd.ntmps36
  go_wp2_with fail
  refine (fmt0 w).mono ?_
  rintro e w' ⟨rfl, rfl⟩
  go_wp2
  go_ret
  exact ⟨rfl, rfl⟩
theorem rep5 (w : World) : Calls Tryd.prog 37 #[.string ⟨#[48]⟩, .int .i64 5] w fun e w' => e = .returned (.string ⟨#[48, 48, 48, 48, 48]⟩) ∧ Below w.heap.size w w' := by
  have h := Tryd.strings_Repeat ⟨#[48]⟩ 5 w (by decide) (by decide)
  exact h
def six0 : ByteArray := ⟨#[48, 48, 48, 48, 48, 48]⟩
set_option maxRecDepth 100000 in
theorem code0 (w : World) : Calls Tryd.prog 20 #[.int .u64 0] w fun e w' => e = .returned (.string six0) ∧ Below w.heap.size w w' := by
  go_enter Tryd.func20, Tryd.ntmps20
  go_wp2_with fail
  refine (format0 w).mono ?_
  rintro e w' ⟨rfl, rfl⟩
  go_wp2_with fail
  refine (rep5 w').mono ?_
  rintro e w2 ⟨rfl, hb⟩
  go_wp2
  go_ret
  exact ⟨rfl, hb⟩
end Go.Proofs.YtocooobelmngdaaDoor
