/- strings.CutPrefix, for any two texts. -/
import Derived.Test.YtdoghnpmbpomcaaSmall
namespace Go.Proofs.Ytdoghnpmbpomcaa
open Go.RowKit

/-- Does a text begin so? -/
def begins (s p : ByteArray) : Bool := decide (p.size ≤ s.size) && decide (s.extract 0 p.size = p)
theorem toList_inj {a b : ByteArray} (h : ¬ a = b) : (a.toList == b.toList) = false := by
  rw [Bool.eq_false_iff]
  intro e
  rw [beq_iff_eq, ByteArray.toList_eq, ByteArray.toList_eq] at e
  exact h (ByteArray.ext (Array.toList_inj.1 e))

set_option maxRecDepth 100000 in
theorem hasPrefix_any (s p : ByteArray) (w : World) : Calls Try.prog 38 #[.string s, .string p] w fun e w' => e = .returned (.bool (begins s p)) ∧ w' = w := by
  by_cases h : p.size ≤ s.size
  · have h' : (p.size : Int) ≤ s.size := by omega
    by_cases e : s.extract 0 p.size = p
    · have eb : begins s p = true := by simp [begins, h, e]
      rw [eb]
      clear eb
      have e2 : (s.extract 0 p.size).toList = p.toList := by rw [e]
      go_enter Try.func38, Try.ntmps38
      go_wp2_with fail
      go_ret
      exact ⟨rfl, rfl⟩
    · have eb : begins s p = false := by simp [begins, h, e]
      rw [eb]
      clear eb
      have e2 : ((s.extract 0 p.size).toList == p.toList) = false := toList_inj e
      go_enter Try.func38, Try.ntmps38
      go_wp2_with fail
      go_ret
      exact ⟨rfl, rfl⟩
  · have h' : ¬ ((p.size : Int) ≤ s.size) := by omega
    have eb : begins s p = false := by simp [begins, h]
    rw [eb]
    clear eb
    go_enter Try.func38, Try.ntmps38
    go_wp2_with fail
    go_ret
    exact ⟨rfl, rfl⟩
/-- What is left of a text that begins so; else the text. -/
def rest (s p : ByteArray) : ByteArray := if begins s p then s.extract p.size s.size else s

set_option maxRecDepth 100000 in
theorem cutPrefix1_any (s p : ByteArray) (w : World) : Calls Try.prog 35 #[.string s, .string p] w fun e w' => e = .returned (.tuple #[.string (rest s p), .bool (begins s p)]) ∧ w' = w := by
  have H := Lib.hid (hasPrefix_any s p w)
  cases hb : begins s p
  · have er : rest s p = s := by simp [rest, hb]
    rw [er]
    rw [hb] at H
    clear er hb
    go_enter Try.func35, Try.ntmps35
    go_wp2_with (go_at_call 38; (with_reducible refine (H.out).mono ?_); rintro e w2 ⟨rfl, rfl⟩)
    go_ret2
    exact ⟨rfl, rfl⟩
  · have er : rest s p = s.extract p.size s.size := by simp [rest, hb]
    have hle : p.size ≤ s.size := by simp [begins] at hb; exact hb.1
    have hle' : (p.size : Int) ≤ s.size := by omega
    rw [er]
    rw [hb] at H
    clear er hb
    go_enter Try.func35, Try.ntmps35
    go_wp2_with (go_at_call 38; (with_reducible refine (H.out).mono ?_); rintro e w2 ⟨rfl, rfl⟩)
    go_ret2
    exact ⟨rfl, rfl⟩
set_option maxRecDepth 100000 in
theorem cutPrefix_any (s p : ByteArray) (w : World) : Calls Try.prog 30 #[.string s, .string p] w fun e w' => e = .returned (.tuple #[.string (rest s p), .bool (begins s p)]) ∧ w' = w := by
  have H := Lib.hid (cutPrefix1_any s p w)
  go_enter Try.func30, Try.ntmps30
  go_wp2_with (go_at_call 35; (with_reducible refine (H.out).mono ?_); rintro e w2 ⟨rfl, rfl⟩)
  go_ret2
  exact ⟨rfl, rfl⟩
end Go.Proofs.Ytdoghnpmbpomcaa
