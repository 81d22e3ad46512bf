/- slices.Delete of a row's first letters. -/
import Derived.Test.YtdoghnpmbpomcaaClear
import Derived.Deep.RegionLaw
namespace Go.Proofs.Ytdoghnpmbpomcaa
open Go.RowKit

theorem step_append_run {P : Program} {ops : Array Oper} {o : Oper} {a : Act} {w : World} {K : Act → World → Prop} {Q : Exit → Act → World → Prop} {E : Prop} (hg : o.guard = none) (d x : Operand) (t : TypeId)
    (hop : o.op = Op.call { callee := Callee.builtin Builtin.append, args := #[d, x], argTypes := #[t, t] }) (v1 v2 v' : Value) (h1 : a.eval d = v1) (h2 : a.eval x = v2) (w' : World)
    (hr : (Builtin.append_ #[t, t] o.type #[v1, v2]).run P w = .ok v' w') (hK : K (a.put o.dst v') w') : if Region.wanted o (yielded ops a.tmps) = true then Oper.wp P o a w K Q else E := by
  have hw : Region.wanted o (yielded ops a.tmps) = true := by simp [Region.wanted, hg]
  rw [if_pos hw]
  unfold Oper.wp
  simp [execOp, hop, resolve, invoke, builtin, h1, h2, hr, Result.andThen]
  exact hK

theorem append_last {w : World} {B n k cap g : Nat} {xs : List Value} (h : w.ownsRow B 40 4 (.slice (some ⟨g, 0, none⟩) n cap) n xs) (hk : n ≤ k) (ty : TypeId) (c : Nat) :
    ∃ w', (Builtin.append_ #[37, 37] ty #[.slice (some ⟨g, 0, none⟩) 0 cap, .slice (some ⟨g, 0, none⟩) (n - k) c]).run Try.prog w = .ok (.slice (some ⟨g, 0, none⟩) (n - k) cap) w' ∧
      w'.ownsRow B 40 4 (.slice (some ⟨g, 0, none⟩) (n - k) cap) (n - k) (xs.drop (k * 4)) ∧ w.grownBy w' (some g) := by
  obtain ⟨i0, hi, hz0, hz1, hz2⟩ := info_parts infoLetter
  have hl := h.1
  have e0 : xs.drop (k * 4) = [] := List.drop_eq_nil_of_le (by omega)
  have e1 : n - k = 0 := by omega
  rw [e0, e1]
  obtain ⟨w', a, b, c'⟩ := run_append_fits (P := Try.prog) w B 37 ty 40 i0 4 Try.underlying37 hi hz1 g 0 cap [] (own_none h) ⟨g, 0, none⟩ 0 c [] (by simp)
    (fun j u hj => by simp at hj) (fun u hu => by simp at hu) (by omega)
  exact ⟨w', a, b, c'⟩

set_option maxHeartbeats 2000000 in
set_option maxRecDepth 100000 in
theorem delete_front (B n k cap g : Nat) (xs : List Value) (w : World) (hown : w.ownsRow B 40 4 (.slice (some ⟨g, 0, none⟩) n cap) n xs) (hk : 0 < k) (hkn : k ≤ n) (hnc : n ≤ cap) (hc : cap ≤ 9223372036854775807) (h1 : ∀ u ∈ xs, u.oneCell' = true) :
    Calls Try.prog 27 #[.slice (some ⟨g, 0, none⟩) n cap, .int .i64 0, .int .i64 k] w fun e w' => e = .returned (.slice (some ⟨g, 0, none⟩) (n - k) cap) ∧ w'.ownsRow B 40 4 (.slice (some ⟨g, 0, none⟩) (n - k) cap) (n - k) (xs.drop (k * 4)) ∧ w.grownBy w' (some g) := by
  have hk0 : ¬ (k : Int) = 0 := by omega
  have hownD : w.drew.ownsRow B 40 4 (.slice (some ⟨g, 0, none⟩) n cap) n xs := hown
  by_cases hck : cap = k
  · obtain rfl : n = k := by omega
    subst cap
    obtain ⟨w2, ha, hown2, hg2⟩ := append_last (k := n) hownD (by omega) 37 0
    obtain ⟨w3, hc3, hown3, hg3⟩ := clear_tail (k := n - (n - n)) hown2 (by omega) (by omega) 0 (n - (n - n))
    simp only [Nat.sub_self, Nat.zero_mul, Nat.sub_zero] at ha hc3 hown3
    have HA := Lib.hid ha
    clear ha
    simp only [Nat.sub_self]
    go_enter Try.func27, Try.ntmps27
    go_wp2_with fail
    go_region_law (refine step_append_run rfl (.tmp 22) (.tmp 25) 37 rfl _ _ _ (by simp [Act.eval, Act.put]) (by simp [Act.eval, Act.put]) _ HA.out ?_)
    go_wp2_with fail
    go_ret
    exact ⟨rfl, hown3, World.grownBy.trans (a := w) (b := w2) ⟨hg2.os, hg2.tape, hg2.output, hg2.size, hg2.block⟩ hg3⟩
  · obtain ⟨w2, ha, hown2, hg2⟩ := append_front hownD hkn h1 37 (cap - k)
    obtain ⟨w3, hc3, hown3, hg3⟩ := clear_tail (k := n - (n - k)) hown2 (by omega) (by omega) 0 (cap - (n - k))
    have HA := Lib.hid ha
    clear ha
    go_enter Try.func27, Try.ntmps27
    go_wp2_with fail
    go_region_law (refine step_append_run rfl (.tmp 22) (.tmp 25) 37 rfl _ _ _ (by simp [Act.eval, Act.put]) (by simp [Act.eval, Act.put]) _ HA.out ?_)
    go_wp2_with fail
    go_ret
    exact ⟨rfl, hown3, World.grownBy.trans (a := w) (b := w2) ⟨hg2.os, hg2.tape, hg2.output, hg2.size, hg2.block⟩ hg3⟩
end Go.Proofs.Ytdoghnpmbpomcaa
