/- Two texts of ten bytes with the same digits are the same. -/
import Derived.Test.YtocooobelmngdaaDoorEnc
namespace Go.Proofs.YtocooobelmngdaaDoor
open Go.RowKit

def undig (c : UInt8) : Nat := ((List.range 32).find? fun i => alpha.getD i 0 == c).getD 0
theorem undig_lt : ∀ i : Nat, i < 32 → undig (dig i) = i := by decide +kernel
theorem dig_mod (x : Nat) : dig x = dig (x % 32) := by unfold dig; rw [Nat.mod_mod]
theorem undig_dig (x : Nat) : undig (dig x) = x % 32 := by rw [dig_mod]; exact undig_lt _ (Nat.mod_lt _ (by decide))

def valF (acc : Nat) (l : List UInt8) : Nat := l.foldl (fun a c => a * 32 + undig c) acc
theorem valF_append (acc : Nat) (a b : List UInt8) : valF acc (a ++ b) = valF (valF acc a) b := by simp [valF, List.foldl_append]
theorem emits_val (v r : Nat) (hr : r < 5) : ∀ (k acc : Nat), valF acc (emits v (5 * k + r)) = acc * 32 ^ k + (v / 2 ^ r) % 32 ^ k := by
  intro k
  induction k with
  | zero =>
    intro acc
    rw [emits_lo v _ (by omega)]
    simp [valF, Nat.mod_one]
  | succ k ih =>
    intro acc
    rw [emits_hi v _ (by omega), show 5 * (k + 1) + r - 5 = 5 * k + r by omega]
    show valF (acc * 32 + undig (dig (v / 2 ^ (5 * k + r)))) (emits v (5 * k + r)) = _
    rw [ih, undig_dig]
    have e1 : v / 2 ^ (5 * k + r) = v / 2 ^ r / 32 ^ k := by
      rw [Nat.div_div_eq_div_mul, Nat.add_comm (5 * k) r, Nat.pow_add, Nat.pow_mul]
    rw [e1, Nat.pow_succ, Nat.mod_mul]
    generalize v / 2 ^ r = X
    generalize 32 ^ k = p
    generalize X / p % 32 = q
    rw [Nat.add_mul, Nat.mul_comm p 32, ← Nat.mul_assoc, Nat.mul_comm q p]
    omega
/-- The number that a text's bytes are. -/
def beAll (l : List UInt8) : Nat := l.foldl (fun n c => n * 256 + c.toNat) 0
theorem beAll_snoc (l : List UInt8) (c : UInt8) : beAll (l ++ [c]) = beAll l * 256 + c.toNat := by simp [beAll, List.foldl_append]
set_option maxRecDepth 10000 in
theorem run_val : ∀ s : List UInt8, valF 0 (encRun s).out * 2 ^ (encRun s).n + (encRun s).v = beAll s := by
  refine snocInd rfl ?_
  intro r c ih
  have hv := encRun_inv r
  rw [encRun_snoc, beAll_snoc, ← ih]
  show valF 0 ((encRun r).out ++ emits ((encRun r).v * 2 ^ 8 + c.toNat) ((encRun r).n + 8)) * 2 ^ (((encRun r).n + 8) % 5) + ((encRun r).v * 2 ^ 8 + c.toNat) % 2 ^ (((encRun r).n + 8) % 5) = _
  rw [valF_append]
  obtain ⟨hn, hv⟩ := hv
  have hc := c.toNat_lt
  generalize valF 0 (encRun r).out = O
  generalize (encRun r).v = v at *
  generalize (encRun r).n = n at *
  generalize c.toNat = d at *
  have e8 : v * 2 ^ 8 + d < 2 ^ (n + 8) := by
    rw [Nat.pow_add]
    have : (v + 1) * 2 ^ 8 ≤ 2 ^ n * 2 ^ 8 := Nat.mul_le_mul_right _ hv
    omega
  obtain ⟨V, hV⟩ : ∃ V, v * 2 ^ 8 + d = V := ⟨_, rfl⟩
  rw [hV] at e8 ⊢
  have ht : (n + 8) % 5 < 5 := Nat.mod_lt _ (by decide)
  have hm : n + 8 = 5 * ((n + 8) / 5) + (n + 8) % 5 := (Nat.div_add_mod _ _).symm
  obtain ⟨k, hk⟩ : ∃ k, (n + 8) / 5 = k := ⟨_, rfl⟩
  obtain ⟨t, hr⟩ : ∃ t, (n + 8) % 5 = t := ⟨_, rfl⟩
  rw [hk, hr] at hm
  rw [hr] at ht
  rw [hr]
  clear hk hr hn
  rw [hm, emits_val V t ht k O]
  have e9 : V / 2 ^ t % 32 ^ k = V / 2 ^ t := by
    refine Nat.mod_eq_of_lt ?_
    rw [Nat.div_lt_iff_lt_mul (Nat.two_pow_pos t)]
    rw [hm, Nat.pow_add, Nat.pow_mul] at e8
    exact e8
  rw [e9, Nat.add_mul]
  have e10 := Nat.div_add_mod' V (2 ^ t)
  have e11 : O * 32 ^ k * 2 ^ t = O * 2 ^ n * 256 := by
    have : (32 : Nat) ^ k * 2 ^ t = 2 ^ n * 256 := by
      rw [show (32 : Nat) = 2 ^ 5 from rfl, ← Nat.pow_mul, ← Nat.pow_add, ← hm, Nat.pow_add]
    rw [Nat.mul_assoc, this, Nat.mul_assoc]
  rw [Nat.add_assoc, e10, e11, ← hV]
  rw [Nat.add_mul, Nat.add_assoc]
theorem beAll_inj : ∀ a b : List UInt8, a.length = b.length → beAll a = beAll b → a = b := by
  refine snocInd ?_ ?_
  · intro b h _
    exact (List.eq_nil_of_length_eq_zero h.symm).symm
  · intro r c ih b h h2
    rcases List.eq_nil_or_concat b with rfl | ⟨r2, c2, rfl⟩
    · simp at h
    · rw [List.concat_eq_append] at *
      rw [beAll_snoc, beAll_snoc] at h2
      have h3 := c.toNat_lt
      have h4 := c2.toNat_lt
      have hl : r.length = r2.length := by simp at h; exact h
      obtain rfl := ih r2 hl (by omega)
      have : c = c2 := UInt8.toNat_inj.1 (by omega)
      rw [this]
theorem encF_eq (s : List UInt8) (h : s.length = 10) : encF s = (encRun s).out ∧ valF 0 (encF s) = beAll s ∧ (encF s).length = 16 := by
  have h1 := encRun_len s
  have h2 := encRun_inv s
  have h4 := run_val s
  rw [h] at h1
  have h3 : (encRun s).n = 0 := by omega
  have e : encF s = (encRun s).out := by unfold encF; simp only [h3, Nat.lt_irrefl, if_false]
  rw [e]
  rw [h3] at h2 h4
  refine ⟨rfl, ?_, by omega⟩
  have hv := h2.2
  simp at hv h4
  omega
theorem encF_inj (a b : List UInt8) (ha : a.length = 10) (hb : b.length = 10) : encF a = encF b ↔ a = b := by
  constructor
  · intro h
    refine beAll_inj a b (by omega) ?_
    rw [← (encF_eq a ha).2.1, ← (encF_eq b hb).2.1, h]
  · rintro rfl; rfl
end Go.Proofs.YtocooobelmngdaaDoor
