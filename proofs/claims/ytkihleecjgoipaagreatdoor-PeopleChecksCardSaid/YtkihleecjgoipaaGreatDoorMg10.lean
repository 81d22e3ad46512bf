/- PeopleVersions: the plain law. -/
import Derived.Test.YtkihleecjgoipaaGreatDoorMg9
import Derived.Test.YtkihleecjgoipaaGreatDoorMg3
import Derived.Test.YtkihleecjgoipaaGreatDoorSmall
import Derived.Maps.OwnSet
import Derived.Maps.AppendAt
import Derived.ProofKit
section
namespace Go.Proofs.YtkihleecjgoipaaGreatDoor
open Go.RowKit Go.Maps Go.Proofs.YtkihleecjgoipaaGreatDoor.Rw

/-- An event of the law: its times lie below 1024. -/
structure EvOk (e : Evn) : Prop where
  at_ : 0 ≤ e.at_ ∧ e.at_ ≤ 1023
  num : 0 ≤ e.num ∧ e.num ≤ 1023
  sz : e.a.size ≤ 100
section
variable {N : Nat} {p : Ppl} {e : Evn} {x : Per.R}
theorem doesF_keep (p : Ppl) (x : Per.R) (e : Evn) : (doesF p x e).id = x.id := by
  unfold doesF
  split
  · rfl
  · split
    · unfold pasF
      split <;> rfl
    · split
      · unfold missF
        split <;> rfl
      · split
        · rfl
        · split
          · unfold movF
            split <;> rfl
          · split
            · unfold contF
              split
              · unfold putC
                split
                · rfl
                · split
                  · rfl
                  · split
                    · rfl
                    · split <;> rfl
              · rfl
            · rfl
theorem clk_small {t : Int} (h : 0 ≤ t ∧ t ≤ 1023) : clk t 100 = t + 100 := by
  unfold clk
  rw [if_neg (by omega), Int.min_eq_left (by omega), Int.min_eq_left (by omega), Int.min_eq_left (by omega)]
theorem putC_rest (x : Per.R) (k : Nat) (m : ByteArray) : (putC x k m).id = x.id ∧ (putC x k m).mail = x.mail ∧ (putC x k m).ver = x.ver ∧ (putC x k m).salt = x.salt ∧ (putC x k m).chk = x.chk ∧ (putC x k m).vers = x.vers ∧ (putC x k m).miss = x.miss ∧ (putC x k m).lock = x.lock := by
  unfold putC
  split
  · exact ⟨rfl, rfl, rfl, rfl, rfl, rfl, rfl, rfl⟩
  · split
    · exact ⟨rfl, rfl, rfl, rfl, rfl, rfl, rfl, rfl⟩
    · split
      · exact ⟨rfl, rfl, rfl, rfl, rfl, rfl, rfl, rfl⟩
      · split <;> exact ⟨rfl, rfl, rfl, rfl, rfl, rfl, rfl, rfl⟩
theorem PP.does (h : PP N x) (hN : N ≤ 100000) (he : EvOk e) (h0 : doesE p x e = 0) : PP (N + 1) (doesF p x e) := by
  have hv := h.vers
  have hm := h.miss
  have hl := h.lock
  have hat := he.at_
  unfold doesF
  split
  · exact ⟨⟨hv.1, by show x.vers ≤ _; omega⟩, hm, hl, h.mail, h.key⟩
  · split
    · rename_i h3
      have hk : keyB e.b e.c = true := by
        unfold doesE at h0
        rw [if_pos h3] at h0
        unfold pasE at h0
        split at h0
        · assumption
        · cases h0
      unfold pasF
      rw [if_pos hk]
      refine ⟨⟨?_, ?_⟩, ⟨by simp, by simp⟩, ⟨by simp, by simp⟩, h.mail, hk⟩
      · show 1 ≤ min (x.vers + 1) 1099511627776
        rw [Int.min_eq_left (by omega)]
        omega
      · show min (x.vers + 1) 1099511627776 ≤ _
        rw [Int.min_eq_left (by omega)]
        omega
    · split
      · unfold missF
        split
        · refine ⟨⟨hv.1, by show x.vers ≤ _; omega⟩, ⟨by simp, by simp⟩, ?_, h.mail, h.key⟩
          show 0 ≤ clk e.at_ 100 ∧ clk e.at_ 100 ≤ 3000
          rw [clk_small hat]
          omega
        · rename_i h5
          exact ⟨⟨hv.1, by show x.vers ≤ _; omega⟩, by show 0 ≤ x.miss + 1 ∧ x.miss + 1 ≤ 4; omega, hl, h.mail, h.key⟩
      · split
        · exact ⟨⟨hv.1, by show x.vers ≤ _; omega⟩, ⟨by simp, by simp⟩, hl, h.mail, h.key⟩
        · split
          · unfold movF
            split
            · rename_i hmv
              refine ⟨⟨hv.1, by show x.vers ≤ _; omega⟩, hm, hl, ?_, h.key⟩
              unfold movE freeE at hmv
              show onesB e.a = true
              cases hq : onesB e.a
              · rw [hq] at hmv
                cases hmv
              · rfl
            · exact h.later
          · split
            · unfold contF
              split
              · obtain ⟨r0, r1, r2, r3, r4, r5, r6, r7⟩ := putC_rest x (gap x) e.a
                exact ⟨by rw [r5]; exact ⟨hv.1, by omega⟩, by rw [r6]; exact hm, by rw [r7]; exact hl, by rw [r1]; exact h.mail, by rw [r3, r4]; exact h.key⟩
              · exact h.later
            · exact h.later
theorem hits_does (h : PI N p) {k : Nat} (hk : k < p.ps.length) (hh : hits p e k = true) : 2 ≤ e.kind ∧ e.kind ≤ 7 ∧ appE p e = 0 ∧ e.acc = (k : Int) + 1 ∧ doesE p p.ps[k] e = 0 := by
  unfold hits at hh
  simp only [Bool.and_eq_true, decide_eq_true_eq] at hh
  obtain ⟨⟨⟨h2, h7⟩, h0⟩, ha⟩ := hh
  refine ⟨h2, h7, h0, ha, ?_⟩
  have hat : at_ p e.acc = k := by rw [ha]; exact h.at_hit hk
  unfold appE at h0
  rw [if_neg (by omega), if_neg (by omega), hat, if_neg (by omega), if_neg (by omega), if_neg (by omega), List.getElem?_eq_getElem hk] at h0
  exact h0
theorem app_sess (h : PI N p) : (appR p e).ss.length ≤ 16 := by
  have hs := h.slen
  unfold appR
  split
  · unfold sgnR
    split <;> exact hs
  · split
    · exact hs
    · split
      · exact hs
      · split
        · unfold sesR
          split
          · rename_i h0
            unfold sesE at h0
            split at h0
            · cases h0
            · split at h0
              · cases h0
              · split at h0
                · cases h0
                · rename_i hl
                  show (lasts p e.at_ ++ [_]).length ≤ 16
                  rw [List.length_append]
                  simp
                  omega
          · exact hs
        · split
          · exact Nat.le_trans (List.length_filter_le _ _) hs
          · split <;> exact hs
theorem PI.app (h : PI N p) (hN : N ≤ 100000) (he : EvOk e) : PI (N + 1) (appR p e) := by
  have hl := h.len
  rcases h.persons (e := e) with ⟨y, h1, h0, rfl, ha, ho, hk, hb, h12, hr⟩ | ⟨hlen, hat⟩
  · refine ⟨by rw [hr, List.length_append]; simp; omega, app_sess h, fun k hk' => ?_, fun k hk' => ?_⟩
    · simp only [hr] at hk' ⊢
      rw [List.length_append] at hk'
      simp at hk'
      by_cases hkk : k < p.ps.length
      · rw [List.getElem_append_left hkk]
        exact h.id k hkk
      · obtain rfl : k = p.ps.length := by omega
        rw [List.getElem_append_right (Nat.le_refl _)]
        simp only [Nat.sub_self, List.getElem_cons_zero]
        exact ha
    · simp only [hr] at hk' ⊢
      rw [List.length_append] at hk'
      simp at hk'
      by_cases hkk : k < p.ps.length
      · rw [List.getElem_append_left hkk]
        exact (h.pp k hkk).later
      · obtain rfl : k = p.ps.length := by omega
        rw [List.getElem_append_right (Nat.le_refl _)]
        simp only [Nat.sub_self, List.getElem_cons_zero]
        exact ⟨by show (1 : Int) ≤ 1 ∧ (1 : Int) ≤ _; omega, ⟨by simp [newP], by simp [newP]⟩, ⟨by simp [newP], by simp [newP]⟩, ho, hk⟩
  · have hg : ∀ k (hk : k < (appR p e).ps.length), (appR p e).ps[k] = if hits p e k = true then doesF p (p.ps[k]'(by omega)) e else p.ps[k]'(by omega) := fun k hk => by
      have := hat k (by omega)
      rw [List.getElem?_eq_getElem hk] at this
      exact Option.some.inj this
    refine ⟨by omega, app_sess h, fun k hk => ?_, fun k hk => ?_⟩
    · rw [hg k hk]
      split
      · rw [doesF_keep]
        exact h.id k (by omega)
      · exact h.id k (by omega)
    · rw [hg k hk]
      split
      · rename_i hh
        exact (h.pp k (by omega)).does hN he (hits_does h (by omega) hh).2.2.2.2
      · exact (h.pp k (by omega)).later
theorem PI.small (h : PI N p) (hN : N ≤ 100000) : small p := fun x hx => by
  obtain ⟨k, hk, rfl⟩ := List.mem_iff_getElem.1 hx
  have := h.id k hk
  have := h.len
  have hp := h.pp k hk
  have := hp.vers
  have := hp.miss
  omega
theorem PI.grows (h : PI N p) : p.ps.length ≤ (appR p e).ps.length := by
  rcases h.persons (e := e) with ⟨y, _, _, _, _, _, _, _, _, hr⟩ | ⟨hlen, _⟩
  · rw [hr, List.length_append]
    omega
  · omega
theorem PI.next_at (h : PI N p) {k : Nat} (hk : k < p.ps.length) : (appR p e).ps[k]? = some (if hits p e k = true then doesF p p.ps[k] e else p.ps[k]) := by
  rcases h.persons (e := e) with ⟨y, h1, _, _, _, _, _, _, _, hr⟩ | ⟨_, hat⟩
  · have hh : hits p e k = false := by
      unfold hits
      rw [h1]
      simp
    rw [hh, hr, List.getElem?_append_left hk, List.getElem?_eq_getElem hk]
    rfl
  · exact hat k hk
def risesB (p : Ppl) (e : Evn) (k : Nat) : Bool := decide (appE p e = 0) && decide (e.kind = 3) && decide (e.acc = (k : Int) + 1)
theorem ver_facts (h : PI N p) (hN : N ≤ 100000) {k : Nat} (hk : k < p.ps.length) (b : Per.R) (hb : b = if hits p e k = true then doesF p p.ps[k] e else p.ps[k]) :
    (b.vers = p.ps[k].vers + 1 ↔ risesB p e k = true) ∧ (risesB p e k = true → b.miss = 0 ∧ b.lock = 0 ∧ b.chk = e.c ∧ b.salt = e.b) ∧ (risesB p e k = false → b.chk = p.ps[k].chk ∧ b.salt = p.ps[k].salt) := by
  have hv := (h.pp k hk).vers
  by_cases hh : hits p e k = true
  · obtain ⟨h2, h7, h0, ha, hd⟩ := hits_does h hk hh
    rw [if_pos hh] at hb
    by_cases h3 : e.kind = 3
    · have hr : risesB p e k = true := by
        unfold risesB
        rw [h0, h3, ha]
        simp
      have hky : keyB e.b e.c = true := by
        unfold doesE at hd
        rw [if_pos h3] at hd
        unfold pasE at hd
        split at hd
        · assumption
        · cases hd
      have hbe : b = pasF p.ps[k] e.b e.c := by
        rw [hb]
        unfold doesF
        rw [if_neg (by omega), if_pos h3]
      unfold pasF at hbe
      rw [if_pos hky, Int.min_eq_left (by omega)] at hbe
      rw [hr, hbe]
      simp
    · have hr : risesB p e k = false := by
        unfold risesB
        simp [h3]
      have hsame : b.vers = p.ps[k].vers ∧ b.chk = p.ps[k].chk ∧ b.salt = p.ps[k].salt := by
        rw [hb]
        unfold doesF
        rw [if_neg h3]
        unfold missF movF contF
        split
        · exact ⟨rfl, rfl, rfl⟩
        · split
          · split <;> exact ⟨rfl, rfl, rfl⟩
          · split
            · exact ⟨rfl, rfl, rfl⟩
            · split
              · split <;> exact ⟨rfl, rfl, rfl⟩
              · split
                · split
                  · obtain ⟨_, _, _, r3, r4, r5, _, _⟩ := putC_rest p.ps[k] (gap p.ps[k]) e.a
                    exact ⟨r5, r4, r3⟩
                  · exact ⟨rfl, rfl, rfl⟩
                · exact ⟨rfl, rfl, rfl⟩
      rw [hr, hsame.1, hsame.2.1, hsame.2.2]
      refine ⟨⟨fun c => by omega, fun c => (by cases c)⟩, fun c => (by cases c), fun _ => ⟨rfl, rfl⟩⟩
  · have hr : risesB p e k = false := by
      cases hq : risesB p e k
      · rfl
      · unfold risesB at hq
        simp only [Bool.and_eq_true, decide_eq_true_eq] at hq
        obtain ⟨⟨q0, q3⟩, qa⟩ := hq
        refine absurd ?_ hh
        unfold hits
        rw [q0, q3, qa]
        simp
    rw [if_neg hh] at hb
    rw [hr, hb]
    refine ⟨⟨fun c => by omega, fun c => (by cases c)⟩, fun c => (by cases c), fun _ => ⟨rfl, rfl⟩⟩
end
end Go.Proofs.YtkihleecjgoipaaGreatDoor
end
/- No digest of a session stands twice. -/
section
namespace Go.Proofs.YtkihleecjgoipaaGreatDoor
open Go.RowKit Go.Maps Go.Proofs.YtkihleecjgoipaaGreatDoor.Rw

/-- No digest stands twice. -/
def SI (p : Ppl) : Prop := p.ss.Pairwise (fun a b => a.dig ≠ b.dig)
theorem SI.nil : SI ⟨[], []⟩ := List.Pairwise.nil
section
variable {p : Ppl} {e : Evn}
theorem SI.app (h : SI p) : SI (appR p e) := by
  unfold appR
  split
  · unfold sgnR
    split <;> exact h
  · split
    · exact h
    · split
      · exact h
      · split
        · unfold sesR
          split
          · rename_i h0
            unfold sesE at h0
            split at h0
            · cases h0
            · split at h0
              · cases h0
              · rename_i hth
                show (lasts p e.at_ ++ [_]).Pairwise _
                rw [List.pairwise_append]
                refine ⟨h.filter _, List.pairwise_singleton _ _, fun a ha b hb => ?_⟩
                simp only [List.mem_singleton] at hb
                subst hb
                intro c
                refine hth ?_
                rw [List.any_eq_true]
                exact ⟨a, (List.mem_filter.1 ha).1, decide_eq_true c⟩
          · exact h
        · split
          · exact List.Pairwise.filter _ h
          · split <;> exact h
end
end Go.Proofs.YtkihleecjgoipaaGreatDoor
end
/- A set of strings, kept as a map[string]bool that the call made. -/
section
namespace Go.Proofs.YtkihleecjgoipaaGreatDoor
open Go.RowKit Go.Maps

theorem keyStr : Keyed Tryz.prog 9 := string_keyed Tryz.underlying9
def heldAs (v : Value) : Option (DataW Value × List MemPlace) := some (.held v, [])
theorem zeroBool (w : World) : (zeroValue 4).run Tryz.prog w = .ok (.bool false) w := by kernel_rfl
def inB (s : ByteArray) (l : List ByteArray) : Bool := l.any (fun t => decide (t = s))
theorem inB_iff {s : ByteArray} {l : List ByteArray} : inB s l = true ↔ s ∈ l := by simp [inB]
theorem inB_not {s : ByteArray} {l : List ByteArray} (h : s ∉ l) : inB s l = false := by
  cases q : inB s l
  · rfl
  · exact absurd (inB_iff.1 q) h
/-- Block B is a set, put into at most N times, that holds the strings of seen. -/
def met (w : World) (B N : Nat) (seen : List ByteArray) : Prop :=
  ∃ D : DataW Value, w.ownsMap Tryz.prog 9 heldAs B N D ∧ ∀ s : ByteArray, s.size ≤ maxLen → D.atKey (.string s.data.toList) (.held (.bool false)) = .held (.bool (inB s seen))
set_option maxRecDepth 100000 in
theorem met.look {w : World} {B N : Nat} {seen : List ByteArray} (h : met w B N seen) (s : ByteArray) (hs : s.size ≤ maxLen) :
    (Instr.lookup 52 (.map (some B)) (.string s) false).run Tryz.prog w = .ok (.bool (inB s seen)) w := by
  obtain ⟨D, hB, h9⟩ := h
  obtain ⟨v, ps, hrun, hv⟩ := hB.lookup keyStr Tryz.underlying52 (zeroBool w) (zd := .held (.bool false)) (zp := []) rfl (WideMaps.keyOf_string_mk Tryz.underlying9 hs)
  rw [h9 s hs] at hv
  clear h9
  generalize inB s seen = q at *
  unfold heldAs at hv
  injection hv with e
  injection e with e _
  injection e with e
  subst e
  exact hrun
theorem met.new (w : World) : met (w.alloc (.map #[] 0)) w.heap.size 0 [] := ⟨.map [], World.ownsMap_made w Tryz.prog 9 heldAs, fun _ _ => rfl⟩
theorem met.lt {w : World} {B N : Nat} {seen : List ByteArray} (h : met w B N seen) : B < w.heap.size := by
  obtain ⟨D, hB, _⟩ := h
  exact hB.lt
theorem met.below {w w' : World} {B N : Nat} {seen : List ByteArray} (h : met w B N seen) (b : Below w.heap.size w w') : met w' B N seen := by
  obtain ⟨D, hB, h9⟩ := h
  exact ⟨D, hB.kept (row := none) ⟨b.os, b.tape, b.output, b.size, fun i hi _ => b.block i hi⟩ (by simp), h9⟩
theorem met.alloc {w : World} {B N : Nat} {seen : List ByteArray} (h : met w B N seen) (o : Obj) : met (w.alloc o) B N seen := by
  obtain ⟨D, hB, h9⟩ := h
  exact ⟨D, hB.alloc o, h9⟩
theorem met.drew {w : World} {B N : Nat} {seen : List ByteArray} (h : met w B N seen) : met w.drew B N seen := by
  obtain ⟨D, hB, h9⟩ := h
  exact ⟨D, hB.drew, h9⟩
theorem met.set {w : World} {B N : Nat} {seen : List ByteArray} (h : met w B N seen) {a : Addr} (ha : B ≠ a.block) (u : Value) : met (w.setCell a u) B N seen := by
  obtain ⟨D, hB, h9⟩ := h
  exact ⟨D, hB.setCell ha u, h9⟩
set_option maxRecDepth 100000 in
theorem met.put {w : World} {B N : Nat} {seen : List ByteArray} (h : met w B N seen) (hN : N ≤ 1000000) (s : ByteArray) (hs : s.size ≤ maxLen) :
    ∃ w', (Instr.mapUpdate 52 (.map (some B)) (.string s) (.bool true)).run Tryz.prog w = .ok () w' ∧ met w' B (N + 1) (s :: seen) ∧ w.grownBy w' (some B) := by
  obtain ⟨D, hB, h9⟩ := h
  obtain ⟨w', ru, B4, g4⟩ := hB.update keyStr Tryz.underlying52 (by unfold maxLen; omega) (WideMaps.keyOf_string_mk Tryz.underlying9 hs) (val := .bool true) (d := .held (.bool true)) (ps := []) rfl
  refine ⟨w', ru, ⟨_, B4, fun s' hs' => ?_⟩, g4⟩
  by_cases e : s' = s
  · subst e
    rw [atKey_put_same hB.isMap (by trivial)]
    simp [inB]
  · rw [atKey_put_other (by intro e'; injection e' with e'; exact e (by rcases s with ⟨⟨s⟩⟩; rcases s' with ⟨⟨t⟩⟩; simpa using e')), h9 s' hs']
    unfold inB
    rw [List.any_cons, decide_eq_false (fun q => e q.symm), Bool.false_or]
end Go.Proofs.YtkihleecjgoipaaGreatDoor
end
