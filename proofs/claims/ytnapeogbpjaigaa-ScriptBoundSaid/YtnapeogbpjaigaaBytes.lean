/- The bytes of a request that may be (wire.Bytes). -/
import Derived.Test.YtnapeogbpjaigaaCheck
namespace Go.Proofs.Ytnapeogbpjaigaa
open Go.RowKit

/-- A request's bytes. -/
def reqBytes (k p : Nat) (source mail other secret password : ByteArray) : List UInt8 := ([] ++ [k, p].flatMap vint) ++ [source, mail, other, secret, password].flatMap vtext
theorem reqBytes_ne (k p : Nat) (source mail other secret password : ByteArray) : reqBytes k p source mail other secret password ≠ [] := by
  unfold reqBytes
  simp only [List.nil_append, List.flatMap_cons, List.append_assoc]
  intro h
  have h1 := congrArg List.length h
  rw [vint] at h1
  split at h1 <;> simp at h1


/-- A request's seven cells. -/
def SBox (g : Nat) (k p : Int) (source mail other secret password : ByteArray) (w2 : World) : Prop :=
    w2.cell? ⟨g, 0, none⟩ = some (.int .i64 k) ∧ w2.cell? ⟨g, 1, none⟩ = some (.int .i64 p) ∧ w2.cell? ⟨g, 2, none⟩ = some (.string source) ∧ w2.cell? ⟨g, 3, none⟩ = some (.string mail) ∧ w2.cell? ⟨g, 4, none⟩ = some (.string other) ∧ w2.cell? ⟨g, 5, none⟩ = some (.string secret) ∧ w2.cell? ⟨g, 6, none⟩ = some (.string password)
theorem boxCells {w2 : World} {g : Nat} {k p : Int} {source mail other secret password : ByteArray} {T : TypeId} (h : w2.heap[g]? = some (.cells #[.int .i64 k, .int .i64 p, .string source, .string mail, .string other, .string secret, .string password] T (0, 0))) :
    w2.cell? ⟨g, 0, none⟩ = some (.int .i64 k) ∧ w2.cell? ⟨g, 1, none⟩ = some (.int .i64 p) ∧ w2.cell? ⟨g, 2, none⟩ = some (.string source) ∧ w2.cell? ⟨g, 3, none⟩ = some (.string mail) ∧ w2.cell? ⟨g, 4, none⟩ = some (.string other) ∧ w2.cell? ⟨g, 5, none⟩ = some (.string secret) ∧ w2.cell? ⟨g, 6, none⟩ = some (.string password) := by
  refine ⟨?_, ?_, ?_, ?_, ?_, ?_, ?_⟩ <;> (rw [Lib.cell_of_heap h]; rfl)

theorem num2 (W : World) (b g2 : Nat) (k p : Nat) (hk : k < 18446744073709551616) (hp : p < 18446744073709551616) (hB : Bld 50 b b (Lib.byteCells []) W) (hg2 : W.heap[g2]? = some (.cells #[.int .u64 k, .int .u64 p] 52 (0, 0))) (hne : g2 ≠ b) :
    Calls Try.prog 20 #[.pointer (some ⟨b, 0, none⟩), .slice (some ⟨g2, 0, none⟩) 2 2] W
      fun e w2 => e = .returned (.pointer (some ⟨b, 0, none⟩)) ∧ Bld 50 b b (Lib.byteCells ([] ++ [k, p].flatMap vint)) w2 ∧ Lib.OthersKept 5 (some b) W w2 ∧ Below b W w2 := by
  have hlt := hB.lt
  refine (Num_any 50 bldT_writer b b [] [k, p] g2 0 2 #[.int .u64 k, .int .u64 p] 52 (0, 0) _ hB hg2 (by decide) hne ?_ ?_ (by simp) (by omega)).mono ?_
  · intro i x hx
    match i, hx with
    | 0, hx => simp at hx; subst hx; rfl
    | 1, hx => simp at hx; subst hx; rfl
  · intro x hx
    simp at hx
    rcases hx with rfl | rfl <;> assumption
  rintro e w2 ⟨rfl, hB, hbel, hk2⟩
  exact ⟨rfl, hB, hk2, hbel⟩

theorem text5 (W : World) (b g5 : Nat) (s1 s2 s3 s4 s5 : ByteArray) (h1 : s1.size ≤ 1000000) (h2 : s2.size ≤ 1000000) (h3 : s3.size ≤ 1000000) (h4 : s4.size ≤ 1000000) (h5 : s5.size ≤ 1000000) (k p : Nat) (hk : k < 18446744073709551616) (hp : p < 18446744073709551616)
    (hB : Bld 50 b b (Lib.byteCells ([] ++ [k, p].flatMap vint)) W) (hg5 : W.heap[g5]? = some (.cells #[.string s1, .string s2, .string s3, .string s4, .string s5] 9 (0, 0))) (hne : g5 ≠ b) :
    Calls Try.prog 21 #[.pointer (some ⟨b, 0, none⟩), .slice (some ⟨g5, 0, none⟩) 5 5] W
      fun e w3 => e = .returned (.pointer (some ⟨b, 0, none⟩)) ∧ Bld 50 b b (Lib.byteCells (reqBytes k p s1 s2 s3 s4 s5)) w3 ∧ Lib.OthersKept 5 (some b) W w3 ∧ Below b W w3 := by
  have hlt := hB.lt
  have hl := vint_len64 k hk
  have hl' := vint_len64 p hp
  refine (Text_any 50 bldT_writer b b ([] ++ [k, p].flatMap vint) [s1, s2, s3, s4, s5] g5 0 5 _ 9 (0, 0) _ hB hg5 (by decide) hne ?_ ?_ (by simp; omega) (by omega)).mono ?_
  · intro i x hx
    match i, hx with
    | 0, hx => simp at hx; subst hx; rfl
    | 1, hx => simp at hx; subst hx; rfl
    | 2, hx => simp at hx; subst hx; rfl
    | 3, hx => simp at hx; subst hx; rfl
    | 4, hx => simp at hx; subst hx; rfl
  · intro x hx
    simp at hx
    rcases hx with rfl | rfl | rfl | rfl | rfl <;> assumption
  rintro e w3 ⟨rfl, hB3, hbel, hk2⟩
  exact ⟨rfl, hB3, hk2, hbel⟩


set_option maxHeartbeats 4000000 in
set_option maxRecDepth 100000 in
set_option linter.unusedVariables false in
theorem bytes_some (k p : Nat) (hk : 1 ≤ k ∧ k ≤ 16) (hp : p ≤ 4) (a b c d e : Bool) (h0 : kindCells[k * 5]? = some (.bool a)) (h1 : kindCells[k * 5 + 1]? = some (.bool b)) (h2 : kindCells[k * 5 + 2]? = some (.bool c)) (h3 : kindCells[k * 5 + 3]? = some (.bool d)) (h4 : kindCells[k * 5 + 4]? = some (.bool e))
    (source mail other secret password : ByteArray) (s1 : source.size ≤ 1000000) (s2 : mail.size ≤ 1000000) (s3 : other.size ≤ 1000000) (s4 : secret.size ≤ 1000000) (s5 : password.size ≤ 1000000) (w : World) (hc : chk a b c d e p source mail other secret password = true) :
    Calls Try.prog 15 #[.agg #[.int .i64 k, .int .i64 p, .string source, .string mail, .string other, .string secret, .string password]] w fun e' w' => e' = .returned (.string ⟨(reqBytes k p source mail other secret password).toArray⟩) ∧ Below w.heap.size w w' := by
  have Hck := Lib.hid (fun W => check_some k hk a b c d e h0 h1 h2 h3 h4 p source mail other secret password W)
  have Hc := Lib.hid hc
  clear h0 h1 h2 h3 h4 hc
  go_enter Try.func15, Try.ntmps15
  go_wp2_with fail
  refine (Hck.out _).mono ?_
  rintro e' w1 ⟨rfl, hb1⟩
  rw [Hc.out]
  have hlt : w.heap.size < w1.heap.size := by have := hb1.size; simp at this; omega
  have hbox : w1.heap[w.heap.size]? = some (.cells #[.int .i64 k, .int .i64 p, .string source, .string mail, .string other, .string secret, .string password] 35 (0, 0)) := by
    rw [hb1.block _ (by simp)]
    show (w.heap.push _)[w.heap.size]? = _
    simp
  have HB := Lib.hid hb1
  clear hb1 Hck
  go_wp2_with fail
  have c0 : w1.cell? ⟨w.heap.size, 0, none⟩ = some (.int .i64 k) := by rw [Lib.cell_of_heap hbox]; rfl
  have c1 : w1.cell? ⟨w.heap.size, 1, none⟩ = some (.int .i64 p) := by rw [Lib.cell_of_heap hbox]; rfl
  have c2 : w1.cell? ⟨w.heap.size, 2, none⟩ = some (.string source) := by rw [Lib.cell_of_heap hbox]; rfl
  have c3 : w1.cell? ⟨w.heap.size, 3, none⟩ = some (.string mail) := by rw [Lib.cell_of_heap hbox]; rfl
  have c4 : w1.cell? ⟨w.heap.size, 4, none⟩ = some (.string other) := by rw [Lib.cell_of_heap hbox]; rfl
  have c5 : w1.cell? ⟨w.heap.size, 5, none⟩ = some (.string secret) := by rw [Lib.cell_of_heap hbox]; rfl
  have c6 : w1.cell? ⟨w.heap.size, 6, none⟩ = some (.string password) := by rw [Lib.cell_of_heap hbox]; rfl
  have hwk : IntKind.u64.wrap (k : Int) = (k : Int) := by rw [IntKind.wrap_u64]; omega
  have hwp : IntKind.u64.wrap (p : Int) = (p : Int) := by rw [IntKind.wrap_u64]; omega
  have N1 : Hid (Calls Try.prog 20 #[.pointer (some ⟨w1.heap.size, 0, none⟩), .slice (some ⟨w1.heap.size + 1, 0, none⟩) 2 2] ((w1.alloc (.cells #[.pointer none, .slice none 0 0] 50)).alloc (.cells #[.int .u64 k, .int .u64 p] 52)).drew (fun e w2 => e = .returned (.pointer (some ⟨w1.heap.size, 0, none⟩)) ∧ Bld 50 w1.heap.size w1.heap.size (Lib.byteCells ([] ++ [k, p].flatMap vint)) w2 ∧ w2.heap[w.heap.size]? = some (.cells #[.int .i64 k, .int .i64 p, .string source, .string mail, .string other, .string secret, .string password] 35 (0, 0)) ∧ Below w1.heap.size w1 w2)) := by
    refine Calls.mono (num2 ((w1.alloc (.cells #[.pointer none, .slice none 0 0] 50)).alloc (.cells #[.int .u64 k, .int .u64 p] 52)).drew w1.heap.size (w1.heap.size + 1) k p (by omega) (by omega) (Bld.alloc (freshBld w1 w1.heap.size (Nat.le_refl _) 50) _) (heap_push2 _ _ _) (by omega)) ?_
    rintro e' w2 ⟨rfl, hB2, hk2, hbel2⟩
    refine ⟨rfl, hB2, cell_others hk2 (heap_keep (heap_keep hbox _) _) (fun e => by have := Option.some.inj e; omega) (by decide), (below_drew (below_alloc (below_alloc (Below.refl _ w1) _) _)).trans hbel2⟩
  have N1b : Hid (Calls Try.prog 20 #[.pointer (some ⟨w1.heap.size, 0, none⟩), .slice (some ⟨w1.heap.size + 1, 0, none⟩) 2 2] (((w1.alloc (.cells #[.pointer none, .slice none 0 0] 50)).alloc (.cells #[.int .u64 k, .int .u64 p] 52)).alloc (.cells #[.string source, .string mail, .string other, .string secret, .string password] 9)).drew (fun e w2 => e = .returned (.pointer (some ⟨w1.heap.size, 0, none⟩)) ∧ Bld 50 w1.heap.size w1.heap.size (Lib.byteCells ([] ++ [k, p].flatMap vint)) w2 ∧ w2.heap[w.heap.size]? = some (.cells #[.int .i64 k, .int .i64 p, .string source, .string mail, .string other, .string secret, .string password] 35 (0, 0)) ∧ w2.heap[w1.heap.size + 1 + 1]? = some (.cells #[.string source, .string mail, .string other, .string secret, .string password] 9 (0, 0)) ∧ Below w1.heap.size w1 w2)) := by
    refine Calls.mono (num2 (((w1.alloc (.cells #[.pointer none, .slice none 0 0] 50)).alloc (.cells #[.int .u64 k, .int .u64 p] 52)).alloc (.cells #[.string source, .string mail, .string other, .string secret, .string password] 9)).drew w1.heap.size (w1.heap.size + 1) k p (by omega) (by omega) (Bld.alloc (Bld.alloc (freshBld w1 w1.heap.size (Nat.le_refl _) 50) _) _) (heap_keep (heap_push2 _ _ _) _) (by omega)) ?_
    rintro e' w2 ⟨rfl, hB2, hk2, hbel2⟩
    refine ⟨rfl, hB2, cell_others hk2 (heap_keep (heap_keep (heap_keep hbox _) _) _) (fun e => by have := Option.some.inj e; omega) (by decide), cell_others hk2 (heap_push3 _ _ _ _) (fun e => by have := Option.some.inj e; omega) (by decide), (below_drew (below_alloc (below_alloc (below_alloc (Below.refl _ w1) _) _) _)).trans hbel2⟩
  have N1c : Hid (Calls Try.prog 20 #[.pointer (some ⟨w1.heap.size, 0, none⟩), .slice (some ⟨w1.heap.size + 1 + 1, 0, none⟩) 2 2] (((w1.alloc (.cells #[.pointer none, .slice none 0 0] 50)).alloc (.cells #[.string source, .string mail, .string other, .string secret, .string password] 9)).alloc (.cells #[.int .u64 k, .int .u64 p] 52)).drew (fun e w2 => e = .returned (.pointer (some ⟨w1.heap.size, 0, none⟩)) ∧ Bld 50 w1.heap.size w1.heap.size (Lib.byteCells ([] ++ [k, p].flatMap vint)) w2 ∧ w2.heap[w.heap.size]? = some (.cells #[.int .i64 k, .int .i64 p, .string source, .string mail, .string other, .string secret, .string password] 35 (0, 0)) ∧ w2.heap[w1.heap.size + 1]? = some (.cells #[.string source, .string mail, .string other, .string secret, .string password] 9 (0, 0)) ∧ Below w1.heap.size w1 w2)) := by
    refine Calls.mono (num2 (((w1.alloc (.cells #[.pointer none, .slice none 0 0] 50)).alloc (.cells #[.string source, .string mail, .string other, .string secret, .string password] 9)).alloc (.cells #[.int .u64 k, .int .u64 p] 52)).drew w1.heap.size (w1.heap.size + 1 + 1) k p (by omega) (by omega) (Bld.alloc (Bld.alloc (freshBld w1 w1.heap.size (Nat.le_refl _) 50) _) _) (heap_push3 _ _ _ _) (by omega)) ?_
    rintro e' w2 ⟨rfl, hB2, hk2, hbel2⟩
    refine ⟨rfl, hB2, cell_others hk2 (heap_keep (heap_keep (heap_keep hbox _) _) _) (fun e => by have := Option.some.inj e; omega) (by decide), cell_others hk2 (heap_keep (heap_push2 _ _ _) _) (fun e => by have := Option.some.inj e; omega) (by decide), (below_drew (below_alloc (below_alloc (below_alloc (Below.refl _ w1) _) _) _)).trans hbel2⟩
  have N2 : Hid (∀ (W : World) (g5 : Nat), Bld 50 w1.heap.size w1.heap.size (Lib.byteCells ([] ++ [k, p].flatMap vint)) W → W.heap[w.heap.size]? = some (.cells #[.int .i64 k, .int .i64 p, .string source, .string mail, .string other, .string secret, .string password] 35 (0, 0)) → W.heap[g5]? = some (.cells #[.string source, .string mail, .string other, .string secret, .string password] 9 (0, 0)) → g5 ≠ w1.heap.size →
      Calls Try.prog 21 #[.pointer (some ⟨w1.heap.size, 0, none⟩), .slice (some ⟨g5, 0, none⟩) 5 5] W (fun e w3 => e = .returned (.pointer (some ⟨w1.heap.size, 0, none⟩)) ∧ Bld 50 w1.heap.size w1.heap.size (Lib.byteCells (reqBytes k p source mail other secret password)) w3 ∧ w3.heap[w.heap.size]? = some (.cells #[.int .i64 k, .int .i64 p, .string source, .string mail, .string other, .string secret, .string password] 35 (0, 0)) ∧ Below w1.heap.size W w3)) := by
    intro W g5 hB hx hg hne
    refine Calls.mono (text5 W w1.heap.size g5 source mail other secret password s1 s2 s3 s4 s5 k p (by omega) (by omega) hB hg hne) ?_
    rintro e' w3 ⟨rfl, hB3, hk3, hbel3⟩
    exact ⟨rfl, hB3, cell_others hk3 hx (fun e => by have := Option.some.inj e; omega) (by decide), hbel3⟩
  have N3 := Lib.hid (reqBytes_ne k p source mail other secret password)
  have K2 : ∀ (o1 o2 : Obj), SBox w.heap.size k p source mail other secret password ((w1.alloc o1).alloc o2).drew := fun o1 o2 => boxCells (w2 := ((w1.alloc o1).alloc o2)) (heap_keep (heap_keep hbox _) _)
  have K3 : ∀ (o1 o2 o3 : Obj), SBox w.heap.size k p source mail other secret password (((w1.alloc o1).alloc o2).alloc o3).drew := fun o1 o2 o3 => boxCells (w2 := (((w1.alloc o1).alloc o2).alloc o3)) (heap_keep (heap_keep (heap_keep hbox _) _) _)
  clear hbox s1 s2 s3 s4 s5
  go_region_held3 (fun w' => w'.cell? ⟨w.heap.size, 0, none⟩ = some (.int .i64 k) ∧ w'.cell? ⟨w.heap.size, 1, none⟩ = some (.int .i64 p) ∧ w'.cell? ⟨w.heap.size, 2, none⟩ = some (.string source) ∧ w'.cell? ⟨w.heap.size, 3, none⟩ = some (.string mail) ∧ w'.cell? ⟨w.heap.size, 4, none⟩ = some (.string other) ∧ w'.cell? ⟨w.heap.size, 5, none⟩ = some (.string secret) ∧ w'.cell? ⟨w.heap.size, 6, none⟩ = some (.string password))
    (first
      | exact boxCells hx2
      | exact boxCells hx3
      | exact boxCells hx4
      | exact boxCells (heap_keep hx2 _)
      | exact K2 _ _
      | exact K3 _ _ _
      | go_keep)
    (first
      | (go_at_call 20; (with_reducible refine (N1.out).mono ?_); rintro e' w2 ⟨rfl, hB2, hx2, hbel2⟩)
      | (go_at_call 20; (with_reducible refine (N1b.out).mono ?_); rintro e' w2 ⟨rfl, hB2, hx2, hg2, hbel2⟩)
      | (go_at_call 20; (with_reducible refine (N1c.out).mono ?_); rintro e' w2 ⟨rfl, hB2, hx2, hg2, hbel2⟩)
      | (go_at_call 21; refine (N2.out _ _ hB2 hx2 hg2 (by omega)).mono ?_; rintro e' w3 ⟨rfl, hB3, hx3, hbel3⟩)
      | (go_at_call 21; refine (N2.out _ _ (hB2.alloc _) (heap_keep hx2 _) (heap_push1 _ _) (by have := hB2.lt; omega)).mono ?_; rintro e' w3 ⟨rfl, hB3, hx3, hbel3'⟩; have hbel3 := ((Below.refl w1.heap.size w2).alloc (by have := hB2.lt; omega) _).trans hbel3')
      | (go_at_call 22; refine (wstring_any 50 _ _ _ _ hB3 N3.out).mono ?_; rintro e' w4 ⟨rfl, hbel4⟩; have hx4 := (hbel4.block _ hlt).trans hx3))
  all_goals
    go_wp2
    go_ret
    refine ⟨rfl, ?_⟩
    have e1 : Below w.heap.size w w1 := Below.trans (below_alloc (Below.refl _ w) _) (HB.out.mono (by simp))
    have e2 := (hbel2.trans (hbel3.trans hbel4)).mono (Nat.le_of_lt hlt)
    exact e1.trans e2
end Go.Proofs.Ytnapeogbpjaigaa
