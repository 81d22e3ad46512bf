/- people's functions that write into one person of a row: password, missed, moved, contact. -/
import Derived.Test.YtkihleecjgoipaaDoorPpD
namespace Go.Proofs.YtkihleecjgoipaaDoor
open Go.RowKit Go.Maps Go.Proofs.YtkihleecjgoipaaDoor.Rw

set_option maxHeartbeats 2000000 in
set_option maxRecDepth 100000 in
theorem password_any {B c g n : Nat} {ms : List Per.R} {w : World} (o : Per.owns w B (.slice (some ⟨g, 0, none⟩) n c) ms) (i : Nat) (hi : i < ms.length) (x : Per.R) (hx : ms[i]?.getD Per.zero = x) (hv : 0 ≤ x.vers ∧ x.vers ≤ 1099511627776) (s k : ByteArray) :
    Calls Tryd.prog 53 #[.pointer (some ⟨g, i * 13, none⟩), .string s, .string k] w fun e w' => e = .returned (.int .i64 (pasE s k)) ∧ Per.owns w' B (.slice (some ⟨g, 0, none⟩) n c) (ms.set i (pasF x s k)) ∧ w.grownBy w' (some g) := by
  have K := Lib.hid (fun w => key_any s k w)
  obtain ⟨g', hg', _, _, m0, m1, m2, m3, m4, m5, m6, m7, m8, m9, m10, m11, m12⟩ := o.all i hi
  cases hg'
  rw [hx] at m0 m1 m2 m3 m4 m5 m6 m7 m8 m9 m10 m11 m12
  have kf := o.free
  have E : Hid (pasE s k = if keyB s k = true then 0 else 1) := Lib.hid rfl
  have F : Hid (pasF x s k = if keyB s k = true then { x with salt := s, chk := k, vers := min (x.vers + 1) 1099511627776, miss := 0, lock := 0 } else x) := Lib.hid rfl
  have O := Lib.hid o
  have HX := Lib.hid hx
  have hsame : ms.set i x = ms := by
    rw [← hx, List.getElem?_eq_getElem hi]
    simp
  have HS := Lib.hid hsame
  generalize pasE s k = r at *
  generalize pasF x s k = y at *
  clear o hsame
  cases hq : keyB s k
  · rw [hq] at K E F
    clear hq hx
    go_enter Tryd.func53, Tryd.ntmps53
    go_wp2_with (go_at_call 44; (with_reducible refine (K.out _).mono ?_); rintro e w2 ⟨rfl, rfl⟩)
    go_ret
    exact ⟨ret_int (by rw [E.out]; rfl), by rw [F.out, if_neg (by decide), HS.out]; exact O.out, grown_refl _ _⟩
  · rw [hq] at K E F
    have hw : IntKind.i64.wrap (x.vers + 1) = x.vers + 1 := by rw [IntKind.wrap_i64] <;> omega
    obtain ⟨vv, hvv⟩ : ∃ vv, min (x.vers + 1) 1099511627776 = vv := ⟨_, rfl⟩
    rw [hvv] at F
    have h1 := O.out.put1 i 3 hi (by omega) (.string s) { x with salt := s } (by rw [hx]; rfl)
    have h2 := h1.put1 i 4 (by simpa using hi) (by omega) (.string k) { x with salt := s, chk := k } (by rw [Per.set_at _ _ _ hi]; rfl)
    rw [List.set_set] at h2
    have h3 := h2.put1 i 5 (by simpa using hi) (by omega) (.int .i64 vv) { x with salt := s, chk := k, vers := vv } (by rw [Per.set_at _ _ _ hi]; rfl)
    rw [List.set_set] at h3
    have h4 := h3.put1 i 6 (by simpa using hi) (by omega) (.int .i64 0) { x with salt := s, chk := k, vers := vv, miss := 0 } (by rw [Per.set_at _ _ _ hi]; rfl)
    rw [List.set_set] at h4
    have h5 := h4.put1 i 7 (by simpa using hi) (by omega) (.int .i64 0) { x with salt := s, chk := k, vers := vv, miss := 0, lock := 0 } (by rw [Per.set_at _ _ _ hi]; rfl)
    rw [List.set_set] at h5
    have G := Lib.hid (World.grownBy.trans (World.grownBy.trans (World.grownBy.trans (World.grownBy.trans (grown_set w g (i * 13 + 3) (.string s)) (grown_set _ g (i * 13 + 4) (.string k))) (grown_set _ g (i * 13 + 5) (.int .i64 vv))) (grown_set _ g (i * 13 + 6) (.int .i64 0))) (grown_set _ g (i * 13 + 7) (.int .i64 0)))
    have O5 := Lib.hid h5
    have hm : IntKind.i64.wrap (x.vers + 1) = x.vers + 1 := hw
    clear hq hx h1 h2 h3 h4 h5
    go_enter Tryd.func53, Tryd.ntmps53
    go_wp2_with (go_at_call 44; (with_reducible refine (K.out _).mono ?_); rintro e w2 ⟨rfl, rfl⟩)
    go_ret
    exact ⟨ret_int (by rw [E.out]; rfl), by rw [F.out, if_pos trivial]; subst hvv; exact O5.out, by subst hvv; exact G.out⟩
set_option maxHeartbeats 2000000 in
set_option maxRecDepth 100000 in
theorem missed_any {B c g n : Nat} {ms : List Per.R} {w : World} (o : Per.owns w B (.slice (some ⟨g, 0, none⟩) n c) ms) (i : Nat) (hi : i < ms.length) (x : Per.R) (hx : ms[i]?.getD Per.zero = x) (hv : 0 ≤ x.miss ∧ x.miss ≤ 1000) (now : Int) :
    Calls Tryd.prog 54 #[.pointer (some ⟨g, i * 13, none⟩), .int .i64 now] w fun e w' => e = .returned (.tuple #[]) ∧ Per.owns w' B (.slice (some ⟨g, 0, none⟩) n c) (ms.set i (missF x now)) ∧ w.grownBy w' (some g) := by
  have CK := Lib.hid (fun w => clock_any now 100 w)
  obtain ⟨g', hg', _, _, m0, m1, m2, m3, m4, m5, m6, m7, m8, m9, m10, m11, m12⟩ := o.all i hi
  cases hg'
  rw [hx] at m6 m7
  have kf := o.free
  have F : Hid (missF x now = if 5 ≤ x.miss + 1 then { x with miss := 0, lock := clk now 100 } else { x with miss := x.miss + 1 }) := Lib.hid rfl
  have hw : IntKind.i64.wrap (x.miss + 1) = x.miss + 1 := by rw [IntKind.wrap_i64] <;> omega
  generalize missF x now = y at *
  generalize clk now 100 = ck at *
  have h1 := o.put1 i 6 hi (by omega) (.int .i64 (x.miss + 1)) { x with miss := x.miss + 1 } (by rw [hx]; rfl)
  have h2 := h1.put1 i 6 (by simpa using hi) (by omega) (.int .i64 0) { x with miss := 0 } (by rw [Per.set_at _ _ _ hi]; rfl)
  rw [List.set_set] at h2
  have h3 := h2.put1 i 7 (by simpa using hi) (by omega) (.int .i64 ck) { x with miss := 0, lock := ck } (by rw [Per.set_at _ _ _ hi]; rfl)
  rw [List.set_set] at h3
  have G1 := Lib.hid (grown_set w g (i * 13 + 6) (.int .i64 (x.miss + 1)))
  have G := Lib.hid (World.grownBy.trans (World.grownBy.trans (grown_set w g (i * 13 + 6) (.int .i64 (x.miss + 1))) (grown_set _ g (i * 13 + 6) (.int .i64 0))) (grown_set _ g (i * 13 + 7) (.int .i64 ck)))
  have O1 := Lib.hid h1
  have O3 := Lib.hid h3
  clear hx h1 h2 h3 o m0 m1 m2 m3 m4 m5 m8 m9 m10 m11 m12
  by_cases hq : 5 ≤ x.miss + 1
  · go_enter Tryd.func54, Tryd.ntmps54
    go_wp2_with (go_at_call 70; (with_reducible refine (CK.out _).mono ?_); rintro e w2 ⟨rfl, q⟩; have q2 := q.symm; subst q2)
    go_end0
    exact ⟨rfl, by rw [F.out, if_pos hq]; exact O3.out, G.out⟩
  · go_enter Tryd.func54, Tryd.ntmps54
    go_wp2_with fail
    go_end0
    exact ⟨rfl, by rw [F.out, if_neg (by omega)]; exact O1.out, G1.out⟩
end Go.Proofs.YtkihleecjgoipaaDoor
