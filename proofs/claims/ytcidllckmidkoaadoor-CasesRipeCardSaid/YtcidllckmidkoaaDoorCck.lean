/- cases.Check; what may be passes it. -/
import Derived.Test.YtcidllckmidkoaaDoorCrt
namespace Go.Proofs.YtcidllckmidkoaaDoor
open Go.RowKit Go.Maps

theorem vrun_good : ∀ (xs seen : List ByteArray) (n : Nat), (seen ++ xs).Nodup → (∀ x ∈ xs, kindOf x = 1) → vrun seen (xs ++ List.replicate n ⟨#[]⟩) = some (seen.length + xs.length)
  | [], seen, 0, _, _ => by simp [vrun]
  | [], seen, n + 1, _, _ => by
    rw [List.nil_append, List.replicate_succ, vrun_stop _ _ _ nonE_empty]
    simp
  | x :: xs, seen, n, hd, hk => by
    have h1 := hk x (List.mem_cons_self ..)
    have h2 : Lib.containsS seen x = false := by
      cases hq : Lib.containsS seen x
      · rfl
      · rw [Lib.containsS_iff] at hq
        rw [List.nodup_append] at hd
        exact absurd rfl (hd.2.2 x hq x (List.mem_cons_self ..))
    rw [List.cons_append, vrun_on _ _ _ (nonE_of_kind h1) h1 h2, vrun_good xs (seen ++ [x]) n (by simpa using hd) (fun y hy => hk y (List.mem_cons_of_mem _ hy))]
    simp
    omega
theorem Good.vou {c : Cas} {xs : List ByteArray} (h : Good c xs) : vouB c = true := by
  have e : vrun [] c.vs = some xs.length := by
    rw [h.vs, vrun_good xs [] _ (by simpa using h.nd) h.mail]
    simp
  rw [(vou_some e).2, h.cnt]
  simp
theorem Right.ok {c : Cas} (h : Right c) : rightC c = true := by
  obtain ⟨xs, g⟩ := h.good
  unfold rightC
  simp [g.vou, h.acc.1, h.acc.2, h.opened.1, h.opened.2, h.ripe, h.quorum.1, h.quorum.2]
theorem chk_good : ∀ (L : List Cas) (last : Int), (∀ c ∈ L, Right c) → (∀ c ∈ L, last < c.acc) → Rise L → chkFrom last L = true
  | [], _, _, _, _ => rfl
  | c :: r, last, h1, h2, h3 => by
    obtain ⟨q1, q2⟩ := List.pairwise_cons.1 h3
    unfold chkFrom
    rw [(h1 c (List.mem_cons_self ..)).ok, chk_good r c.acc (fun x hx => h1 x (List.mem_cons_of_mem _ hx)) q1 q2]
    simp [h2 c (List.mem_cons_self ..)]
theorem INV.chk {L : List Cas} (h : INV L) : chkC L = true := by
  unfold chkC
  rw [chk_good L 0 h.right (fun c hc => by have := (h.right c hc).acc.1; omega) h.rise]
  simp [h.few]
theorem smallC_of {c : Cas} {xs : List ByteArray} (h : Good c xs) (hx : ∀ x ∈ xs, x.size ≤ 4000000000) : smallC c := by
  intro v hv
  rw [h.vs, List.mem_append, List.mem_replicate] at hv
  rcases hv with q | q
  · exact hx v q
  · rw [q.2]; decide

set_option maxHeartbeats 8000000 in
set_option maxRecDepth 100000 in
theorem ccheck_any {Bs c : Nat} {a : Option Addr} {L : List Cas} {w : World} (hown : mowns w Bs (.slice a L.length c) L) (lim : L.length ≤ 1000000) (hs : ∀ c ∈ L, smallC c) (hm : ML w) :
    Calls Tryd.prog 16 #[.slice a L.length c] w fun e w' => e = .returned (.bool (chkC L)) ∧ Below w.heap.size w w' := by
  obtain ⟨n, hn⟩ : ∃ n, L.length = n := ⟨_, rfl⟩
  have OW := Lib.hid hown
  have HN := Lib.hid hn
  have HR : Hid (chkC L = (chkFrom 0 L && decide (n ≤ 8))) := Lib.hid (by unfold chkC; rw [hn])
  generalize chkC L = r at *
  have RG := Lib.hid (fun (c : Cas) (hc : c ∈ L) (w2 : World) (b : Below w.heap.size w w2) => cright_any c (hs c hc) w2 (hm.below b))
  rw [hn]
  rw [hn] at lim
  clear hown hn hs hm
  go_enter Tryd.func16, Tryd.ntmps16
  go_wp2_with fail
  go_loopw [3, 8] (fun l i wr => ∃ (k : Nat) (last : Int), k ≤ n ∧ i = .int .i64 k ∧ l = .int .i64 last ∧ chkFrom 0 L = chkFrom last (L.drop k) ∧ Below w.heap.size w wr) (fun _ i _ => n - (intOf i).toNat)
  case atStart => exact ⟨0, 0, Nat.zero_le _, rfl, rfl, rfl, Below.refl _ _⟩
  case round =>
    obtain ⟨k, last, hk, rfl, rfl, hc, hb⟩ := hrel
    have HC := Lib.hid hc
    have WB := Lib.hid hb
    by_cases hkn : k < n
    · have hkn' : (k : Int) < n := by omega
      obtain ⟨g, rfl, _, _, m0, m1, m2, m3, m4, m5, m6, m7, m8⟩ := (OW.out.below hb).nine k (by rw [HN.out]; exact hkn)
      have hkl : k < L.length := by rw [HN.out]; exact hkn
      have hdr : L.drop k = L[k] :: L.drop (k + 1) := List.drop_eq_getElem_cons hkl
      have hmem := List.getElem_mem hkl
      rw [List.getElem?_eq_getElem hkl, Option.getD_some] at m0 m1 m2 m3 m4 m5 m6 m7 m8
      have RX := RG.out L[k] hmem
      rw [hdr] at hc
      generalize L[k] = x at *
      have HX : Hid (chkFrom 0 L = (rightC x && decide (last < x.acc) && chkFrom x.acc (L.drop (k + 1)))) := Lib.hid hc
      have BX := Lib.hid (fun w2 b => box_later (w := wr) (w2 := w2) x b)
      have BA : Hid (Below w.heap.size w (wr.alloc x.obj)) := Lib.hid (hb.trans (((Below.refl _ _).alloc (Nat.le_refl _) _).mono hb.size))
      unfold Cas.agg at RX
      unfold Cas.obj at BX BA
      have RX := Lib.hid RX
      clear hc hb hdr hmem hkl
      cases hrx : rightC x
      · as_aux_lemma =>
          have RO : Hid (r = false) := Lib.hid (by rw [HR.out, HX.out, hrx]; rfl)
          rw [hrx] at RX
          clear HR HX hrx
          go_wp2_with (go_at_call 28; (with_reducible refine (RX.out _ BA.out).mono ?_); rintro e w3 ⟨rfl, b3⟩; obtain ⟨⟨y0, y1, y2, y3, y4, y5, y6, y7, y8⟩, yf⟩ := BX.out w3 b3; have B3 := Lib.hid (BA.out.trans (b3.mono BA.out.size)); clear b3)
          go_ret
          exact ⟨ret_bool (by rw [RO.out]), B3.out⟩
      · rw [hrx] at RX
        by_cases hl : last < x.acc
        · as_aux_lemma =>
            have hl' : ¬ x.acc ≤ last := by omega
            have HS : Hid (chkFrom 0 L = chkFrom x.acc (L.drop (k + 1))) := Lib.hid (by rw [HX.out, hrx]; simp [hl])
            clear HX hrx hl
            go_wp2_with (go_at_call 28; (with_reducible refine (RX.out _ BA.out).mono ?_); rintro e w3 ⟨rfl, b3⟩; obtain ⟨⟨y0, y1, y2, y3, y4, y5, y6, y7, y8⟩, yf⟩ := BX.out w3 b3; have B3 := Lib.hid (BA.out.trans (b3.mono BA.out.size)); clear b3)
            go_roundw
            case rel => exact ⟨k + 1, x.acc, by omega, by go_num, rfl, HS.out, B3.out⟩
            case measure => simp [intOf]; omega
        · as_aux_lemma =>
            have hl' : x.acc ≤ last := by omega
            have RO : Hid (r = false) := Lib.hid (by rw [HR.out, HX.out]; simp [hl])
            clear HR HX hrx hl
            go_wp2_with (go_at_call 28; (with_reducible refine (RX.out _ BA.out).mono ?_); rintro e w3 ⟨rfl, b3⟩; obtain ⟨⟨y0, y1, y2, y3, y4, y5, y6, y7, y8⟩, yf⟩ := BX.out w3 b3; have B3 := Lib.hid (BA.out.trans (b3.mono BA.out.size)); clear b3)
            go_ret
            exact ⟨ret_bool (by rw [RO.out]), B3.out⟩
    · as_aux_lemma =>
        have hkn' : ¬ ((k : Int) < n) := by omega
        obtain rfl : k = n := by omega
        have RO : Hid (r = decide ((k : Int) ≤ 8)) := Lib.hid (by
          rw [HR.out, HC.out, List.drop_eq_nil_of_le (by rw [HN.out]; exact Nat.le_refl _)]
          simp only [chkFrom, Bool.true_and]
          rw [Bool.eq_iff_iff]
          simp
          omega)
        clear hc hb HR
        go_wp2_with fail
        go_ret
        exact ⟨ret_bool (by rw [RO.out]), WB.out⟩
end Go.Proofs.YtcidllckmidkoaaDoor
