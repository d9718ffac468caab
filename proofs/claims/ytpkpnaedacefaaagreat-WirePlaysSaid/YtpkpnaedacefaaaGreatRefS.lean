/- The document's layer 2 (package ostinatoref1): Stuff, Unstuff, Next, walked by hand. -/
import Derived.Test.YtpkpnaedacefaaaGreatStuffA
import Derived.Test.YtpkpnaedacefaaaGreatFrameA
namespace Go.Proofs.YtpkpnaedacefaaaGreat.RefW
set_option linter.unusedVariables false
set_option linter.unusedSimpArgs false
open Go Go.RowKit Go.Proofs.YtpkpnaedacefaaaGreat.Lib Go.Proofs.YtpkpnaedacefaaaGreat.Bits Go.Proofs.YtpkpnaedacefaaaGreat.BitsW Go.Proofs.YtpkpnaedacefaaaGreat.StuffW Go.Proofs.YtpkpnaedacefaaaGreat.Frame Go.Proofs.YtpkpnaedacefaaaGreat.PrintMore

/-- A bit's sign as a number; a run of none has 0. -/
def sg0 (n : Nat) (b : Bool) : Int := if n = 0 then 0 else ((sg b).toNat : Int)
theorem run_end (w : World) (p q : Value) (m z : Int) :
    ((w.alloc (.cells #[p, q] 121)).alloc (.cells #[.int .i64 m, .int .u8 z] 121)).cell? ⟨w.heap.size + 1, 0, none⟩ = some (.int .i64 m) ∧ ((w.alloc (.cells #[p, q] 121)).alloc (.cells #[.int .i64 m, .int .u8 z] 121)).cell? ⟨w.heap.size + 1, 1, none⟩ = some (.int .u8 z) ∧
    Below w.heap.size w ((w.alloc (.cells #[p, q] 121)).alloc (.cells #[.int .i64 m, .int .u8 z] 121)) := by
  have H2 := Blk.new (w.alloc (.cells #[p, q] 121)) [.int .i64 m, .int .u8 z] 121
  have e : (w.alloc (.cells #[p, q] 121)).heap.size = w.heap.size + 1 := by simp
  rw [e] at H2
  exact ⟨H2.cell 0, H2.cell 1, ((Below.refl w.heap.size w).alloc (Nat.le_refl _) _).alloc (by simp) _⟩
set_option maxRecDepth 100000 in
set_option maxHeartbeats 6400000 in
theorem rwith_calls (k : Nat) (b c : Bool) (x y : Int) (hk : k ≤ 1000000) (hx : x = sg0 k b) (hy : (y == 49) = c) (w : World) :
    Calls Tryz.prog 97 #[.agg #[.int .i64 k, .int .u8 x], .int .u8 y] w fun e w' => e = .returned (.agg #[.int .i64 ((runK k b c : Nat) : Int), .int .u8 ((sg c).toNat : Int)]) ∧ Below w.heap.size w w' := by
  have hu := Tryz.underlying121
  have u1 : (0 : Int) ≤ (k : Int) := by omega
  have u2 : (k : Int) ≤ 1000000 := by omega
  obtain ⟨t, ht⟩ : ∃ t, t = decide (0 < k) := ⟨_, rfl⟩
  obtain ⟨q, hq⟩ : ∃ q, q = decide (x = ((sg c).toNat : Int)) := ⟨_, rfl⟩
  have hm : ((runK k b c : Nat) : Int) = if t && q then (k : Int) + 1 else 1 := by
    subst ht hq hx
    unfold runK sg0
    by_cases h0 : k = 0
    · subst h0; simp
    · rw [if_neg h0]; cases b <;> cases c <;> simp [sg, Nat.pos_of_ne_zero h0]
  have hm' := hid hm
  clear hm
  generalize runK k b c = m at *
  have t1 : ((0 : Int) < (k : Int)) = (t = true) := by rw [ht]; simp
  have t2 : decide ((0 : Int) < (k : Int)) = t := by rw [ht]; simp
  have t3 : (0 < k) = (t = true) := by rw [ht]; simp
  have t4 : decide (0 < k) = t := by rw [ht]
  have HX := hid hx
  clear hx ht
  cases c
  · have hy' : ¬ y = 49 := by simpa using hy
    have q1 : (x == 48) = q := by rw [hq]; rfl
    clear hq
    cases t <;> cases q
    all_goals
      go_enter Tryz.func97, Tryz.ntmps97
      go_wp2_with fail
      obtain ⟨c0, c1, hB⟩ := run_end w (.int .i64 k) (.int .u8 x) m 48
      have hmm := hm'.out
      simp only [Bool.false_and, Bool.true_and, Bool.and_false, Bool.and_true, Bool.false_eq_true, if_true, if_false] at hmm
      rw [hmm] at c0 c1 hB ⊢
      refine bodyPost_ret (by simp [results, Tryz.results97, go_sem, c0, c1]; rfl) rfl ⟨rfl, hB⟩
  · obtain rfl : y = 49 := by simpa using hy
    have q1 : (x == 49) = q := by rw [hq]; rfl
    clear hq
    cases t <;> cases q
    all_goals
      go_enter Tryz.func97, Tryz.ntmps97
      go_wp2_with fail
      obtain ⟨c0, c1, hB⟩ := run_end w (.int .i64 k) (.int .u8 x) m 49
      have hmm := hm'.out
      simp only [Bool.false_and, Bool.true_and, Bool.and_false, Bool.and_true, Bool.false_eq_true, if_true, if_false] at hmm
      rw [hmm] at c0 c1 hB ⊢
      refine bodyPost_ret (by simp [results, Tryz.results97, go_sem, c0, c1]; rfl) rfl ⟨rfl, hB⟩
theorem rother_calls (b : Bool) (w : World) : Calls Tryz.prog 98 #[.int .u8 ((sg b).toNat : Int)] w fun e w' => e = .returned (.int .u8 ((sg (!b)).toNat : Int)) ∧ w = w' := by
  cases b
  all_goals
    go_enter Tryz.func98, Tryz.ntmps98
    simp only [sg, Bool.false_eq_true, if_false, if_true, Bool.not_true, Bool.not_false]
    go_wp2_with fail
    go_ret
    exact ⟨rfl, rfl⟩
theorem sg0_of (n : Nat) (b : Bool) (h : n ≠ 0) : sg0 n b = ((sg b).toNat : Int) := if_neg h
theorem byte_bit (s : ByteArray) (k : Nat) (h : k < s.size) (hl : k < (bitsOf s).length) : (((s[k]'h).toNat : Int) == 49) = (bitsOf s)[k] := by
  rw [bit_at s k h, List.getD_eq_getElem?_getD, List.getElem?_eq_getElem hl]; rfl

set_option maxRecDepth 100000 in
set_option maxHeartbeats 6400000 in
theorem rstuff_calls (s : ByteArray) (hs : s.size ≤ 100000) (w : World) :
    Calls Tryz.prog 70 #[.string s] w fun e w' => e = .returned (.string (B (stuff (bitsOf s)))) ∧ Below w.heap.size w w' := by
  obtain ⟨i0, hi, hz0, hz1, hz2⟩ := info_parts info_u8
  have hsz := bitsOf_length s
  have hu := Tryz.underlying121
  have hb1 := Blk.new w [.int .i64 0, .int .u8 0] 121
  have hB0 := (Below.refl w.heap.size w).alloc (Nat.le_refl _) (.cells #[.int .i64 0, .int .u8 0] 121)
  go_enter Tryz.func70, Tryz.ntmps70
  go_wp2_with fail
  obtain ⟨g, hg⟩ : ∃ g, g = w.heap.size := ⟨_, rfl⟩
  have hge : w.heap.size ≤ g := by omega
  have hge2 := hid hge
  rw [← hg] at hb1
  have eg : w.heap.size = g := hg.symm
  generalize w.alloc (.cells #[.int .i64 0, .int .u8 0] 121) = w2 at *
  rw [eg]
  clear hg eg hge
  go_loopw [3, 5] (fun v i wr => ∃ (k : Nat) (acc : List Bool) (n : Nat) (b : Bool), k ≤ s.size ∧ i = .int .i64 k ∧ OwnB wr w.heap.size 5 v (acc.map sg) ∧
      Blk wr g 121 [.int .i64 n, .int .u8 (sg0 n b)] ∧ n ≤ 4 ∧ acc.length ≤ 2 * k ∧
      Hd (stuff (bitsOf s) = acc ++ stuffL n b ((bitsOf s).drop k)) ∧ Below w.heap.size w wr) (fun _ i _ => s.size - (intOf i).toNat)
  case atStart => exact ⟨0, [], 0, false, Nat.zero_le _, rfl, OwnB.nil _ _ _, hb1, Nat.zero_le _, Nat.le_refl _, ⟨by simp [stuff]⟩, hB0⟩
  case round =>
    obtain ⟨k, acc, n, b, hk, rfl, hown, hbk, hn4, hal, HE, hBk⟩ := hrel
    clear hb1 hB0
    by_cases hlt : k < s.size
    · have hl : k < (bitsOf s).length := by omega
      have hk0 : 0 ≤ (k : Int) := Int.natCast_nonneg _
      have HD := hid (show (bitsOf s).drop k = (bitsOf s)[k] :: (bitsOf s).drop (k + 1) from List.drop_eq_getElem_cons hl)
      have hbit := byte_bit s k hlt hl
      generalize hcc : (bitsOf s)[k] = c at *
      have HCC := hid hcc
      clear hcc
      have HW := hid (fun (W : World) => rwith_calls n b c (sg0 n b) (((s[k]'hlt).toNat : Int)) (by omega) rfl hbit W)
      have HBIT := hid hbit
      clear hbit
      generalize hy : ((s[k]'hlt).toNat : Int) = y at *
      have HK5 := hid (runK_four n b c hn4)
      have hpos := hid (runK_pos n b c)
      generalize hX : sg0 n b = x at *
      have HX := hid hX
      clear hX
      generalize hm : runK n b c = m at *
      have HM := hid hm
      clear hm
      generalize hsgc : ((sg c).toNat : Int) = z at *
      have HSG := hid hsgc
      clear hsgc
      go_wp2_with fail
      refine region_text (by kernel_rfl) (by kernel_rfl) (fun b _ W => (OwnB W w.heap.size 5 u3 (acc.map sg) ∧ Below w.heap.size w W) ∧ ∃ cs, Blk W g 121 cs ∧ cs.length = 2 ∧ (b 5 = false → cs = [.int .i64 n, .int .u8 x]) ∧ (b 5 = true → cs = [.int .i64 m, .int .u8 z])) ?_ ?_
      · exact ⟨⟨hown.drew, hBk.drew⟩, _, hbk.drew, rfl, fun _ => rfl, fun h => by cases h⟩
      refine t_run (.agg #[.int .i64 n, .int .u8 x]) (fun _ => rfl) (fun b γ W h hb _ hf => ⟨W, ?_, h⟩) ?_
      · obtain ⟨cs, k1, k2, k3, k4⟩ := h.2
        obtain rfl := k3 (hf 5 _ rfl (by decide))
        have c0 := k1.cell 0
        have c1 := k1.cell 1
        simp only [List.getElem?_cons_zero, List.getElem?_cons_succ] at c0 c1
        go_simp
      iterate 3 ((try simp only [Act.put, List.setIfInBounds_toArray, List.set_cons_zero, List.set_cons_succ]); first
        | (refine t_pure ?_ (fun _ => rfl) (fun b γ W h => h) (fun b γ W h _ => ?_) ?_; rotate_left; · (go_simp; rfl)))
      (try simp only [Act.put, List.setIfInBounds_toArray, List.set_cons_zero, List.set_cons_succ])
      refine t_call (.agg #[.int .i64 m, .int .u8 z]) (fun _ => rfl) (f := 97) (args := #[.agg #[.int .i64 n, .int .u8 x], .int .u8 y]) (fun b γ W h _ => by go_simp) (fun b γ W h _ => (HW.out W).mono (fun e w2 h2 => ⟨h2.1, ⟨h.1.1.below h2.2, h.1.2.trans (h2.2.mono h.1.2.size)⟩, h.2.choose, h.2.choose_spec.1.below h2.2, h.2.choose_spec.2⟩)) ?_
      (try simp only [Act.put, List.setIfInBounds_toArray, List.set_cons_zero, List.set_cons_succ])
      refine t_store (fun _ => rfl) (fun b γ W h hb _ _ => ?_) ?_
      · obtain ⟨⟨s1, s2⟩, cs, k1, k2, k3, k4⟩ := h
        obtain rfl := k3 hb
        have c0 := k1.cell 0
        have c1 := k1.cell 1
        have f0 := k1.frozen 0
        have f1 := k1.frozen 1
        simp only [List.getElem?_cons_zero, List.getElem?_cons_succ] at c0 c1
        refine ⟨(W.setCell ⟨g, 0, none⟩ (.int .i64 m)).setCell ⟨g, 1, none⟩ (.int .u8 z), by go_simp, ⟨?_, ?_⟩, ?_⟩
        · have hno := s1.ne k1 (by decide)
          exact (s1.set 0 _ hno).set 1 _ hno
        · exact (s2.setCell (by exact hge2.out) _).setCell (by exact hge2.out) _
        · exact ⟨_, (k1.set 0 _).set 1 _, rfl, fun h => by simp [up] at h, fun _ => rfl⟩
      refine t_end ?_
      intro bq gq w5 hall hS
      obtain ⟨⟨hown, hBk⟩, cs, hbk, _, _, k4⟩ := hS
      obtain rfl := k4 (hall 5 (by decide))
      (try simp only [Act.put, List.setIfInBounds_toArray, List.set_cons_zero, List.set_cons_succ])
      have c0 := hbk.cell 0
      have c1 := hbk.cell 1
      simp only [List.getElem?_cons_zero, List.getElem?_cons_succ] at c0 c1
      have HL := hid (show (acc.map sg).length ≤ 200000 by rw [List.length_map]; omega)
      rw [← HSG.out] at c1
      clear hall k4
      by_cases h5 : m = 5
      · have H5 := hid h5
        have hx : ((m : Int) == 5) = true := by rw [h5]; rfl
        have hx2 : ((m : Int) = 5) = True := eq_true (by omega)
        clear h5
        go_wp2_with (first | (at_builtin; refine app_byte rfl (.tmp 18) (.tmp 21) 70 rfl w.heap.size 5 i0 Tryz.underlying70 hi hz0 hz1 hz2 _ _ rfl hown (sg c) _ rfl rfl (by have := HL.out; omega) hBk.size ?_; intro v4 w4 hown4 hgrow4; have hne4 := hown.ne hbk (by decide); have hbk4 := (hbk.alloc (.cells #[.int .u8 (((sg c)).toNat : Int)] 5)).grown hgrow4 (fun h => hne4 h.symm); have hB4 : Below w.heap.size w w4 := (hown.alloc (.cells #[.int .u8 (((sg c)).toNat : Int)] 5)).grow (hBk.alloc hBk.size _) hgrow4 (Nat.le_refl _) (by have := hBk.size; simp; omega); clear hown hbk hBk hgrow4 hne4 c0 c1; have hown := hown4; have hbk := hbk4; have hBk := hB4; clear hown4 hbk4 hB4; have c0 := hbk.cell 0; have c1 := hbk.cell 1; have f0 := hbk.frozen 0; have f1 := hbk.frozen 1; simp only [List.getElem?_cons_zero, List.getElem?_cons_succ] at c0 c1; try rw [← HSG.out] at c1))
        refine (rother_calls c _).mono ?_
        rintro e w6 ⟨rfl, rfl⟩
        have HL2 := hid (show (acc.map sg ++ [sg c]).length ≤ 200001 by have := HL.out; simp at this ⊢; omega)
        have hno := hown.ne hbk (by decide)
        have hown' := (hown.set 0 (.int .i64 1) hno).set 1 (.int .u8 ((sg (!c)).toNat : Int)) hno
        have hBk' := (hBk.setCell (p := ⟨g, 0, none⟩) (by exact hge2.out) (.int .i64 1)).setCell (p := ⟨g, 1, none⟩) (by exact hge2.out) (.int .u8 ((sg (!c)).toNat : Int))
        have hbk' := (hbk.set 0 (.int .i64 1)).set 1 (.int .u8 ((sg (!c)).toNat : Int))
        have c0' := hbk'.cell 0
        have c1' := hbk'.cell 1
        simp only [List.set_cons_zero, List.set_cons_succ, List.getElem?_cons_zero, List.getElem?_cons_succ] at hbk' c0' c1'
        clear hown hbk hBk hno
        have hown := hown'
        have hbk := hbk'
        have hBk := hBk'
        clear hown' hbk' hBk'
        go_wp2_with (at_builtin; (refine app_byte rfl (.tmp 30) (.tmp 33) 70 rfl w.heap.size 5 i0 Tryz.underlying70 hi hz0 hz1 hz2 _ _ rfl hown (sg (!c)) _ rfl (congrArg (fun n : Nat => Value.slice (some ⟨n, 0, none⟩) 1 1) (show w4.heap.size = _ by simp)) (by have := HL2.out; omega) hBk.size ?_; intro v4 w4 hown4 hgrow4; have hne4 := hown.ne hbk (by decide); have hbk4 := (hbk.alloc (.cells #[.int .u8 (((sg (!c))).toNat : Int)] 5)).grown hgrow4 (fun h => hne4 h.symm); have hB4 : Below w.heap.size w w4 := (hown.alloc (.cells #[.int .u8 (((sg (!c))).toNat : Int)] 5)).grow (hBk.alloc hBk.size _) hgrow4 (Nat.le_refl _) (by have := hBk.size; simp at this ⊢; omega)))
        go_roundw
        case rel =>
          have e0 := HE.out
          rw [HD.out, stuffL, HM.out, if_pos H5.out] at e0
          exact ⟨k + 1, acc ++ [c] ++ [!c], 1, !c, by omega, by go_num, by simpa using hown4, hbk4, by omega, by simp; omega, ⟨by rw [e0]; simp⟩, hB4⟩
        case measure => simp [intOf]; omega
      · have H5 := hid h5
        have hx : ((m : Int) == 5) = false := beq_eq_false_iff_ne.2 (by omega)
        have hx2 : ((m : Int) = 5) = False := eq_false (by omega)
        clear h5
        go_wp2_with (first | (at_builtin; refine app_byte rfl (.tmp 18) (.tmp 21) 70 rfl w.heap.size 5 i0 Tryz.underlying70 hi hz0 hz1 hz2 _ _ rfl hown (sg c) _ rfl rfl (by have := HL.out; omega) hBk.size ?_; intro v4 w4 hown4 hgrow4; have hne4 := hown.ne hbk (by decide); have hbk4 := (hbk.alloc (.cells #[.int .u8 (((sg c)).toNat : Int)] 5)).grown hgrow4 (fun h => hne4 h.symm); have hB4 : Below w.heap.size w w4 := (hown.alloc (.cells #[.int .u8 (((sg c)).toNat : Int)] 5)).grow (hBk.alloc hBk.size _) hgrow4 (Nat.le_refl _) (by have := hBk.size; simp; omega); clear hown hbk hBk hgrow4 hne4 c0 c1; have hown := hown4; have hbk := hbk4; have hBk := hB4; clear hown4 hbk4 hB4; have c0 := hbk.cell 0; have c1 := hbk.cell 1; have f0 := hbk.frozen 0; have f1 := hbk.frozen 1; simp only [List.getElem?_cons_zero, List.getElem?_cons_succ] at c0 c1; try rw [← HSG.out] at c1))
        go_roundw
        case rel =>
          have e0 := HE.out
          rw [HD.out, stuffL, HM.out, if_neg H5.out] at e0
          have k5 := HK5.out H5.out
          exact ⟨k + 1, acc ++ [c], m, c, by omega, by go_num, by simpa using hown, by rw [sg0_of m c hpos.out, HSG.out]; exact hbk, k5.2, by simp; omega, ⟨by rw [e0]; simp⟩, hBk⟩
        case measure => simp [intOf]; omega
    · have e : k = s.size := by omega
      subst e
      have hend : (bitsOf s).drop s.size = [] := List.drop_of_length_le (by omega)
      have e0 := HE.out
      rw [hend, stuffL, List.append_nil] at e0
      have E0 := hid e0
      clear e0 hend hbk
      go_wp2_with (with_reducible refine conv_own rfl (.tmp 35) 70 9 5 rfl Tryz.underlying70 Tryz.underlying5 Tryz.underlying9 w.heap.size 5 _ _ hown rfl ?_)
      go_ret
      rw [E0.out]
      exact ⟨ret_text rfl, hBk⟩

set_option maxRecDepth 100000 in
set_option maxHeartbeats 6400000 in
theorem runstuff_calls (s : ByteArray) (hs : s.size ≤ 100000) (w : World) :
    Calls Tryz.prog 93 #[.string s] w fun e w' => e = .returned (.tuple #[.string (B (unstuffL 0 false 0 (bitsOf s)).1), .int .i64 (atI (unstuffL 0 false 0 (bitsOf s)).2.2.2)]) ∧ Below w.heap.size w w' := by
  obtain ⟨i0, hi, hz0, hz1, hz2⟩ := info_parts info_u8
  have hsz := bitsOf_length s
  have hu := Tryz.underlying121
  have hb1 := Blk.new w [.int .i64 0, .int .u8 0] 121
  have hB0 := (Below.refl w.heap.size w).alloc (Nat.le_refl _) (.cells #[.int .i64 0, .int .u8 0] 121)
  go_enter Tryz.func93, Tryz.ntmps93
  go_wp2_with fail
  obtain ⟨g, hg⟩ : ∃ g, g = w.heap.size := ⟨_, rfl⟩
  have hge : w.heap.size ≤ g := by omega
  have hge2 := hid hge
  rw [← hg] at hb1
  have eg : w.heap.size = g := hg.symm
  generalize w.alloc (.cells #[.int .i64 0, .int .u8 0] 121) = w2 at *
  rw [eg]
  clear hg eg hge
  go_loopw [4, 6] (fun v i wr => ∃ (k : Nat) (acc : List Bool) (n : Nat) (b : Bool), k ≤ s.size ∧ i = .int .i64 k ∧ OwnB wr w.heap.size 5 v (acc.map sg) ∧
      Blk wr g 121 [.int .i64 n, .int .u8 (sg0 n b)] ∧ n ≤ 5 ∧ acc.length ≤ k ∧
      Hd (unstuffL 0 false 0 (bitsOf s) = (acc ++ (unstuffL n b k ((bitsOf s).drop k)).1, (unstuffL n b k ((bitsOf s).drop k)).2)) ∧ Below w.heap.size w wr) (fun _ i _ => s.size - (intOf i).toNat)
  case atStart => exact ⟨0, [], 0, false, Nat.zero_le _, rfl, OwnB.nil _ _ _, hb1, Nat.zero_le _, Nat.le_refl _, ⟨by simp⟩, hB0⟩
  case round =>
    obtain ⟨k, acc, n, b, hk, rfl, hown, hbk, hn5, hal, HE, hBk⟩ := hrel
    clear hb1 hB0
    by_cases hlt : k < s.size
    · have hl : k < (bitsOf s).length := by omega
      have hk0 : 0 ≤ (k : Int) := Int.natCast_nonneg _
      have HD := hid (show (bitsOf s).drop k = (bitsOf s)[k] :: (bitsOf s).drop (k + 1) from List.drop_eq_getElem_cons hl)
      have hbit := byte_bit s k hlt hl
      generalize hcc : (bitsOf s)[k] = c at *
      have HW := hid (fun (W : World) => rwith_calls n b c (sg0 n b) (((s[k]'hlt).toNat : Int)) (by omega) rfl hbit W)
      clear hbit hcc
      generalize hy : ((s[k]'hlt).toNat : Int) = y at *
      have HK6 := hid (fun h => runK_le n b c hn5 h)
      have HK7 := hid (show n = 5 ∧ b = c → runK n b c = 6 by rintro ⟨rfl, rfl⟩; rw [runK_same _ _ (by omega)])
      have hpos := hid (runK_pos n b c)
      generalize hX : sg0 n b = x at *
      clear hX
      generalize hm : runK n b c = m at *
      have HM := hid hm
      clear hm
      generalize hsgc : ((sg c).toNat : Int) = z at *
      have HSG := hid hsgc
      clear hsgc
      have d0 := hbk.cell 0
      simp only [List.getElem?_cons_zero] at d0
      obtain ⟨q, hq⟩ : ∃ q : Bool, q = decide (n = 5) := ⟨_, rfl⟩
      have hq1 : ((n : Int) == 5) = q := by rw [hq, Bool.eq_iff_iff]; simp; omega
      have hq2 : ((n : Int) = 5) = (q = true) := by rw [hq]; simp; omega
      have HQ := hid hq
      clear hq
      go_wp2_with fail
      refine region_text (by kernel_rfl) (by kernel_rfl) (fun b _ W => (OwnB W w.heap.size 5 u4 (acc.map sg) ∧ Below w.heap.size w W) ∧ ∃ cs, Blk W g 121 cs ∧ cs.length = 2 ∧ (b 5 = false → cs = [.int .i64 n, .int .u8 x]) ∧ (b 5 = true → cs = [.int .i64 m, .int .u8 z])) ?_ ?_
      · exact ⟨⟨hown.drew, hBk.drew⟩, _, hbk.drew, rfl, fun _ => rfl, fun h => by cases h⟩
      refine t_run (.agg #[.int .i64 n, .int .u8 x]) (fun _ => rfl) (fun b γ W h hb _ hf => ⟨W, ?_, h⟩) ?_
      · obtain ⟨cs, k1, k2, k3, k4⟩ := h.2
        obtain rfl := k3 (hf 5 _ rfl (by decide))
        have c0 := k1.cell 0
        have c1 := k1.cell 1
        simp only [List.getElem?_cons_zero, List.getElem?_cons_succ] at c0 c1
        go_simp
      iterate 3 ((try simp only [Act.put, List.setIfInBounds_toArray, List.set_cons_zero, List.set_cons_succ]); first
        | (refine t_pure ?_ (fun _ => rfl) (fun b γ W h => h) (fun b γ W h _ => ?_) ?_; rotate_left; · (go_simp; rfl)))
      (try simp only [Act.put, List.setIfInBounds_toArray, List.set_cons_zero, List.set_cons_succ])
      refine t_call (.agg #[.int .i64 m, .int .u8 z]) (fun _ => rfl) (f := 97) (args := #[.agg #[.int .i64 n, .int .u8 x], .int .u8 y]) (fun b γ W h _ => by go_simp) (fun b γ W h _ => (HW.out W).mono (fun e w2 h2 => ⟨h2.1, ⟨h.1.1.below h2.2, h.1.2.trans (h2.2.mono h.1.2.size)⟩, h.2.choose, h.2.choose_spec.1.below h2.2, h.2.choose_spec.2⟩)) ?_
      (try simp only [Act.put, List.setIfInBounds_toArray, List.set_cons_zero, List.set_cons_succ])
      refine t_store (fun _ => rfl) (fun b γ W h hb _ _ => ?_) ?_
      · obtain ⟨s1, cs, k1, k2, k3, k4⟩ := h
        obtain rfl := k3 hb
        have c0 := k1.cell 0
        have c1 := k1.cell 1
        have f0 := k1.frozen 0
        have f1 := k1.frozen 1
        simp only [List.getElem?_cons_zero, List.getElem?_cons_succ] at c0 c1
        refine ⟨(W.setCell ⟨g, 0, none⟩ (.int .i64 m)).setCell ⟨g, 1, none⟩ (.int .u8 z), by go_simp, ?_, ?_⟩
        · have hno := s1.1.ne k1 (by decide)
          exact ⟨(s1.1.set 0 _ hno).set 1 _ hno, (s1.2.setCell (by exact hge2.out) _).setCell (by exact hge2.out) _⟩
        · exact ⟨_, (k1.set 0 _).set 1 _, rfl, fun h => by simp [up] at h, fun _ => rfl⟩
      refine t_end ?_
      intro bq gq w5 hall hS
      obtain ⟨⟨hown, hBk⟩, cs, hbk, _, _, k4⟩ := hS
      obtain rfl := k4 (hall 5 (by decide))
      (try simp only [Act.put, List.setIfInBounds_toArray, List.set_cons_zero, List.set_cons_succ])
      have c0 := hbk.cell 0
      have c1 := hbk.cell 1
      simp only [List.getElem?_cons_zero, List.getElem?_cons_succ] at c0 c1
      clear hall k4
      have HL := hid (show (acc.map sg).length ≤ 200000 by rw [List.length_map]; omega)
      rw [← HSG.out] at c1
      by_cases h6 : n = 5 ∧ b = c
      · have hm6 := HK7.out h6
        have e6 : ((m : Int) == 6) = true := beq_iff_eq.2 (by omega)
        have e7 : ((m : Int) = 6) = True := eq_true (by omega)
        have H6 := hid h6
        clear h6 hm6
        go_wp2_with (with_reducible refine conv_own rfl (.tmp 26) 70 9 5 rfl Tryz.underlying70 Tryz.underlying5 Tryz.underlying9 w.heap.size 5 _ _ hown rfl ?_)
        have e0 := HE.out
        rw [HD.out, unstuffL, if_pos H6.out] at e0
        rw [e0]
        refine bodyPost_ret (v := .tuple #[.string (B acc), .int .i64 k]) (by simp [results, Tryz.results93, go_sem, B]) rfl ⟨by simp [atI], hBk⟩
      · have hm6 := HK6.out h6
        have e6 : ((m : Int) == 6) = false := beq_eq_false_iff_ne.2 (by omega)
        have e7 : ((m : Int) = 6) = False := eq_false (by omega)
        have H6 := hid h6
        have HM6 := hid hm6
        clear h6 hm6
        cases q
        · go_wp2_with (at_builtin; refine app_byte rfl (.tmp 31) (.tmp 34) 70 rfl w.heap.size 5 i0 Tryz.underlying70 hi hz0 hz1 hz2 _ _ rfl hown (sg c) _ rfl rfl (by have := HL.out; omega) hBk.size ?_; intro v4 w4 hown4 hgrow4; have hne4 := hown.ne hbk (by decide); have hbk4 := (hbk.alloc (.cells #[.int .u8 (((sg c)).toNat : Int)] 5)).grown hgrow4 (fun h => hne4 h.symm); have hB4 : Below w.heap.size w w4 := (hown.alloc (.cells #[.int .u8 (((sg c)).toNat : Int)] 5)).grow (hBk.alloc hBk.size _) hgrow4 (Nat.le_refl _) (by have := hBk.size; simp; omega))
          go_roundw
          case rel =>
            have e0 := HE.out
            have hn : ¬ n = 5 := by have := HQ.out; simpa using this.symm
            rw [HD.out, unstuffL, if_neg H6.out, if_neg hn, HM.out] at e0
            exact ⟨k + 1, acc ++ [c], m, c, by omega, by go_num, by simpa using hown4, by rw [sg0_of m c hpos.out, HSG.out]; exact hbk4, HM6.out.2, by simp; omega, ⟨by rw [e0]; simp⟩, hB4⟩
          case measure => simp [intOf]; omega
        · go_wp2_with fail
          go_roundw
          case rel =>
            have e0 := HE.out
            have hn : n = 5 := by have := HQ.out; simpa using this.symm
            rw [HD.out, unstuffL, if_neg H6.out, if_pos hn, HM.out] at e0
            exact ⟨k + 1, acc, m, c, by omega, by go_num, hown, by rw [sg0_of m c hpos.out, HSG.out]; exact hbk, HM6.out.2, by omega, ⟨e0⟩, hBk⟩
          case measure => simp [intOf]; omega
    · have e : k = s.size := by omega
      subst e
      have hend : (bitsOf s).drop s.size = [] := List.drop_of_length_le (by omega)
      have e0 := HE.out
      rw [hend, unstuffL, List.append_nil] at e0
      have E0 := hid e0
      clear e0 hend hbk
      go_wp2_with (with_reducible refine conv_own rfl (.tmp 36) 70 9 5 rfl Tryz.underlying70 Tryz.underlying5 Tryz.underlying9 w.heap.size 5 _ _ hown rfl ?_)
      rw [E0.out]
      refine bodyPost_ret (v := .tuple #[.string (B acc), .int .i64 (-1)]) (by simp [results, Tryz.results93, go_sem, B]) rfl ⟨by simp [atI], hBk⟩

set_option maxRecDepth 100000 in
set_option maxHeartbeats 6400000 in
theorem rnext_calls (s : ByteArray) (hs : s.size ≤ 100000) (w : World) :
    Calls Tryz.prog 92 #[.string s] w fun e w' => e = .returned (.int .i64 (nextL (bitsOf s))) ∧ Below w.heap.size w w' := by
  have hsz := bitsOf_length s
  have hu := Tryz.underlying121
  have HN := hid (next_val (bitsOf s))
  have HR := hid (unstuff_run (bitsOf s) 0 false 0)
  have HU := hid (fun (W : World) => runstuff_calls s hs W)
  generalize nextL (bitsOf s) = N at *
  generalize unstuffL 0 false 0 (bitsOf s) = u at *
  obtain ⟨u1, u2, u3, u4⟩ := u
  simp only at HN HR HU
  go_enter Tryz.func92, Tryz.ntmps92
  go_wp2_with fail
  refine (HU.out _).mono ?_
  rintro e w1 ⟨rfl, hb⟩
  cases u4 with
  | some j =>
    have e1 : atI (some j) = (j : Int) := rfl
    have e2 : (0 : Int) ≤ (j : Int) := by omega
    have hN := HN.out
    rw [if_pos (show (some j).isSome = true from rfl)] at hN
    rw [e1]
    have HN2 := hid hN
    clear HN HR HU hN
    go_wp2_with fail
    go_ret
    rw [HN2.out]
    exact ⟨rfl, hb⟩
  | none =>
    have e1 : atI none = (-1 : Int) := rfl
    have hN := HN.out
    have hR := HR.out rfl
    rw [if_neg (by simp)] at hN
    rw [e1]
    have HN2 := hid hN
    have HR2 := hid hR
    clear HU hN hR HN HR
    have hb1 := Blk.new w1 [.int .i64 0, .int .u8 0] 121
    have hB0 := hb.alloc hb.size (.cells #[.int .i64 0, .int .u8 0] 121)
    have hge := hb.size
    clear hb
    go_wp2_with fail
    obtain ⟨g, hg⟩ : ∃ g, g = w1.heap.size := ⟨_, rfl⟩
    rw [← hg] at hge
    have hge2 := hid hge
    rw [← hg] at hb1
    have eg : w1.heap.size = g := hg.symm
    generalize w1.alloc (.cells #[.int .i64 0, .int .u8 0] 121) = w2 at *
    rw [eg]
    clear hg eg hge
    go_loopw [6] (fun i wr => ∃ (k : Nat) (n : Nat) (b : Bool), k ≤ s.size ∧ i = .int .i64 k ∧
      Blk wr g 121 [.int .i64 n, .int .u8 (sg0 n b)] ∧ n ≤ k ∧
      Hd (runL 0 false (bitsOf s) = runL n b ((bitsOf s).drop k)) ∧ Below w.heap.size w wr) (fun i _ => s.size - (intOf i).toNat)
    case atStart => exact ⟨0, 0, false, Nat.zero_le _, rfl, hb1, Nat.le_refl _, ⟨by simp⟩, hB0⟩
    case round =>
      obtain ⟨k, n, b, hk, rfl, hbk, hnk, HE, hBk⟩ := hrel
      clear hb1 hB0
      by_cases hlt : k < s.size
      · have hl : k < (bitsOf s).length := by omega
        have hk0 : 0 ≤ (k : Int) := Int.natCast_nonneg _
        have HD := hid (show (bitsOf s).drop k = (bitsOf s)[k] :: (bitsOf s).drop (k + 1) from List.drop_eq_getElem_cons hl)
        have hbit := byte_bit s k hlt hl
        generalize hcc : (bitsOf s)[k] = c at *
        have HW := hid (fun (W : World) => rwith_calls n b c (sg0 n b) (((s[k]'hlt).toNat : Int)) (by omega) rfl hbit W)
        clear hbit hcc
        generalize hy : ((s[k]'hlt).toNat : Int) = y at *
        have HK := hid (show runK n b c ≤ k + 1 by unfold runK; split <;> omega)
        have hpos := hid (runK_pos n b c)
        generalize hX : sg0 n b = x at *
        clear hX
        generalize hm : runK n b c = m at *
        have HM := hid hm
        clear hm
        generalize hsgc : ((sg c).toNat : Int) = z at *
        have HSG := hid hsgc
        clear hsgc
        go_wp2_with fail
        refine region_text (by kernel_rfl) (by kernel_rfl) (fun b _ W => (Below w.heap.size w W) ∧ ∃ cs, Blk W g 121 cs ∧ cs.length = 2 ∧ (b 5 = false → cs = [.int .i64 n, .int .u8 x]) ∧ (b 5 = true → cs = [.int .i64 m, .int .u8 z])) ?_ ?_
        · exact ⟨hBk.drew, _, hbk.drew, rfl, fun _ => rfl, fun h => by cases h⟩
        refine t_run (.agg #[.int .i64 n, .int .u8 x]) (fun _ => rfl) (fun b γ W h hb _ hf => ⟨W, ?_, h⟩) ?_
        · obtain ⟨cs, k1, k2, k3, k4⟩ := h.2
          obtain rfl := k3 (hf 5 _ rfl (by decide))
          have c0 := k1.cell 0
          have c1 := k1.cell 1
          simp only [List.getElem?_cons_zero, List.getElem?_cons_succ] at c0 c1
          go_simp
        iterate 3 ((try simp only [Act.put, List.setIfInBounds_toArray, List.set_cons_zero, List.set_cons_succ]); first
          | (refine t_pure ?_ (fun _ => rfl) (fun b γ W h => h) (fun b γ W h _ => ?_) ?_; rotate_left; · (go_simp; rfl)))
        (try simp only [Act.put, List.setIfInBounds_toArray, List.set_cons_zero, List.set_cons_succ])
        refine t_call (.agg #[.int .i64 m, .int .u8 z]) (fun _ => rfl) (f := 97) (args := #[.agg #[.int .i64 n, .int .u8 x], .int .u8 y]) (fun b γ W h _ => by go_simp) (fun b γ W h _ => (HW.out W).mono (fun e w2 h2 => ⟨h2.1, h.1.trans (h2.2.mono h.1.size), h.2.choose, h.2.choose_spec.1.below h2.2, h.2.choose_spec.2⟩)) ?_
        (try simp only [Act.put, List.setIfInBounds_toArray, List.set_cons_zero, List.set_cons_succ])
        refine t_store (fun _ => rfl) (fun b γ W h hb _ _ => ?_) ?_
        · obtain ⟨s1, cs, k1, k2, k3, k4⟩ := h
          obtain rfl := k3 hb
          have c0 := k1.cell 0
          have c1 := k1.cell 1
          have f0 := k1.frozen 0
          have f1 := k1.frozen 1
          simp only [List.getElem?_cons_zero, List.getElem?_cons_succ] at c0 c1
          refine ⟨(W.setCell ⟨g, 0, none⟩ (.int .i64 m)).setCell ⟨g, 1, none⟩ (.int .u8 z), by go_simp, ?_, ?_⟩
          · exact (s1.setCell (by exact hge2.out) _).setCell (by exact hge2.out) _
          · exact ⟨_, (k1.set 0 _).set 1 _, rfl, fun h => by simp [up] at h, fun _ => rfl⟩
        refine t_end ?_
        intro bq gq w5 hall hS
        obtain ⟨hBk, cs, hbk, _, _, k4⟩ := hS
        obtain rfl := k4 (hall 5 (by decide))
        (try simp only [Act.put, List.setIfInBounds_toArray, List.set_cons_zero, List.set_cons_succ])
        have c0 := hbk.cell 0
        have c1 := hbk.cell 1
        simp only [List.getElem?_cons_zero, List.getElem?_cons_succ] at c0 c1
        clear hall k4

        go_wp2_with fail
        go_roundw
        case rel =>
          have e0 := HE.out
          rw [HD.out, runL, HM.out] at e0
          exact ⟨k + 1, m, c, by omega, by go_num, by rw [sg0_of m c hpos.out, HSG.out]; exact hbk, HK.out, ⟨e0⟩, hBk⟩
        case measure => simp [intOf]; omega
      · have e : k = s.size := by omega
        subst e
        have hend : (bitsOf s).drop s.size = [] := List.drop_of_length_le (by omega)
        have e0 := HE.out
        rw [hend, runL] at e0
        rw [HR2.out.symm] at e0
        obtain ⟨rfl, rfl⟩ := Prod.mk.inj e0
        have hN := HN2.out
        have c0 := hbk.cell 0
        have c1 := hbk.cell 1
        simp only [List.getElem?_cons_zero, List.getElem?_cons_succ] at c0 c1
        clear HN2 HR2 HE hend
        by_cases h5 : u2 = 5
        · subst h5
          rw [if_pos rfl] at hN
          rw [show sg0 5 u3 = ((sg u3).toNat : Int) from rfl] at c1
          have HN := hid hN
          clear hN
          cases u3
          · simp only [sg, Bool.false_eq_true, if_false] at c1
            go_wp2_with fail
            go_ret
            rw [HN.out]
            exact ⟨rfl, hBk⟩
          · simp only [sg, if_true] at c1
            go_wp2_with fail
            go_ret
            rw [HN.out]
            exact ⟨rfl, hBk⟩
        · rw [if_neg h5] at hN
          have e5 : ((u2 : Int) == 5) = false := beq_eq_false_iff_ne.2 (by omega)
          have e6 : ((u2 : Int) = 5) = False := eq_false (by omega)
          have e7 : ((u2 : Int) != 5) = true := bne_iff_ne.2 (by omega)
          have HN := hid hN
          clear hN
          go_wp2_with fail
          go_ret
          rw [HN.out]
          exact ⟨rfl, hBk⟩
end Go.Proofs.YtpkpnaedacefaaaGreat.RefW
