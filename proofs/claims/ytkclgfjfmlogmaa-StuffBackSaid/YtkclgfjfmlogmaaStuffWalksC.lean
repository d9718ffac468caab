/- The walks of package stuff, continued: bits taken away again. -/
import Derived.Test.YtkclgfjfmlogmaaStuffWalksB
import Derived.Test.YtkclgfjfmlogmaaRegionB
namespace Go.Proofs.Ytkclgfjfmlogmaa.StuffW
set_option linter.unusedVariables false
set_option linter.unusedSimpArgs false
open Go Go.RowKit Go.Proofs.Ytkclgfjfmlogmaa.Lib Go.Proofs.Ytkclgfjfmlogmaa.Bits Go.Proofs.Ytkclgfjfmlogmaa.BitsW Go.Proofs.YtkclgfjfmlogmaaW.PrintMore
attribute [local go_sem] max2_int min2_int max_two min_two

/-- A run as a value. -/
def runV (n : Nat) (b : Bool) : Value := .agg #[.int .u8 (if n = 0 then 0 else ((sg b).toNat : Int)), .int .i64 n]
/-- The place of a sixth alike, as Go tells it. -/
def atI (x : Option Nat) : Int := match x with | some i => i | none => -1

set_option maxRecDepth 100000 in
set_option maxHeartbeats 3200000 in
theorem unstuffed_calls (s : ByteArray) (hs : s.size ≤ 1000000) (w : World) :
    Calls Try.prog 21 #[.string s] w fun e w' => e = .returned (.tuple #[.string (B (unstuffL 0 false 0 (bitsOf s)).1), runV (unstuffL 0 false 0 (bitsOf s)).2.1 (unstuffL 0 false 0 (bitsOf s)).2.2.1, .int .i64 (atI (unstuffL 0 false 0 (bitsOf s)).2.2.2)]) ∧ Below w.heap.size w w' := by
  obtain ⟨i0, hi, hz0, hz1, hz2⟩ := info_parts info_u8
  have hsz := bitsOf_length s
  have hu := Try.underlying41
  go_enter Try.func21, Try.ntmps21
  go_wp2_with fail
  go_step3
  go_wp2_with fail
  go_step3
  have hb1 : Blk ((w.alloc (.cells #[.int .u8 0, .int .i64 0] 41)).alloc (.cells #[.int .u8 0, .int .i64 0] 41)) w.heap.size 41 [.int .u8 0, .int .i64 0] := (Blk.new w _ _).alloc _
  have hb2 : Blk ((w.alloc (.cells #[.int .u8 0, .int .i64 0] 41)).alloc (.cells #[.int .u8 0, .int .i64 0] 41)) (w.heap.size + 1) 41 [.int .u8 0, .int .i64 0] := by
    have := Blk.new (w.alloc (.cells #[.int .u8 0, .int .i64 0] 41)) [.int .u8 0, .int .i64 0] 41
    simpa using this
  have hB0 : Below w.heap.size w ((w.alloc (.cells #[.int .u8 0, .int .i64 0] 41)).alloc (.cells #[.int .u8 0, .int .i64 0] 41)) := ((Below.refl _ _).alloc (Nat.le_refl _) _).alloc (by simp) _
  obtain ⟨g3, hg3⟩ : ∃ g3, g3 = w.heap.size := ⟨_, rfl⟩
  obtain ⟨g6, hg6⟩ : ∃ g6, g6 = w.heap.size + 1 := ⟨_, rfl⟩
  have hge3 : w.heap.size ≤ g3 := by omega
  have hge6 : w.heap.size ≤ g6 := by omega
  have hne : g3 ≠ g6 := by omega
  rw [← hg3] at hb1
  rw [← hg6] at hb2
  have e3 : w.heap.size = g3 := hg3.symm
  have e6 : w.heap.size + 1 = g6 := hg6.symm
  generalize (w.alloc (.cells #[.int .u8 0, .int .i64 0] 41)).alloc (.cells #[.int .u8 0, .int .i64 0] 41) = w2 at *
  rw [e6, e3]
  clear hg3 hg6 e3 e6
  go_wp2_with fail
  go_loopw [5, 12] (fun v i wr => ∃ (k : Nat) (acc : List Bool) (n : Nat) (b : Bool), k ≤ s.size ∧ i = .int .i64 k ∧ OwnB wr w.heap.size 5 v (acc.map sg) ∧
      (∃ cs, Blk wr g6 41 cs ∧ cs.length = 2 ∧ IsRun cs 0 n b) ∧ Blk wr g3 41 [.int .u8 0, .int .i64 0] ∧ n ≤ 5 ∧ acc.length ≤ k ∧
      Hd (unstuffL 0 false 0 (bitsOf s) = (acc ++ (unstuffL n b k ((bitsOf s).drop k)).1, (unstuffL n b k ((bitsOf s).drop k)).2)) ∧ Below w.heap.size w wr) (fun _ i _ => s.size - (intOf i).toNat)
  case atStart => exact ⟨0, [], 0, false, Nat.zero_le _, rfl, OwnB.nil _ _ _, ⟨_, hb2, rfl, ⟨rfl, rfl⟩⟩, hb1, Nat.zero_le _, Nat.le_refl _, ⟨by simp⟩, hB0⟩
  case round =>
    obtain ⟨k, acc, n, b, hk, rfl, hown, ⟨cs, hbk, hcl, hrun⟩, hb3, hn5, hal, HE, hBk⟩ := hrel
    clear hb1 hb2 hB0
    by_cases hlt : k < s.size
    · have hl : k < (bitsOf s).length := by omega
      have hk0 : 0 ≤ (k : Int) := Int.natCast_nonneg _
      have hdrop : (bitsOf s).drop k = (bitsOf s)[k] :: (bitsOf s).drop (k + 1) := List.drop_eq_getElem_cons hl
      have HD := hid hdrop
      have HR := hid hrun
      have HCL := hid hcl
      clear hdrop hrun hcl
      go_wp2_with fail
      refine (one_calls s k hl (by omega) _).mono ?_
      rintro e w3 ⟨rfl, hbb⟩
      have hbk := hbk.below hbb
      have hb3 := hb3.below hbb
      have hown := hown.below hbb
      have hBk := hBk.trans (hbb.mono hBk.size)
      clear hbb
      generalize hcc : (bitsOf s)[k] = c at *
      have HCC := hid hcc
      clear hcc
      go_wp2_with fail
      refine (full_calls g6 0 41 cs n _ hbk HR.out.2).mono ?_
      rintro e w4 ⟨rfl, rfl⟩
      have hc0 := (hbk.cell 0).trans HR.out.1
      by_cases h5 : n = 5
      · have hx : ((n : Int) == 5) = true := by rw [h5]; rfl
        have h0 : ¬ n = 0 := by omega
        rw [if_neg h0] at hc0
        have H5 := hid h5
        rw [hx]
        clear hx h0 h5
        have hs0 := sg_same b c
        by_cases hbc : c = b
        · have hs1 : ((((sg c).toNat : Int)) == ((sg b).toNat : Int)) = true := by rw [hs0]; exact beq_iff_eq.2 hbc
          have HBC := hid hbc
          clear hs0 hbc
          generalize hq1 : ((sg c).toNat : Int) = qc at *
          generalize hq2 : ((sg b).toNat : Int) = qb at *
          have HQ2 := hid hq2
          clear hq1 hq2
          go_wp2_with fail
          obtain ⟨x0, x1, rfl⟩ : ∃ x0 x1, cs = [x0, x1] := by
            have := HCL.out
            match cs, this with
            | [x0, x1], _ => exact ⟨x0, x1, rfl⟩
          have hx0 : x0 = .int .u8 qb := by
            have := HR.out.1
            rw [H5.out] at this
            simp at this
            rw [this, HQ2.out]
          have hx1 : x1 = .int .i64 n := by simpa using HR.out.2
          subst hx0 hx1
          refine region_text (by kernel_rfl) (by kernel_rfl) (fun b _ W => OwnB W w.heap.size 5 u5 (acc.map sg) ∧ Blk W g6 41 [.int .u8 qb, .int .i64 n] ∧ (∃ cs3, Blk W g3 41 cs3 ∧ cs3.length = 2 ∧ (b 5 = true → cs3 = [.int .u8 qb, .int .i64 n])) ∧ Below w.heap.size w W) ?_ ?_
          · exact ⟨hown.kept (row := none) (by exact grown_drew (grown_refl _ _)) (by cases u5.ownBlock <;> simp), hbk.drew, ⟨_, hb3.drew, rfl, fun h => by cases h⟩, hBk.drew⟩
          refine t_pure u5 (fun _ => rfl) (fun b g w h => h) (fun b g w h _ => by go_simp) ?_
          refine t_pure (.string (B acc)) (fun _ => rfl) (fun b g w h => h) (fun b g w h _ => ?_) ?_
          · have : (convert 32 9 u5).run Try.prog w = .ok (.string (B acc)) w := run_conv_own (P := Try.prog) 32 9 5 Try.underlying32 Try.underlying5 Try.underlying9 _ _ _ _ h.1
            go_simp
          refine t_pure (.agg #[.int .u8 qb, .int .i64 n]) (fun _ => rfl) (fun b g w h => h) (fun b g w h _ => ?_) ?_
          · have c0 := h.2.1.cell 0
            have c1 := h.2.1.cell 1
            simp at c0 c1
            go_simp
          refine t_pure (.int .i64 k) (fun _ => rfl) (fun b g w h => h) (fun b g w h _ => by go_simp) ?_
          refine t_pure (.string (B acc)) (fun _ => rfl) (fun b g w h => h) (fun b g w h _ => by go_simp) ?_
          refine t_store (fun _ => rfl) (fun b g w h _ _ _ => ?_) ?_
          · obtain ⟨s1, s2, ⟨cs3, s3, s3l, s4⟩, s5⟩ := h
            have f0 := s3.frozen 0
            have f1 := s3.frozen 1
            have c0 := s3.cell 0
            have c1 := s3.cell 1
            obtain ⟨y0, y1, rfl⟩ : ∃ y0 y1, cs3 = [y0, y1] := by
              match cs3, s3l with
              | [y0, y1], _ => exact ⟨y0, y1, rfl⟩
            simp at c0 c1
            refine ⟨(w.setCell ⟨g3, 0, none⟩ (.int .u8 qb)).setCell ⟨g3, 1, none⟩ (.int .i64 n), by go_simp, ?_, ?_, ?_, ?_⟩
            · have hno := s1.ne s3 (by decide)
              exact (s1.set 0 _ hno).set 1 _ hno
            · exact (s2.far (p := ⟨g3, 0, none⟩) (by exact fun h => hne h.symm) _).far (p := ⟨g3, 1, none⟩) (by exact fun h => hne h.symm) _
            · exact ⟨_, (s3.set 0 _).set 1 _, rfl, fun _ => rfl⟩
            · exact (s5.setCell (by exact hge3) _).setCell (by exact hge3) _
          refine t_pure (.int .i64 k) (fun _ => rfl) (fun b g w h => ?_) (fun b g w h _ => by go_simp) ?_
          · exact h
          refine t_end ?_
          intro bq gq w5 hall hS
          obtain ⟨s1, s2, ⟨cs3, s3, s3l, s4⟩, s5⟩ := hS
          obtain rfl := s4 (hall 5 (by decide))
          have c0 := s3.cell 0
          have c1 := s3.cell 1
          simp at c0 c1
          simp only [Act.put, List.setIfInBounds_toArray, List.set_cons_zero, List.set_cons_succ]
          go_wp2_with fail
          refine bodyPost_ret (v := .tuple #[.string (B acc), .agg #[.int .u8 qb, .int .i64 n], .int .i64 k]) (by simp [results, Try.results21, go_sem, c0, c1]) rfl ⟨?_, s5⟩
          have hn0 : ¬ n = 0 := by have := H5.out; omega
          have e1 : unstuffL n b k ((bitsOf s).drop k) = ([], n, b, some k) := by
            rw [HD.out]
            unfold unstuffL
            rw [if_pos ⟨H5.out, HBC.out.symm⟩]
          rw [HE.out, e1]
          simp [runV, atI, hn0, HQ2.out]
        · have hs1 : ((((sg c).toNat : Int)) == ((sg b).toNat : Int)) = false := by rw [hs0]; exact beq_eq_false_iff_ne.2 hbc
          have HBC := hid hbc
          clear hs0 hbc
          generalize hq2 : ((sg b).toNat : Int) = qb at hc0 hs1
          clear hq2
          go_wp2_with fail
          refine (runAdd_calls g6 0 41 cs n b c _ (by omega) hbk HR.out).mono ?_
          rintro e w5 ⟨rfl, hbk5, hgrow5⟩
          have hb35 := hb3.grown hgrow5 (by simpa using hne)
          have hown5 := hown.kept hgrow5 (.inr (hown.ne hbk (by decide)))
          have hB5 : Below w.heap.size w w5 := hBk.grown hgrow5 hBk.size (fun k h => by cases h; exact hge6)
          have hr5 := isRun_next cs 0 n b c HR.out
          have HR5 := hid hr5
          have hm1 : runK n b c ≤ 5 := by unfold runK; rw [if_neg (fun h => HBC.out h.2.symm)]; omega
          have HM1 := hid hm1
          have hl5 : (runCells cs 0 n b c).length = 2 := by unfold runCells; simp [HCL.out]
          have HL5 := hid hl5
          clear hr5 hm1 hl5 hgrow5 hown hbk hb3 hBk hc0 hs1
          go_wp2_with fail
          go_roundw
          case rel =>
            refine ⟨k + 1, acc, runK n b c, c, by omega, by go_num, hown5, ⟨_, hbk5, HL5.out, HR5.out⟩, hb35, HM1.out, by omega, ⟨?_⟩, hB5⟩
            rw [HE.out, HD.out]
            conv => lhs; rw [unstuffL, if_neg (fun h => HBC.out h.2.symm), if_pos H5.out]
          case measure => simp [intOf]; omega
      · have hx : ((n : Int) == 5) = false := beq_eq_false_iff_ne.2 (by omega)
        have H5 := hid h5
        rw [hx]
        clear hx h5 hc0
        go_wp2_with fail
        refine (runAdd_calls g6 0 41 cs n b c _ (by omega) hbk HR.out).mono ?_
        rintro e w5 ⟨rfl, hbk5, hgrow5⟩
        have hb35 := hb3.grown hgrow5 (by simpa using hne)
        have hown5 := hown.kept hgrow5 (.inr (hown.ne hbk (by decide)))
        have hB5 : Below w.heap.size w w5 := hBk.grown hgrow5 hBk.size (fun k h => by cases h; exact hge6)
        have hr5 := isRun_next cs 0 n b c HR.out
        have HR5 := hid hr5
        have hm1 := (runK_le n b c hn5 (fun h => H5.out h.1)).2
        have HM1 := hid hm1
        have hl5 : (runCells cs 0 n b c).length = 2 := by unfold runCells; simp [HCL.out]
        have HL5 := hid hl5
        have hal2 : (acc.map sg).length ≤ 1000000 := by rw [List.length_map]; omega
        clear hr5 hm1 hl5 hgrow5 hown hbk hb3 hBk
        generalize runCells cs 0 n b c = cs5 at *
        go_wp2_with (at_builtin; refine app_byte rfl (.tmp 33) (.tmp 35) 32 rfl w.heap.size 5 i0 Try.underlying32 hi hz0 hz1 hz2 _ _ rfl hown5 (sg c) _ rfl rfl (by omega) hB5.size ?_; intro v8 w8 hown8 hgrow8)
        have hne6 := hown5.ne hbk5 (by decide)
        have hne3 := hown5.ne hb35 (by decide)
        have hbk8 := (hbk5.alloc (.cells #[.int .u8 ((sg c).toNat : Int)] 5)).grown hgrow8 (fun h => hne6 h.symm)
        have hb38 := (hb35.alloc (.cells #[.int .u8 ((sg c).toNat : Int)] 5)).grown hgrow8 (fun h => hne3 h.symm)
        have hB8 : Below w.heap.size w w8 := (hown5.alloc (.cells #[.int .u8 ((sg c).toNat : Int)] 5)).grow (hB5.alloc hB5.size _) hgrow8 (Nat.le_refl _) (by have := hB5.size; simp; omega)
        clear hown5 hbk5 hb35 hB5 hgrow8 hne6 hne3
        go_roundw
        case rel =>
          refine ⟨k + 1, acc ++ [c], runK n b c, c, by omega, by go_num, by simpa using hown8, ⟨_, hbk8, HL5.out, HR5.out⟩, hb38, HM1.out, by simp; omega, ⟨?_⟩, hB8⟩
          rw [HE.out, HD.out]
          conv => lhs; rw [unstuffL, if_neg (fun h => H5.out h.1), if_neg H5.out]
          simp
        case measure => simp [intOf]; omega
    · have e : k = s.size := by omega
      have hend : (bitsOf s).drop k = [] := List.drop_of_length_le (by omega)
      have HEND := hid hend
      have HK := hid e
      have HCL := hid hcl
      have HR := hid hrun
      clear e hend hcl hrun
      go_wp2_with fail
      obtain ⟨x0, x1, rfl⟩ : ∃ x0 x1, cs = [x0, x1] := by
        have := HCL.out
        match cs, this with
        | [x0, x1], _ => exact ⟨x0, x1, rfl⟩
      have hx1 : x1 = .int .i64 n := by simpa using HR.out.2
      obtain ⟨qb, hq0⟩ : ∃ qb : Int, (if n = 0 then 0 else ((sg b).toNat : Int)) = qb := ⟨_, rfl⟩
      have hx0 : x0 = .int .u8 qb := by
        have := HR.out.1
        rw [hq0] at this
        simpa using this
      have HQ := hid hq0
      clear hq0
      subst hx0
      subst hx1
      refine region_text (by kernel_rfl) (by kernel_rfl) (fun b _ W => OwnB W w.heap.size 5 u5 (acc.map sg) ∧ Blk W g6 41 [.int .u8 qb, .int .i64 n] ∧ (∃ cs3, Blk W g3 41 cs3 ∧ cs3.length = 2 ∧ (b 4 = true → cs3 = [.int .u8 qb, .int .i64 n])) ∧ Below w.heap.size w W) ?_ ?_
      · exact ⟨hown.kept (row := none) (by exact grown_drew (grown_refl _ _)) (by cases u5.ownBlock <;> simp), hbk.drew, ⟨_, hb3.drew, rfl, fun h => by cases h⟩, hBk.drew⟩
      refine t_pure u5 (fun _ => rfl) (fun b g w h => h) (fun b g w h _ => by go_simp) ?_
      refine t_pure (.string (B acc)) (fun _ => rfl) (fun b g w h => h) (fun b g w h _ => ?_) ?_
      · have : (convert 32 9 u5).run Try.prog w = .ok (.string (B acc)) w := run_conv_own (P := Try.prog) 32 9 5 Try.underlying32 Try.underlying5 Try.underlying9 _ _ _ _ h.1
        go_simp
      refine t_pure (.agg #[.int .u8 qb, .int .i64 n]) (fun _ => rfl) (fun b g w h => h) (fun b g w h _ => ?_) ?_
      · have c0 := h.2.1.cell 0
        have c1 := h.2.1.cell 1
        simp at c0 c1
        go_simp
      refine t_pure (.string (B acc)) (fun _ => rfl) (fun b g w h => h) (fun b g w h _ => by go_simp) ?_
      refine t_store (fun _ => rfl) (fun b g w h _ _ _ => ?_) ?_
      · obtain ⟨s1, s2, ⟨cs3, s3, s3l, s4⟩, s5⟩ := h
        have f0 := s3.frozen 0
        have f1 := s3.frozen 1
        have c0 := s3.cell 0
        have c1 := s3.cell 1
        obtain ⟨y0, y1, rfl⟩ : ∃ y0 y1, cs3 = [y0, y1] := by
          match cs3, s3l with
          | [y0, y1], _ => exact ⟨y0, y1, rfl⟩
        simp at c0 c1
        refine ⟨(w.setCell ⟨g3, 0, none⟩ (.int .u8 qb)).setCell ⟨g3, 1, none⟩ (.int .i64 n), by go_simp, ?_, ?_, ?_, ?_⟩
        · have hno := s1.ne s3 (by decide)
          exact (s1.set 0 _ hno).set 1 _ hno
        · exact (s2.far (p := ⟨g3, 0, none⟩) (by exact fun h => hne h.symm) _).far (p := ⟨g3, 1, none⟩) (by exact fun h => hne h.symm) _
        · exact ⟨_, (s3.set 0 _).set 1 _, rfl, fun _ => rfl⟩
        · exact (s5.setCell (by exact hge3) _).setCell (by exact hge3) _
      refine t_pure (.int .i64 (-1)) (fun _ => rfl) (fun b g w h => ?_) (fun b g w h _ => by go_simp) ?_
      · exact h
      refine t_end ?_
      intro bq gq w5 hall hS
      obtain ⟨s1, s2, ⟨cs3, s3, s3l, s4⟩, s5⟩ := hS
      obtain rfl := s4 (hall 4 (by decide))
      have c0 := s3.cell 0
      have c1 := s3.cell 1
      simp at c0 c1
      simp only [Act.put, List.setIfInBounds_toArray, List.set_cons_zero, List.set_cons_succ]
      go_wp2_with fail
      refine bodyPost_ret (v := .tuple #[.string (B acc), .agg #[.int .u8 qb, .int .i64 n], .int .i64 (-1)]) (by simp [results, Try.results21, go_sem, c0, c1]) rfl ⟨?_, s5⟩
      have e1 : unstuffL n b k ((bitsOf s).drop k) = ([], n, b, none) := by
        rw [HEND.out]
        rfl
      rw [HE.out, e1]
      simp [runV, atI, HQ.out]
end Go.Proofs.Ytkclgfjfmlogmaa.StuffW
