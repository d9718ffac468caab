/- The document's node (package ostinatoref7): counters. -/
import Derived.Test.YtpkpnaedacefaaaGreatRefD
import Derived.Test.YtpkpnaedacefaaaGreatCodeLink
import Derived.Test.YtpkpnaedacefaaaGreatMacEvs
namespace Go.Proofs.YtpkpnaedacefaaaGreat.MacR
set_option linter.unusedVariables false
set_option linter.unusedSimpArgs false
open Go Go.RowKit Go.Proofs.YtpkpnaedacefaaaGreat.Lib Go.Proofs.YtpkpnaedacefaaaGreat.Bits Go.Proofs.YtpkpnaedacefaaaGreat.BitsW Go.Proofs.YtpkpnaedacefaaaGreat.StuffW Go.Proofs.YtpkpnaedacefaaaGreat.Frame Go.Proofs.YtpkpnaedacefaaaGreat.FrameW Go.Proofs.YtpkpnaedacefaaaGreat.Code Go.Proofs.YtpkpnaedacefaaaGreat.CodeW Go.Proofs.YtpkpnaedacefaaaGreat.Mac Go.Proofs.YtpkpnaedacefaaaGreat.MacW Go.Proofs.YtpkpnaedacefaaaGreat.PrintMore
attribute [local go_sem] max2_int min2_int max_two min_two
set_option maxRecDepth 100000 in
set_option maxHeartbeats 3200000 in
theorem qis_calls (s g : Int) (w : World) : Calls Tryz.prog 99 #[.agg #[.int .i64 s, .int .i64 g]] w fun x w' => x = .returned (.bool (cOk s g)) ∧ Below w.heap.size w w' := by
  have hF := Blk.new w [.int .i64 s, .int .i64 g] 47
  have hB := hid ((Below.refl w.heap.size w).alloc (Nat.le_refl _) (.cells #[.int .i64 s, .int .i64 g] 47))
  have c0 := hF.cell 0
  have c1 := hF.cell 1
  simp only [List.getElem?_cons_zero, List.getElem?_cons_succ] at c0 c1
  obtain ⟨a1, h1⟩ : ∃ a1, decide (0 ≤ s) = a1 := ⟨_, rfl⟩
  obtain ⟨a2, h2⟩ : ∃ a2, decide (s ≤ 1000) = a2 := ⟨_, rfl⟩
  obtain ⟨a3, h3⟩ : ∃ a3, decide (0 ≤ g) = a3 := ⟨_, rfl⟩
  obtain ⟨a4, h4⟩ : ∃ a4, decide (g ≤ 1000) = a4 := ⟨_, rfl⟩
  have hv : cOk s g = (a1 && (a2 && (a3 && a4))) := by unfold cOk; rw [h1, h2, h3, h4]
  have HV := hid hv
  have p1 : (0 ≤ s) = (a1 = true) := by rw [← h1]; simp
  have p2 : (s ≤ 1000) = (a2 = true) := by rw [← h2]; simp
  have p3 : (0 ≤ g) = (a3 = true) := by rw [← h3]; simp
  have p4 : (g ≤ 1000) = (a4 = true) := by rw [← h4]; simp
  clear hv hF
  cases a1 <;> cases a2 <;> cases a3 <;> cases a4
  all_goals
    simp only [Bool.false_eq_true, eq_self, reduceCtorEq] at p1 p2 p3 p4
    go_enter Tryz.func99, Tryz.ntmps99
    go_wp2_with fail
    go_ret
    rw [HV.out]
    exact ⟨rfl, hB.out⟩
set_option maxRecDepth 100000 in
set_option maxHeartbeats 3200000 in
theorem qoff_calls (s g : Int) (w : World) : Calls Tryz.prog 67 #[.agg #[.int .i64 s, .int .i64 g]] w fun x w' => x = .returned (.bool (isOff s)) ∧ Below w.heap.size w w' := by
  have hF := Blk.new w [.int .i64 s, .int .i64 g] 47
  have hB := (Below.refl w.heap.size w).alloc (Nat.le_refl _) (.cells #[.int .i64 s, .int .i64 g] 47)
  have c0 := hF.cell 0
  simp only [List.getElem?_cons_zero, List.getElem?_cons_succ] at c0
  go_enter Tryz.func67, Tryz.ntmps67
  go_wp2_with fail
  go_ret
  exact ⟨rfl, hB⟩
set_option maxRecDepth 100000 in
set_option maxHeartbeats 3200000 in
theorem qpas_calls (s g : Int) (w : World) : Calls Tryz.prog 46 #[.agg #[.int .i64 s, .int .i64 g]] w fun x w' => x = .returned (.bool (isPas s g)) ∧ Below w.heap.size w w' := by
  have hF := Blk.new w [.int .i64 s, .int .i64 g] 47
  have hB := (Below.refl w.heap.size w).alloc (Nat.le_refl _) (.cells #[.int .i64 s, .int .i64 g] 47)
  have c0 := hF.cell 0
  have c1 := hF.cell 1
  simp only [List.getElem?_cons_zero, List.getElem?_cons_succ] at c0 c1
  have HO := hid (fun (W : World) => qoff_calls s g W)
  obtain ⟨X, hX⟩ : ∃ X, X = isPas s g := ⟨_, rfl⟩
  rw [← hX]
  unfold isPas at hX
  have HX := hid hX
  clear hX
  generalize isOff s = O at *
  go_enter Tryz.func46, Tryz.ntmps46
  go_wp2_with fail
  refine (HO.out _).mono ?_
  rintro y w1 ⟨rfl, hb⟩
  have hB := hB.trans (hb.mono hB.size)
  have hF := hF.below hb
  clear c0 c1
  have c0 := hF.cell 0
  have c1 := hF.cell 1
  simp only [List.getElem?_cons_zero, List.getElem?_cons_succ] at c0 c1
  cases O
  · by_cases h1 : 128 ≤ s
    · have e1 : decide ((128 : Int) ≤ s) = true := decide_eq_true h1
      have e2 : ((128 : Int) ≤ s) = True := eq_true h1
      go_wp2_with fail
      go_ret
      rw [HX.out]
      simp only [e1]
      exact ⟨rfl, hB⟩
    · have e1 : decide ((128 : Int) ≤ s) = false := decide_eq_false h1
      have e2 : ((128 : Int) ≤ s) = False := eq_false h1
      go_wp2_with fail
      go_ret
      rw [HX.out]
      simp only [e1]
      exact ⟨by simp, hB⟩
  · go_wp2_with fail
    go_ret
    rw [HX.out]
    exact ⟨rfl, hB⟩
set_option maxRecDepth 100000 in
set_option maxHeartbeats 3200000 in
theorem qsent_calls (s g : Int) (ok : Bool) (w : World) : Calls Tryz.prog 72 #[.agg #[.int .i64 s, .int .i64 g], .bool ok] w fun x w' => x = .returned (.agg #[.int .i64 (sentV s g ok), .int .i64 g]) ∧ Below w.heap.size w w' := by
  have hF := (Blk.new w [.int .i64 s, .int .i64 g] 47).alloc (.cells #[.int .i64 0, .int .i64 0] 47)
  have hR : Blk ((w.alloc (.cells #[.int .i64 s, .int .i64 g] 47)).alloc (.cells #[.int .i64 0, .int .i64 0] 47)) (w.heap.size + 1) 47 [.int .i64 0, .int .i64 0] := by
    have := Blk.new (w.alloc (.cells #[.int .i64 s, .int .i64 g] 47)) [.int .i64 0, .int .i64 0] 47
    simpa using this
  have hB := ((Below.refl w.heap.size w).alloc (Nat.le_refl _) (.cells #[.int .i64 s, .int .i64 g] 47)).alloc (by simp) (.cells #[.int .i64 0, .int .i64 0] 47)
  obtain ⟨c0, c1, f0, f1⟩ := blk2 hF
  have HC := hid (fun (W : World) => qis_calls s g W)
  have HV := hid (rfl : sentV s g ok = sentV s g ok)
  obtain ⟨X, hX⟩ : ∃ X, X = sentV s g ok := ⟨_, rfl⟩
  rw [← hX]
  unfold sentV sentC at hX
  clear HV
  go_enter Tryz.func72, Tryz.ntmps72
  go_wp2_with fail
  refine (HC.out _).mono ?_
  rintro y w1 ⟨rfl, hb⟩
  have hB := hB.trans (hb.mono hB.size)
  have hF := hF.below hb
  have hR := hR.below hb
  clear c0 c1 f0 f1
  obtain ⟨c0, c1, f0, f1⟩ := blk2 hF
  obtain ⟨d0, d1, e0, e1⟩ := blk2 hR
  cases hk : cOk s g
  · rw [hk, if_neg (by simp)] at hX
    have HX := hid hX
    obtain ⟨q0, q1, q2⟩ := two_ends hF hR (by omega) hB (Nat.le_refl _) (by omega) (.int .i64 s) (.int .i64 g)
    have Q2 := hid q2
    clear hX q2 hB hF hR
    go_wp2_with fail
    refine bodyPost_ret (v := .agg #[.int .i64 s, .int .i64 g]) (by simp [results, Tryz.results72, go_sem, q0, q1]) rfl ⟨by rw [HX.out], Q2.out⟩
  · obtain ⟨b0, b1, b2, b3⟩ := cOk_bounds hk
    rw [hk, if_pos rfl] at hX
    cases ok
    · simp only [Bool.false_eq_true, if_false] at hX
      have HX := hid hX
      have hF2 := hF.set 0 (.int .i64 X)
      have hR2 := hR.far (p := ⟨w.heap.size, 0, none⟩) (by show w.heap.size + 1 ≠ w.heap.size; omega) (.int .i64 X)
      have hB2 := hB.setCell (p := ⟨w.heap.size, 0, none⟩) (by exact Nat.le_refl _) (.int .i64 X)
      simp only [List.set_cons_zero] at hF2
      obtain ⟨c0', c1', f0', f1'⟩ := blk2 hF2
      obtain ⟨d0', d1', e0', e1'⟩ := blk2 hR2
      obtain ⟨q0, q1, q2⟩ := two_ends hF2 hR2 (by omega) hB2 (Nat.le_refl _) (by omega) (.int .i64 X) (.int .i64 g)
      have Q2 := hid q2
      have hm : (if s + 8 < (1000 : Int) then s + 8 else 1000) = X := by rw [hX]; split <;> omega
      clear hX q2 hB hF hR hF2 hR2 hB2
      go_wp2_with fail
      refine bodyPost_ret (v := .agg #[.int .i64 X, .int .i64 g]) (by simp [results, Tryz.results72, go_sem, q0, q1]) rfl ⟨rfl, Q2.out⟩
    · simp only [if_true] at hX
      have HX := hid hX
      have hF2 := hF.set 0 (.int .i64 X)
      have hR2 := hR.far (p := ⟨w.heap.size, 0, none⟩) (by show w.heap.size + 1 ≠ w.heap.size; omega) (.int .i64 X)
      have hB2 := hB.setCell (p := ⟨w.heap.size, 0, none⟩) (by exact Nat.le_refl _) (.int .i64 X)
      simp only [List.set_cons_zero] at hF2
      obtain ⟨c0', c1', f0', f1'⟩ := blk2 hF2
      obtain ⟨d0', d1', e0', e1'⟩ := blk2 hR2
      obtain ⟨q0, q1, q2⟩ := two_ends hF2 hR2 (by omega) hB2 (Nat.le_refl _) (by omega) (.int .i64 X) (.int .i64 g)
      have Q2 := hid q2
      have hm : X = if 0 < s - 1 then s - 1 else 0 := by rw [hX]; split <;> omega
      clear hX q2 hB hF hR hF2 hR2 hB2
      by_cases hz : 0 < s - 1
      · rw [if_pos hz] at hm
        subst hm
        go_wp2_with fail
        refine bodyPost_ret (v := .agg #[.int .i64 (s - 1), .int .i64 g]) (by simp [results, Tryz.results72, go_sem, q0, q1]) rfl ⟨rfl, Q2.out⟩
      · rw [if_neg hz] at hm
        subst hm
        go_wp2_with fail
        refine bodyPost_ret (v := .agg #[.int .i64 0, .int .i64 g]) (by simp [results, Tryz.results72, go_sem, q0, q1]) rfl ⟨rfl, Q2.out⟩
set_option maxRecDepth 100000 in
set_option maxHeartbeats 3200000 in
theorem qgot_calls (s g : Int) (ok : Bool) (w : World) : Calls Tryz.prog 76 #[.agg #[.int .i64 s, .int .i64 g], .bool ok] w fun x w' => x = .returned (.agg #[.int .i64 s, .int .i64 (gotV s g ok)]) ∧ Below w.heap.size w w' := by
  have hF := (Blk.new w [.int .i64 s, .int .i64 g] 47).alloc (.cells #[.int .i64 0, .int .i64 0] 47)
  have hR : Blk ((w.alloc (.cells #[.int .i64 s, .int .i64 g] 47)).alloc (.cells #[.int .i64 0, .int .i64 0] 47)) (w.heap.size + 1) 47 [.int .i64 0, .int .i64 0] := by
    have := Blk.new (w.alloc (.cells #[.int .i64 s, .int .i64 g] 47)) [.int .i64 0, .int .i64 0] 47
    simpa using this
  have hB := ((Below.refl w.heap.size w).alloc (Nat.le_refl _) (.cells #[.int .i64 s, .int .i64 g] 47)).alloc (by simp) (.cells #[.int .i64 0, .int .i64 0] 47)
  obtain ⟨c0, c1, f0, f1⟩ := blk2 hF
  have HC := hid (fun (W : World) => qis_calls s g W)
  have HV := hid (rfl : gotV s g ok = gotV s g ok)
  obtain ⟨X, hX⟩ : ∃ X, X = gotV s g ok := ⟨_, rfl⟩
  rw [← hX]
  unfold gotV gotC at hX
  clear HV
  go_enter Tryz.func76, Tryz.ntmps76
  go_wp2_with fail
  refine (HC.out _).mono ?_
  rintro y w1 ⟨rfl, hb⟩
  have hB := hB.trans (hb.mono hB.size)
  have hF := hF.below hb
  have hR := hR.below hb
  clear c0 c1 f0 f1
  obtain ⟨c0, c1, f0, f1⟩ := blk2 hF
  obtain ⟨d0, d1, e0, e1⟩ := blk2 hR
  cases hk : cOk s g
  · rw [hk, if_neg (by simp)] at hX
    have HX := hid hX
    obtain ⟨q0, q1, q2⟩ := two_ends hF hR (by omega) hB (Nat.le_refl _) (by omega) (.int .i64 s) (.int .i64 g)
    have Q2 := hid q2
    clear hX q2 hB hF hR
    go_wp2_with fail
    refine bodyPost_ret (v := .agg #[.int .i64 s, .int .i64 g]) (by simp [results, Tryz.results76, go_sem, q0, q1]) rfl ⟨by rw [HX.out], Q2.out⟩
  · obtain ⟨b0, b1, b2, b3⟩ := cOk_bounds hk
    rw [hk, if_pos rfl] at hX
    cases ok
    · simp only [Bool.false_eq_true, if_false] at hX
      have HX := hid hX
      have hF2 := hF.set 1 (.int .i64 X)
      have hR2 := hR.far (p := ⟨w.heap.size, 1, none⟩) (by show w.heap.size + 1 ≠ w.heap.size; omega) (.int .i64 X)
      have hB2 := hB.setCell (p := ⟨w.heap.size, 1, none⟩) (by exact Nat.le_refl _) (.int .i64 X)
      simp only [List.set_cons_zero, List.set_cons_succ] at hF2
      obtain ⟨c0', c1', f0', f1'⟩ := blk2 hF2
      obtain ⟨d0', d1', e0', e1'⟩ := blk2 hR2
      obtain ⟨q0, q1, q2⟩ := two_ends hF2 hR2 (by omega) hB2 (Nat.le_refl _) (by omega) (.int .i64 s) (.int .i64 X)
      have Q2 := hid q2
      have hm : (if g + 1 < (1000 : Int) then g + 1 else 1000) = X := by rw [hX]; split <;> omega
      clear hX q2 hB hF hR hF2 hR2 hB2
      go_wp2_with fail
      refine bodyPost_ret (v := .agg #[.int .i64 s, .int .i64 X]) (by simp [results, Tryz.results76, go_sem, q0, q1]) rfl ⟨rfl, Q2.out⟩
    · simp only [if_true] at hX
      by_cases h127 : 127 < g
      · rw [if_pos h127] at hX
        have e1 : ((127 : Int) < g) = True := eq_true h127
        subst hX
        have hX : (120 : Int) = 120 := rfl
        have HX := hid hX
        have hF2 := hF.set 1 (.int .i64 120)
        have hR2 := hR.far (p := ⟨w.heap.size, 1, none⟩) (by show w.heap.size + 1 ≠ w.heap.size; omega) (.int .i64 120)
        have hB2 := hB.setCell (p := ⟨w.heap.size, 1, none⟩) (by exact Nat.le_refl _) (.int .i64 120)
        simp only [List.set_cons_zero, List.set_cons_succ] at hF2
        obtain ⟨c0', c1', f0', f1'⟩ := blk2 hF2
        obtain ⟨d0', d1', e0', e1'⟩ := blk2 hR2
        obtain ⟨q0, q1, q2⟩ := two_ends hF2 hR2 (by omega) hB2 (Nat.le_refl _) (by omega) (.int .i64 s) (.int .i64 120)
        have Q2 := hid q2
        skip
        clear hX q2 hB hF hR hF2 hR2 hB2
        go_wp2_with fail
        refine bodyPost_ret (v := .agg #[.int .i64 s, .int .i64 120]) (by simp [results, Tryz.results76, go_sem, q0, q1]) rfl ⟨rfl, Q2.out⟩
      · rw [if_neg h127] at hX
        have e1 : ((127 : Int) < g) = False := eq_false h127
        have HX := hid hX
        have hF2 := hF.set 1 (.int .i64 X)
        have hR2 := hR.far (p := ⟨w.heap.size, 1, none⟩) (by show w.heap.size + 1 ≠ w.heap.size; omega) (.int .i64 X)
        have hB2 := hB.setCell (p := ⟨w.heap.size, 1, none⟩) (by exact Nat.le_refl _) (.int .i64 X)
        simp only [List.set_cons_zero, List.set_cons_succ] at hF2
        obtain ⟨c0', c1', f0', f1'⟩ := blk2 hF2
        obtain ⟨d0', d1', e0', e1'⟩ := blk2 hR2
        obtain ⟨q0, q1, q2⟩ := two_ends hF2 hR2 (by omega) hB2 (Nat.le_refl _) (by omega) (.int .i64 s) (.int .i64 X)
        have Q2 := hid q2
        have hm : X = if 0 < g - 1 then g - 1 else 0 := by rw [hX]; split <;> omega
        clear hX q2 hB hF hR hF2 hR2 hB2
        by_cases hz : 0 < g - 1
        · rw [if_pos hz] at hm
          subst hm
          go_wp2_with fail
          refine bodyPost_ret (v := .agg #[.int .i64 s, .int .i64 (g - 1)]) (by simp [results, Tryz.results76, go_sem, q0, q1]) rfl ⟨rfl, Q2.out⟩
        · rw [if_neg hz] at hm
          subst hm
          go_wp2_with fail
          refine bodyPost_ret (v := .agg #[.int .i64 s, .int .i64 0]) (by simp [results, Tryz.results76, go_sem, q0, q1]) rfl ⟨rfl, Q2.out⟩
end Go.Proofs.YtpkpnaedacefaaaGreat.MacR
