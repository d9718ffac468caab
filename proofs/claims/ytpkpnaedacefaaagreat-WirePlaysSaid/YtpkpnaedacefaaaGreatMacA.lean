/- The walks of package mac: counters; a node in memory. -/
import Derived.Test.YtpkpnaedacefaaaGreatMacSpec
import Derived.Test.YtpkpnaedacefaaaGreatCodeRead
namespace Go.Proofs.YtpkpnaedacefaaaGreat.MacW
set_option linter.unusedVariables false
set_option linter.unusedSimpArgs false
open Go Go.RowKit Go.Proofs.YtpkpnaedacefaaaGreat.Lib Go.Proofs.YtpkpnaedacefaaaGreat.Bits Go.Proofs.YtpkpnaedacefaaaGreat.BitsW Go.Proofs.YtpkpnaedacefaaaGreat.StuffW Go.Proofs.YtpkpnaedacefaaaGreat.Frame Go.Proofs.YtpkpnaedacefaaaGreat.FrameW Go.Proofs.YtpkpnaedacefaaaGreat.Code Go.Proofs.YtpkpnaedacefaaaGreat.CodeW Go.Proofs.YtpkpnaedacefaaaGreat.Mac Go.Proofs.YtpkpnaedacefaaaGreat.PrintMore
attribute [local go_sem] max2_int min2_int max_two min_two
theorem eqA39 (d : Nat) (w : World) (x0 y0 x1 y1 : Int) :
    (Op.equalIn (d + 2) 47 (.agg #[.int .i64 x0, .int .i64 x1]) (.agg #[.int .i64 y0, .int .i64 y1])).run Tryz.prog w = .ok (x0 == y0 && x1 == y1) w := by
  refine eqA_of Tryz.underlying47 (by kernel_rfl) ?_
  refine eqf_cons (by rfl) (by go_simp; rfl) (by go_simp; rfl) (by go_simp) ?_
  exact eqf_last (by rfl) (by go_simp; rfl) (by go_simp; rfl) (by go_simp)
attribute [local go_sem high] eqA39
theorem is_val (s g : Int) : ((if 1000 < (if s < 0 then 0 else s) then 1000 else (if s < 0 then 0 else s)) == s && (if 1000 < (if g < 0 then 0 else g) then 1000 else (if g < 0 then 0 else g)) == g) = cOk s g := by
  have key : ∀ x : Int, ((if 1000 < (if x < 0 then 0 else x) then 1000 else (if x < 0 then 0 else x)) == x) = (decide (0 ≤ x) && decide (x ≤ 1000)) := by
    intro x
    rw [Bool.eq_iff_iff]
    simp only [beq_iff_eq, Bool.and_eq_true, decide_eq_true_eq]
    split <;> split at * <;> omega
  rw [key s, key g]
  unfold cOk
  simp only [Bool.and_assoc]
set_option maxRecDepth 100000 in
set_option maxHeartbeats 3200000 in
theorem cis_calls (s g : Int) (w : World) : Calls Tryz.prog 89 #[.agg #[.int .i64 s, .int .i64 g]] w fun x w' => x = .returned (.bool (cOk s g)) ∧ Below w.heap.size w w' := by
  have hF := Blk.new w [.int .i64 s, .int .i64 g] 47
  have hB := (Below.refl w.heap.size w).alloc (Nat.le_refl _) (.cells #[.int .i64 s, .int .i64 g] 47)
  have c0 := hF.cell 0
  have c1 := hF.cell 1
  simp only [List.getElem?_cons_zero, List.getElem?_cons_succ] at c0 c1
  have HV := hid (is_val s g)
  go_enter Tryz.func89, Tryz.ntmps89
  go_wp2_with fail
  all_goals
    go_ret
    refine ⟨congrArg (fun b => Ending.returned (Value.bool b)) ?_, hB.alloc (by simp) _⟩
    rw [← HV.out, Bool.eq_iff_iff]
    simp only [beq_iff_eq, Bool.and_eq_true, Bool.false_eq_true, false_iff, true_iff]
    repeat' split
    all_goals omega
set_option maxRecDepth 100000 in
set_option maxHeartbeats 3200000 in
theorem isOff_calls (s g : Int) (w : World) : Calls Tryz.prog 52 #[.agg #[.int .i64 s, .int .i64 g]] w fun x w' => x = .returned (.bool (isOff s)) ∧ Below w.heap.size w w' := by
  have hF := Blk.new w [.int .i64 s, .int .i64 g] 47
  have hB := (Below.refl w.heap.size w).alloc (Nat.le_refl _) (.cells #[.int .i64 s, .int .i64 g] 47)
  have c0 := hF.cell 0
  simp only [List.getElem?_cons_zero, List.getElem?_cons_succ] at c0
  go_enter Tryz.func52, Tryz.ntmps52
  go_wp2_with fail
  go_ret
  exact ⟨rfl, hB⟩
set_option maxRecDepth 100000 in
set_option maxHeartbeats 3200000 in
theorem isPas_calls (s g : Int) (w : World) : Calls Tryz.prog 37 #[.agg #[.int .i64 s, .int .i64 g]] w fun x w' => x = .returned (.bool (isPas s g)) ∧ Below w.heap.size w w' := by
  have hF := Blk.new w [.int .i64 s, .int .i64 g] 47
  have hB := (Below.refl w.heap.size w).alloc (Nat.le_refl _) (.cells #[.int .i64 s, .int .i64 g] 47)
  have c0 := hF.cell 0
  have c1 := hF.cell 1
  simp only [List.getElem?_cons_zero, List.getElem?_cons_succ] at c0 c1
  have HO := hid (fun (W : World) => isOff_calls s g W)
  obtain ⟨X, hX⟩ : ∃ X, X = isPas s g := ⟨_, rfl⟩
  rw [← hX]
  unfold isPas at hX
  have HX := hid hX
  clear hX
  generalize isOff s = O at *
  go_enter Tryz.func37, Tryz.ntmps37
  go_wp2_with fail
  refine (HO.out _).mono ?_
  rintro y w1 ⟨rfl, hb⟩
  have hB := hB.trans (hb.mono hB.size)
  have hF := hF.below hb
  clear c0 c1
  have c0 := hF.cell 0
  have c1 := hF.cell 1
  simp only [List.getElem?_cons_zero, List.getElem?_cons_succ] at c0 c1
  cases O
  · by_cases h1 : 128 ≤ s
    · have e1 : decide ((128 : Int) ≤ s) = true := decide_eq_true h1
      have e2 : ((128 : Int) ≤ s) = True := eq_true h1
      go_wp2_with fail
      go_ret
      rw [HX.out]
      simp only [e1]
      exact ⟨rfl, hB⟩
    · have e1 : decide ((128 : Int) ≤ s) = false := decide_eq_false h1
      have e2 : ((128 : Int) ≤ s) = False := eq_false h1
      go_wp2_with fail
      go_ret
      rw [HX.out]
      simp only [e1]
      exact ⟨by simp, hB⟩
  · go_wp2_with fail
    go_ret
    rw [HX.out]
    exact ⟨rfl, hB⟩
/-- Two counters in memory, those that are told behind them. -/
theorem two_ends {w w1 : World} {g4 : Nat} {g : Nat} {x0 x1 y0 y1 : Value} (hF : Blk w1 g 47 [x0, x1]) (hR : Blk w1 g4 47 [y0, y1]) (hne : g ≠ g4) (hB : Below w.heap.size w w1) (hg : w.heap.size ≤ g) (hg4 : w.heap.size ≤ g4) (a b : Value) :
    ((w1.setCell ⟨g4, 0, none⟩ a).setCell ⟨g4, 1, none⟩ b).cell? ⟨g4, 0, none⟩ = some a ∧ ((w1.setCell ⟨g4, 0, none⟩ a).setCell ⟨g4, 1, none⟩ b).cell? ⟨g4, 1, none⟩ = some b ∧
    Below w.heap.size w ((w1.setCell ⟨g4, 0, none⟩ a).setCell ⟨g4, 1, none⟩ b) := by
  have h := (hR.set 0 a).set 1 b
  exact ⟨h.cell 0, h.cell 1, (hB.setCell (by exact hg4) _).setCell (by exact hg4) _⟩
theorem blk2 {w : World} {g : Nat} {a b : Value} (h : Blk w g 47 [a, b]) : w.cell? ⟨g, 0, none⟩ = some a ∧ w.cell? ⟨g, 1, none⟩ = some b ∧ w.frozen? ⟨g, 0, none⟩ = false ∧ w.frozen? ⟨g, 1, none⟩ = false :=
  ⟨h.cell 0, h.cell 1, h.frozen 0, h.frozen 1⟩
def sentV (s g : Int) (ok : Bool) : Int := if cOk s g then sentC s ok else s
def gotV (s g : Int) (ok : Bool) : Int := if cOk s g then gotC g ok else g
theorem cOk_bounds {s g : Int} (h : cOk s g = true) : 0 ≤ s ∧ s ≤ 1000 ∧ 0 ≤ g ∧ g ≤ 1000 := by
  unfold cOk at h
  simp only [Bool.and_eq_true, decide_eq_true_eq] at h
  exact ⟨h.1, h.2.1, h.2.2.1, h.2.2.2⟩
set_option maxRecDepth 100000 in
set_option maxHeartbeats 3200000 in
theorem sent_calls (s g : Int) (ok : Bool) (w : World) : Calls Tryz.prog 60 #[.agg #[.int .i64 s, .int .i64 g], .bool ok] w fun x w' => x = .returned (.agg #[.int .i64 (sentV s g ok), .int .i64 g]) ∧ Below w.heap.size w w' := by
  have hF := (Blk.new w [.int .i64 s, .int .i64 g] 47).alloc (.cells #[.int .i64 0, .int .i64 0] 47)
  have hR : Blk ((w.alloc (.cells #[.int .i64 s, .int .i64 g] 47)).alloc (.cells #[.int .i64 0, .int .i64 0] 47)) (w.heap.size + 1) 47 [.int .i64 0, .int .i64 0] := by
    have := Blk.new (w.alloc (.cells #[.int .i64 s, .int .i64 g] 47)) [.int .i64 0, .int .i64 0] 47
    simpa using this
  have hB := ((Below.refl w.heap.size w).alloc (Nat.le_refl _) (.cells #[.int .i64 s, .int .i64 g] 47)).alloc (by simp) (.cells #[.int .i64 0, .int .i64 0] 47)
  obtain ⟨c0, c1, f0, f1⟩ := blk2 hF
  have HC := hid (fun (W : World) => cis_calls s g W)
  have HV := hid (rfl : sentV s g ok = sentV s g ok)
  obtain ⟨X, hX⟩ : ∃ X, X = sentV s g ok := ⟨_, rfl⟩
  rw [← hX]
  unfold sentV sentC at hX
  clear HV
  go_enter Tryz.func60, Tryz.ntmps60
  go_wp2_with fail
  refine (HC.out _).mono ?_
  rintro y w1 ⟨rfl, hb⟩
  have hB := hB.trans (hb.mono hB.size)
  have hF := hF.below hb
  have hR := hR.below hb
  clear c0 c1 f0 f1
  obtain ⟨c0, c1, f0, f1⟩ := blk2 hF
  obtain ⟨d0, d1, e0, e1⟩ := blk2 hR
  cases hk : cOk s g
  · rw [hk, if_neg (by simp)] at hX
    have HX := hid hX
    obtain ⟨q0, q1, q2⟩ := two_ends hF hR (by omega) hB (Nat.le_refl _) (by omega) (.int .i64 s) (.int .i64 g)
    have Q2 := hid q2
    clear hX q2 hB hF hR
    go_wp2_with fail
    refine bodyPost_ret (v := .agg #[.int .i64 s, .int .i64 g]) (by simp [results, Tryz.results60, go_sem, q0, q1]) rfl ⟨by rw [HX.out], Q2.out⟩
  · obtain ⟨b0, b1, b2, b3⟩ := cOk_bounds hk
    rw [hk, if_pos rfl] at hX
    cases ok
    · simp only [Bool.false_eq_true, if_false] at hX
      have HX := hid hX
      have hF2 := hF.set 0 (.int .i64 X)
      have hR2 := hR.far (p := ⟨w.heap.size, 0, none⟩) (by show w.heap.size + 1 ≠ w.heap.size; omega) (.int .i64 X)
      have hB2 := hB.setCell (p := ⟨w.heap.size, 0, none⟩) (by exact Nat.le_refl _) (.int .i64 X)
      simp only [List.set_cons_zero] at hF2
      obtain ⟨c0', c1', f0', f1'⟩ := blk2 hF2
      obtain ⟨d0', d1', e0', e1'⟩ := blk2 hR2
      obtain ⟨q0, q1, q2⟩ := two_ends hF2 hR2 (by omega) hB2 (Nat.le_refl _) (by omega) (.int .i64 X) (.int .i64 g)
      have Q2 := hid q2
      have hm : (if (1000 : Int) < s + 8 then 1000 else s + 8) = X := by rw [hX]; split <;> omega
      clear hX q2 hB hF hR hF2 hR2 hB2
      go_wp2_with fail
      refine bodyPost_ret (v := .agg #[.int .i64 X, .int .i64 g]) (by simp [results, Tryz.results60, go_sem, q0, q1]) rfl ⟨rfl, Q2.out⟩
    · simp only [if_true] at hX
      have HX := hid hX
      have hF2 := hF.set 0 (.int .i64 X)
      have hR2 := hR.far (p := ⟨w.heap.size, 0, none⟩) (by show w.heap.size + 1 ≠ w.heap.size; omega) (.int .i64 X)
      have hB2 := hB.setCell (p := ⟨w.heap.size, 0, none⟩) (by exact Nat.le_refl _) (.int .i64 X)
      simp only [List.set_cons_zero] at hF2
      obtain ⟨c0', c1', f0', f1'⟩ := blk2 hF2
      obtain ⟨d0', d1', e0', e1'⟩ := blk2 hR2
      obtain ⟨q0, q1, q2⟩ := two_ends hF2 hR2 (by omega) hB2 (Nat.le_refl _) (by omega) (.int .i64 X) (.int .i64 g)
      have Q2 := hid q2
      have hm : (if s - 1 < 0 then 0 else s - 1) = X := by rw [hX]; split <;> omega
      clear hX q2 hB hF hR hF2 hR2 hB2
      go_wp2_with fail
      refine bodyPost_ret (v := .agg #[.int .i64 X, .int .i64 g]) (by simp [results, Tryz.results60, go_sem, q0, q1]) rfl ⟨rfl, Q2.out⟩
set_option maxRecDepth 100000 in
set_option maxHeartbeats 3200000 in
theorem got_calls (s g : Int) (ok : Bool) (w : World) : Calls Tryz.prog 61 #[.agg #[.int .i64 s, .int .i64 g], .bool ok] w fun x w' => x = .returned (.agg #[.int .i64 s, .int .i64 (gotV s g ok)]) ∧ Below w.heap.size w w' := by
  have hF := (Blk.new w [.int .i64 s, .int .i64 g] 47).alloc (.cells #[.int .i64 0, .int .i64 0] 47)
  have hR : Blk ((w.alloc (.cells #[.int .i64 s, .int .i64 g] 47)).alloc (.cells #[.int .i64 0, .int .i64 0] 47)) (w.heap.size + 1) 47 [.int .i64 0, .int .i64 0] := by
    have := Blk.new (w.alloc (.cells #[.int .i64 s, .int .i64 g] 47)) [.int .i64 0, .int .i64 0] 47
    simpa using this
  have hB := ((Below.refl w.heap.size w).alloc (Nat.le_refl _) (.cells #[.int .i64 s, .int .i64 g] 47)).alloc (by simp) (.cells #[.int .i64 0, .int .i64 0] 47)
  obtain ⟨c0, c1, f0, f1⟩ := blk2 hF
  have HC := hid (fun (W : World) => cis_calls s g W)
  have HV := hid (rfl : gotV s g ok = gotV s g ok)
  obtain ⟨X, hX⟩ : ∃ X, X = gotV s g ok := ⟨_, rfl⟩
  rw [← hX]
  unfold gotV gotC at hX
  clear HV
  go_enter Tryz.func61, Tryz.ntmps61
  go_wp2_with fail
  refine (HC.out _).mono ?_
  rintro y w1 ⟨rfl, hb⟩
  have hB := hB.trans (hb.mono hB.size)
  have hF := hF.below hb
  have hR := hR.below hb
  clear c0 c1 f0 f1
  obtain ⟨c0, c1, f0, f1⟩ := blk2 hF
  obtain ⟨d0, d1, e0, e1⟩ := blk2 hR
  cases hk : cOk s g
  · rw [hk, if_neg (by simp)] at hX
    have HX := hid hX
    obtain ⟨q0, q1, q2⟩ := two_ends hF hR (by omega) hB (Nat.le_refl _) (by omega) (.int .i64 s) (.int .i64 g)
    have Q2 := hid q2
    clear hX q2 hB hF hR
    go_wp2_with fail
    refine bodyPost_ret (v := .agg #[.int .i64 s, .int .i64 g]) (by simp [results, Tryz.results61, go_sem, q0, q1]) rfl ⟨by rw [HX.out], Q2.out⟩
  · obtain ⟨b0, b1, b2, b3⟩ := cOk_bounds hk
    rw [hk, if_pos rfl] at hX
    cases ok
    · simp only [Bool.false_eq_true, if_false] at hX
      have HX := hid hX
      have hF2 := hF.set 1 (.int .i64 X)
      have hR2 := hR.far (p := ⟨w.heap.size, 1, none⟩) (by show w.heap.size + 1 ≠ w.heap.size; omega) (.int .i64 X)
      have hB2 := hB.setCell (p := ⟨w.heap.size, 1, none⟩) (by exact Nat.le_refl _) (.int .i64 X)
      simp only [List.set_cons_zero, List.set_cons_succ] at hF2
      obtain ⟨c0', c1', f0', f1'⟩ := blk2 hF2
      obtain ⟨d0', d1', e0', e1'⟩ := blk2 hR2
      obtain ⟨q0, q1, q2⟩ := two_ends hF2 hR2 (by omega) hB2 (Nat.le_refl _) (by omega) (.int .i64 s) (.int .i64 X)
      have Q2 := hid q2
      have hm : (if (1000 : Int) < g + 1 then 1000 else g + 1) = X := by rw [hX]; split <;> omega
      clear hX q2 hB hF hR hF2 hR2 hB2
      go_wp2_with fail
      refine bodyPost_ret (v := .agg #[.int .i64 s, .int .i64 X]) (by simp [results, Tryz.results61, go_sem, q0, q1]) rfl ⟨rfl, Q2.out⟩
    · simp only [if_true] at hX
      by_cases h127 : 127 < g
      · rw [if_pos h127] at hX
        have e1 : ((127 : Int) < g) = True := eq_true h127
        subst hX
        have hX : (120 : Int) = 120 := rfl
        have HX := hid hX
        have hF2 := hF.set 1 (.int .i64 120)
        have hR2 := hR.far (p := ⟨w.heap.size, 1, none⟩) (by show w.heap.size + 1 ≠ w.heap.size; omega) (.int .i64 120)
        have hB2 := hB.setCell (p := ⟨w.heap.size, 1, none⟩) (by exact Nat.le_refl _) (.int .i64 120)
        simp only [List.set_cons_zero, List.set_cons_succ] at hF2
        obtain ⟨c0', c1', f0', f1'⟩ := blk2 hF2
        obtain ⟨d0', d1', e0', e1'⟩ := blk2 hR2
        obtain ⟨q0, q1, q2⟩ := two_ends hF2 hR2 (by omega) hB2 (Nat.le_refl _) (by omega) (.int .i64 s) (.int .i64 120)
        have Q2 := hid q2
        skip
        clear hX q2 hB hF hR hF2 hR2 hB2
        go_wp2_with fail
        refine bodyPost_ret (v := .agg #[.int .i64 s, .int .i64 120]) (by simp [results, Tryz.results61, go_sem, q0, q1]) rfl ⟨rfl, Q2.out⟩
      · rw [if_neg h127] at hX
        have e1 : ((127 : Int) < g) = False := eq_false h127
        have HX := hid hX
        have hF2 := hF.set 1 (.int .i64 X)
        have hR2 := hR.far (p := ⟨w.heap.size, 1, none⟩) (by show w.heap.size + 1 ≠ w.heap.size; omega) (.int .i64 X)
        have hB2 := hB.setCell (p := ⟨w.heap.size, 1, none⟩) (by exact Nat.le_refl _) (.int .i64 X)
        simp only [List.set_cons_zero, List.set_cons_succ] at hF2
        obtain ⟨c0', c1', f0', f1'⟩ := blk2 hF2
        obtain ⟨d0', d1', e0', e1'⟩ := blk2 hR2
        obtain ⟨q0, q1, q2⟩ := two_ends hF2 hR2 (by omega) hB2 (Nat.le_refl _) (by omega) (.int .i64 s) (.int .i64 X)
        have Q2 := hid q2
        have hm : (if g - 1 < 0 then 0 else g - 1) = X := by rw [hX]; split <;> omega
        clear hX q2 hB hF hR hF2 hR2 hB2
        go_wp2_with fail
        refine bodyPost_ret (v := .agg #[.int .i64 s, .int .i64 X]) (by simp [results, Tryz.results61, go_sem, q0, q1]) rfl ⟨rfl, Q2.out⟩
end Go.Proofs.YtpkpnaedacefaaaGreat.MacW
