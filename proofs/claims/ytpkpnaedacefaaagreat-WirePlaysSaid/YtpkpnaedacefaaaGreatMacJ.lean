/- The walks of package mac: a bit of the wire. -/
import Derived.Test.YtpkpnaedacefaaaGreatMacH
import Derived.WalkMore
namespace Go.Proofs.YtpkpnaedacefaaaGreat.MacW
set_option linter.unusedVariables false
set_option linter.unusedSimpArgs false
open Go Go.RowKit Go.Proofs.YtpkpnaedacefaaaGreat.Lib Go.Proofs.YtpkpnaedacefaaaGreat.Bits Go.Proofs.YtpkpnaedacefaaaGreat.BitsW Go.Proofs.YtpkpnaedacefaaaGreat.StuffW Go.Proofs.YtpkpnaedacefaaaGreat.Frame Go.Proofs.YtpkpnaedacefaaaGreat.FrameW Go.Proofs.YtpkpnaedacefaaaGreat.Code Go.Proofs.YtpkpnaedacefaaaGreat.CodeW Go.Proofs.YtpkpnaedacefaaaGreat.Mac Go.Proofs.YtpkpnaedacefaaaGreat.PrintMore
attribute [local go_sem] max2_int min2_int max_two min_two
/-- A node within its bounds. -/
structure Safe (m : M) : Prop where
  len : m.r.b.length ≤ 128
  lo : -1000 ≤ m.left
  hi : m.left ≤ 1000
  wf : m.f.wf
  inv : m.st = 1 → m.r.Inv ∧ m.r.en ≤ 1000
  bits : m.on = true → m.pos < m.bits.length ∧ m.bits.length ≤ 1000
theorem two_way {x : Int} {c : Bool} (hx : (x == 48) = !c) : (c = false ∧ x = 48) ∨ (c = true ∧ (x == 48) = false ∧ (x = 48) = False) := by
  cases c
  · exact .inl ⟨rfl, by simpa using hx⟩
  · exact .inr ⟨rfl, hx, eq_false (by simpa using hx)⟩
set_option maxRecDepth 100000 in
set_option maxHeartbeats 6400000 in
theorem sample_calls (g : Nat) (m : M) (c : Bool) (x : Int) (hx : (x == 48) = !c) (w : World) (hb : Blk w g MT (mc m)) (hs : Safe m) : Calls Tryz.prog 28 #[.pointer (some ⟨g, 0, none⟩), .int .u8 x] w fun e w' =>
    ∃ v, e = .returned v ∧ At w w' g (m.sample c).1 ∧ Evs w' w.heap.size v (m.sample c).2 := by
  obtain ⟨c0, c1, c2, c3, c4, c5, c6, c7, c8, c9, c10, c11, c12⟩ := hd13 hb
  have f0 := hb.frozen 0
  have f1 := hb.frozen 1
  have H0 := hid (here_refl hb)
  have HB := hid hb
  have HS := hid hs
  have HTW := hid (two_way hx)
  clear hx hb hs c2 c3 c5 c6 c7 c8 c10 c11 c12
  by_cases h0 : m.st = 0
  · rw [h0] at c0
    rcases HTW.out with ⟨rfl, rfl⟩ | ⟨rfl, ex, ex'⟩
    all_goals clear HTW
    · have hX : m.sample false = m.begins m.waits := by unfold M.sample; simp [h0]
      have HX := hid hX
      have HC := hid (fun s W h => begins_calls g m s W h HS.out.len HS.out.wf)
      clear hX h0
      go_enter Tryz.func28, Tryz.ntmps28
      go_wp2_with fail
      go_step3
      go_wp2_with fail
      go_step3
      go_wp2_with fail
      refine (HC.out m.waits _ HB.out).mono ?_
      rintro y w1 ⟨v, rfl, h1, hev⟩
      have H1 := hid h1
      have HE := hid hev
      clear h1 hev
      go_wp2_with fail
      try rw [Exit.noGoto_ret]
      go_ret
      rw [HX.out]
      exact ⟨_, rfl, H1.out, HE.out⟩
    · have hX : m.sample true = (m, []) := by unfold M.sample; simp [h0]
      have HX := hid hX
      clear hX h0
      go_enter Tryz.func28, Tryz.ntmps28
      go_wp2_with fail
      go_step3
      go_wp2_with fail
      go_step3
      go_wp2_with fail
      try rw [Exit.noGoto_ret]
      go_ret
      rw [HX.out]
      exact ⟨_, rfl, H0.out, evs_nil _ _⟩
  by_cases h1 : m.st = 1
  · rw [h1] at c0
    cases ho : m.on
    · rw [ho] at c9
      have hX : m.sample c = m.hears c := by unfold M.sample; simp [h1, ho]
      have HX := hid hX
      have HC := hid (fun (c : Bool) (x : Int) (hx : x = ((sg c).toNat : Int)) (W : World) (h : Blk W g MT (mc m)) => show Calls Tryz.prog 41 #[.pointer (some ⟨g, 0, none⟩), .int .u8 x] W fun e w' => ∃ v, e = .returned v ∧ At W w' g (m.hears c).1 ∧ Evs w' W.heap.size v (m.hears c).2 by subst hx; exact hears_calls g m c W h (HS.out.inv h1).1 (HS.out.inv h1).2)
      clear hX h0 h1
      rcases HTW.out with ⟨rfl, rfl⟩ | ⟨rfl, ex, ex'⟩
      all_goals clear HTW
      all_goals
        go_enter Tryz.func28, Tryz.ntmps28
        go_wp2_with fail
        go_step3
        go_wp2_with fail
        go_step3
        go_wp2_with fail
        first | with_reducible refine (HC.out true 49 rfl _ HB.out).mono ?_ | with_reducible refine (HC.out false 48 rfl _ HB.out).mono ?_
        rintro y w1 ⟨v, rfl, h1, hev⟩
        have H1 := hid h1
        have HE := hid hev
        clear h1 hev
        go_wp2_with fail
        try rw [Exit.noGoto_ret]
        go_ret
        rw [HX.out]
        exact ⟨_, rfl, H1.out, HE.out⟩
    · rw [ho] at c9
      have hX : m.sample c = m.sends c := by unfold M.sample; simp [h1, ho]
      have HX := hid hX
      have HC := hid (fun (c : Bool) (x : Int) (hx : x = ((sg c).toNat : Int)) (W : World) (h : Blk W g MT (mc m)) => show Calls Tryz.prog 40 #[.pointer (some ⟨g, 0, none⟩), .int .u8 x] W fun e w' => ∃ v, e = .returned v ∧ At W w' g (m.sends c).1 ∧ Evs w' W.heap.size v (m.sends c).2 by subst hx; exact sends_calls g m c W h (HS.out.inv h1).1 (HS.out.inv h1).2 (HS.out.bits ho).1 (HS.out.bits ho).2)
      clear hX h0 h1
      rcases HTW.out with ⟨rfl, rfl⟩ | ⟨rfl, ex, ex'⟩
      all_goals clear HTW
      all_goals
        go_enter Tryz.func28, Tryz.ntmps28
        go_wp2_with fail
        go_step3
        go_wp2_with fail
        go_step3
        go_wp2_with fail
        first | with_reducible refine (HC.out true 49 rfl _ HB.out).mono ?_ | with_reducible refine (HC.out false 48 rfl _ HB.out).mono ?_
        rintro y w1 ⟨v, rfl, h1, hev⟩
        have H1 := hid h1
        have HE := hid hev
        clear h1 hev
        go_wp2_with fail
        try rw [Exit.noGoto_ret]
        go_ret
        rw [HX.out]
        exact ⟨_, rfl, H1.out, HE.out⟩
  by_cases h2 : m.st = 2
  · rw [h2] at c0
    have hX : m.sample c = (m.pauses, []) := by unfold M.sample; simp [h2]
    have HX := hid hX
    have HC := hid (fun W h => pauses_calls g m W h)
    clear hX h0 h1 h2
    rcases HTW.out with ⟨rfl, rfl⟩ | ⟨rfl, ex, ex'⟩
    all_goals clear HTW
    all_goals
      go_enter Tryz.func28, Tryz.ntmps28
      go_wp2_with fail
      go_step3
      go_wp2_with fail
      go_step3
      go_wp2_with fail
      refine (HC.out _ HB.out).mono ?_
      rintro y w1 ⟨rfl, h1⟩
      have H1 := hid h1
      clear h1
      go_wp2_with fail
      try rw [Exit.noGoto_ret]
      go_ret
      rw [HX.out]
      exact ⟨_, rfl, H1.out, evs_nil _ _⟩
  have HC := hid (fun s l W h => counted_calls g m s l W h HS.out.lo HS.out.hi)
  by_cases h3 : m.st = 3
  · rw [h3] at c0
    have hX : m.sample c = (m.counted 4 0, []) := by unfold M.sample; simp [h3]
    have HX := hid hX
    clear hX h0 h1 h2 h3
    rcases HTW.out with ⟨rfl, rfl⟩ | ⟨rfl, ex, ex'⟩
    all_goals clear HTW
    all_goals
      go_enter Tryz.func28, Tryz.ntmps28
      go_wp2_with fail
      go_step3
      go_wp2_with fail
      go_step3
      go_wp2_with fail
      refine (HC.out 4 0 _ HB.out).mono ?_
      rintro y w1 ⟨rfl, h1⟩
      have H1 := hid h1
      clear h1
      go_wp2_with fail
      try rw [Exit.noGoto_ret]
      go_ret
      rw [HX.out]
      exact ⟨_, rfl, H1.out, evs_nil _ _⟩
  by_cases h4 : m.st = 4
  · rw [h4] at c0
    rcases HTW.out with ⟨rfl, rfl⟩ | ⟨rfl, ex, ex'⟩
    all_goals clear HTW
    · have hX : m.sample false = (m, []) := by unfold M.sample; simp [h4]
      have HX := hid hX
      clear hX h0 h1 h2 h3 h4
      go_enter Tryz.func28, Tryz.ntmps28
      go_wp2_with fail
      go_step3
      go_wp2_with fail
      go_step3
      go_wp2_with fail
      try rw [Exit.noGoto_ret]
      go_ret
      rw [HX.out]
      exact ⟨_, rfl, H0.out, evs_nil _ _⟩
    · have hX : m.sample true = ({ m with st := 5, left := 7 }, []) := by unfold M.sample; simp [h4]
      have HX := hid hX
      have HN := hid (show At w _ g { m with st := 5, left := 7 } from (H0.out.set 0 (.int .i64 5)).set 1 (.int .i64 7))
      clear hX h0 h1 h2 h3 h4
      go_enter Tryz.func28, Tryz.ntmps28
      go_wp2_with fail
      go_step3
      go_wp2_with fail
      go_step3
      go_wp2_with fail
      try rw [Exit.noGoto_ret]
      go_ret
      rw [HX.out]
      exact ⟨_, rfl, HN.out, evs_nil _ _⟩
  by_cases h5 : m.st = 5
  · rw [h5] at c0
    rcases HTW.out with ⟨rfl, rfl⟩ | ⟨rfl, ex, ex'⟩
    all_goals clear HTW
    · have hX : m.sample false = ({ m with left := 7 }, []) := by unfold M.sample; simp [h5]
      have HX := hid hX
      have HN := hid (show At w _ g { m with left := 7 } from H0.out.set 1 (.int .i64 7))
      clear hX h0 h1 h2 h3 h4 h5
      go_enter Tryz.func28, Tryz.ntmps28
      go_wp2_with fail
      go_step3
      go_wp2_with fail
      go_step3
      go_wp2_with fail
      try rw [Exit.noGoto_ret]
      go_ret
      rw [HX.out]
      exact ⟨_, rfl, HN.out, evs_nil _ _⟩
    · have hX : m.sample true = (m.counted 6 3, []) := by unfold M.sample; simp [h5]
      have HX := hid hX
      clear hX h0 h1 h2 h3 h4 h5
      go_enter Tryz.func28, Tryz.ntmps28
      go_wp2_with fail
      go_step3
      go_wp2_with fail
      go_step3
      go_wp2_with fail
      refine (HC.out 6 3 _ HB.out).mono ?_
      rintro y w1 ⟨rfl, h1⟩
      have H1 := hid h1
      clear h1
      go_wp2_with fail
      try rw [Exit.noGoto_ret]
      go_ret
      rw [HX.out]
      exact ⟨_, rfl, H1.out, evs_nil _ _⟩
  by_cases h6 : m.st = 6
  · rw [h6] at c0
    rcases HTW.out with ⟨rfl, rfl⟩ | ⟨rfl, ex, ex'⟩
    all_goals clear HTW
    · have hX : m.sample false = m.begins false := by unfold M.sample; simp [h6]
      have HX := hid hX
      have HC := hid (fun s W h => begins_calls g m s W h HS.out.len HS.out.wf)
      clear hX h0 h1 h2 h3 h4 h5 h6
      go_enter Tryz.func28, Tryz.ntmps28
      go_wp2_with fail
      go_step3
      go_wp2_with fail
      go_step3
      go_wp2_with fail
      refine (HC.out false _ HB.out).mono ?_
      rintro y w1 ⟨v, rfl, h1, hev⟩
      have H1 := hid h1
      have HE := hid hev
      clear h1 hev
      go_wp2_with fail
      try rw [Exit.noGoto_ret]
      go_ret
      rw [HX.out]
      exact ⟨_, rfl, H1.out, HE.out⟩
    · have hX : m.sample true = (m.counted 0 0, []) := by unfold M.sample; simp [h6]
      have HX := hid hX
      clear hX h0 h1 h2 h3 h4 h5 h6
      go_enter Tryz.func28, Tryz.ntmps28
      go_wp2_with fail
      go_step3
      go_wp2_with fail
      go_step3
      go_wp2_with fail
      refine (HC.out 0 0 _ HB.out).mono ?_
      rintro y w1 ⟨rfl, h1⟩
      have H1 := hid h1
      clear h1
      go_wp2_with fail
      try rw [Exit.noGoto_ret]
      go_ret
      rw [HX.out]
      exact ⟨_, rfl, H1.out, evs_nil _ _⟩
  · have hX : m.sample c = (m, []) := by unfold M.sample; simp [h0, h1, h2, h3, h4, h5, h6]
    have HX := hid hX
    have e0 : (m.st == 0) = false := by simp [h0]
    have e1 : (m.st == 1) = false := by simp [h1]
    have e2 : (m.st == 2) = false := by simp [h2]
    have e3 : (m.st == 3) = false := by simp [h3]
    have e4 : (m.st == 4) = false := by simp [h4]
    have e5 : (m.st == 5) = false := by simp [h5]
    have e6 : (m.st == 6) = false := by simp [h6]
    have g0 : (m.st = 0) = False := eq_false h0
    have g1 : (m.st = 1) = False := eq_false h1
    have g2 : (m.st = 2) = False := eq_false h2
    have g3 : (m.st = 3) = False := eq_false h3
    have g4 : (m.st = 4) = False := eq_false h4
    have g5 : (m.st = 5) = False := eq_false h5
    have g6 : (m.st = 6) = False := eq_false h6
    clear hX h0 h1 h2 h3 h4 h5 h6
    rcases HTW.out with ⟨rfl, rfl⟩ | ⟨rfl, ex, ex'⟩
    all_goals clear HTW
    all_goals
      go_enter Tryz.func28, Tryz.ntmps28
      go_wp2_with fail
      go_step3
      go_wp2_with fail
      go_step3
      go_wp2_with fail
      try rw [Exit.noGoto_ret]
      go_ret
      rw [HX.out]
      exact ⟨_, rfl, H0.out, evs_nil _ _⟩
end Go.Proofs.YtpkpnaedacefaaaGreat.MacW
