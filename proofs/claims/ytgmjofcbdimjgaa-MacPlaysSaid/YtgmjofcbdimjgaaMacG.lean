/- The walks of package mac: a bit of another one's frame. -/
import Derived.Test.YtgmjofcbdimjgaaMacF
import Derived.Test.YtgmjofcbdimjgaaCodeFacts
namespace Go.Proofs.Ytgmjofcbdimjgaa.MacW
set_option linter.unusedVariables false
set_option linter.unusedSimpArgs false
open Go Go.RowKit Go.Proofs.Ytgmjofcbdimjgaa.Lib Go.Proofs.Ytgmjofcbdimjgaa.Bits Go.Proofs.Ytgmjofcbdimjgaa.BitsW Go.Proofs.Ytgmjofcbdimjgaa.StuffW Go.Proofs.Ytgmjofcbdimjgaa.Frame Go.Proofs.Ytgmjofcbdimjgaa.FrameW Go.Proofs.Ytgmjofcbdimjgaa.Code Go.Proofs.Ytgmjofcbdimjgaa.CodeW Go.Proofs.Ytgmjofcbdimjgaa.Mac Go.Proofs.Ytgmjofcbdimjgaa.PrintMore
attribute [local go_sem] max2_int min2_int max_two min_two
theorem inv_ok {r : Rd} (h : r.Inv) (he : r.en ≤ 1000000) : Rd.Ok r := ⟨by have := h.rn; omega, by have := h.len; omega, by have := h.need; omega, h.sum, he⟩
set_option maxRecDepth 100000 in
set_option maxHeartbeats 3200000 in
theorem hears_calls (g : Nat) (m : M) (c : Bool) (w : World) (hb : Blk w g MT (mc m)) (hi : m.r.Inv) (he : m.r.en ≤ 1000) : Calls Try.prog 42 #[.pointer (some ⟨g, 0, none⟩), .int .u8 ((sg c).toNat : Int)] w fun e w' =>
    ∃ v, e = .returned v ∧ At w w' g (m.hears c).1 ∧ Evs w' w.heap.size v (m.hears c).2 := by
  have hl : m.r.b.length ≤ 128 := by have := hi.len; omega
  have HP := hid (npush_calls g m c w hb (inv_ok hi (by omega)) hl hi.rn (by omega))
  have HI := hid (fun W b => got_calls m.sent m.got b W)
  have hX : m.hears c = if (m.r.push c).2 ≠ 0 then M.flags { m with r := (m.r.push c).1, got := if cOk m.sent m.got then gotC m.got false else m.got } ⟨5, Fm.zero, (m.r.push c).2⟩
      else if (m.r.push c).1.en - 3 < 6 then ({ m with r := (m.r.push c).1 }, [])
      else ({ m with r := (m.r.push c).1, st := 2, got := if cOk m.sent m.got then gotC m.got true else m.got }, [⟨2, Fm.of (parseL (m.r.push c).1.b).1, 0⟩]) := rfl
  have hpi := hi.push c
  generalize m.hears c = X at hX
  generalize m.r.push c = z at hX HP hpi
  obtain ⟨r', q⟩ := z
  simp only at hX HP hpi
  have hs : m.sent = ({ m with r := r' } : M).sent := rfl
  have hg : m.got = ({ m with r := r' } : M).got := rfl
  obtain ⟨m1, hm1⟩ : ∃ m1, m1 = ({ m with r := r' } : M) := ⟨_, rfl⟩
  have e1 : ({ m with r := r', got := if cOk m.sent m.got then gotC m.got false else m.got } : M) = { m1 with got := gotV m.sent m.got false } := by rw [hm1]; rfl
  have e2 : ({ m with r := r', st := 2, got := if cOk m.sent m.got then gotC m.got true else m.got } : M) = { m1 with st := 2, got := gotV m.sent m.got true } := by rw [hm1]; rfl
  have er : m1.r = r' := by rw [hm1]
  rw [e1, e2] at hX
  rw [← hm1] at hX HP hs hg
  generalize m.sent = s0 at *
  generalize m.got = g0 at *
  have HS := hid hs
  have HG := hid hg
  clear hm1 e1 e2 hb hl hs hg
  by_cases h0 : q = 0
  · subst h0
    rw [if_neg (by simp)] at hX
    obtain ⟨hi', hen'⟩ := hpi rfl
    rw [← er] at hi' hen' hX
    have hl1 : m1.r.b.length ≤ 128 := by have := hi'.len; omega
    have HE := hid (fun (W : World) (h : Blk W g MT (mc m1)) => end_calls g 13 MT (mc m1) m1.r W h (mc_rd m1 hl1) (inv_ok hi' (by omega)))
    by_cases h6 : m1.r.en - 3 < 6
    · rw [if_pos h6] at hX
      have HX := hid hX
      have e6 : (((m1.r.en - 3 : Nat) : Int) < 6) = True := eq_true (by omega)
      have e6' : decide (((m1.r.en - 3 : Nat) : Int) < 6) = true := decide_eq_true (by omega)
      clear hX h6 hi' hen' hl1 hpi hi er HI
      generalize ((m1.r.en - 3 : Nat) : Int) = n at HE e6 e6'
      go_enter Try.func42, Try.ntmps42
      go_wp2_with fail
      refine HP.out.mono ?_
      rintro y w1 ⟨rfl, h1⟩
      have H1 := hid h1
      clear h1 HP
      go_wp2_with fail
      refine (HE.out _ H1.out.blk).mono ?_
      rintro y w2 ⟨rfl, rfl⟩
      go_wp2_with fail
      go_ret
      rw [HX.out]
      exact ⟨_, rfl, H1.out, evs_nil _ _⟩
    · rw [if_neg h6] at hX
      have HX := hid hX
      have e6 : (((m1.r.en - 3 : Nat) : Int) < 6) = False := eq_false (by omega)
      have e6' : decide (((m1.r.en - 3 : Nat) : Int) < 6) = false := decide_eq_false (by omega)
      have HF := hid (fun (m' : M) (W : World) (hr : m'.r = m1.r) (h : Blk W g MT (mc m')) => frame_calls g 13 MT (mc m') m'.r W h (mc_rd m' (by rw [hr]; exact hl1)) (by rw [hr]; exact inv_ok hi' (by omega)))
      clear hX h6 hi' hen' hl1 hpi hi er
      generalize ((m1.r.en - 3 : Nat) : Int) = n at HE e6 e6'
      go_enter Try.func42, Try.ntmps42
      go_wp2_with fail
      refine HP.out.mono ?_
      rintro y w1 ⟨rfl, h1⟩
      have H1 := hid h1
      clear h1 HP
      go_wp2_with fail
      refine (HE.out _ H1.out.blk).mono ?_
      rintro y w2 ⟨rfl, rfl⟩
      have d0 := (hd13 H1.out.blk).st
      have f0 := H1.out.blk.frozen 0
      have h2 := H1.out.set 0 (.int .i64 2)
      have c2 := (hd13 (m := { m1 with st := 2 }) h2.blk).sent
      have c3 := (hd13 (m := { m1 with st := 2 }) h2.blk).got
      simp only at c2 c3
      rw [← HS.out] at c2
      rw [← HG.out] at c3
      have H2 := hid (show At w _ g { m1 with st := 2 } from h2)
      clear h2 H1 HE
      go_wp2_with fail
      refine (HI.out _ true).mono ?_
      rintro y w3 ⟨rfl, hbl⟩
      have h3 := H2.out.later hbl
      clear c2 c3 f0 d0 H2 hbl
      have c2 := (hd13 h3.blk).sent
      have c3 := (hd13 h3.blk).got
      have f2 := h3.blk.frozen 2
      have f3 := h3.blk.frozen 3
      have h4 := (h3.set 2 (.int .i64 s0)).set 3 (.int .i64 (gotV s0 g0 true))
      have h5 : At w ((w3.setCell ⟨g, 2, none⟩ (.int .i64 s0)).setCell ⟨g, 3, none⟩ (.int .i64 (gotV s0 g0 true))) g { m1 with st := 2, got := gotV s0 g0 true } := by
        rw [HS.out] at h4 ⊢
        exact h4
      have H5 := hid h5
      clear h3 h4 h5
      go_wp2_with fail
      refine (HF.out { m1 with st := 2, got := gotV s0 g0 true } _ rfl H5.out.blk).mono ?_
      rintro y w6 ⟨rfl, hbl⟩
      have H6 := hid (H5.out.later hbl)
      clear H5 HF hbl c2 c3 f2 f3
      simp only at HX H6 ⊢
      generalize (parseL m1.r.b).1 = p at HX
      obtain ⟨p1, p2, p3, p4⟩ := p
      simp only at HX ⊢
      go_wp2_with fail
      go_ret
      rw [HX.out]
      refine ⟨_, rfl, ⟨H6.out.blk.alloc _, grown_alloc H6.out.grown _⟩, ?_⟩
      exact evs_new (L := [⟨2, Fm.of (p1, p2, p3, p4), 0⟩]) (cs := ec ⟨2, Fm.of (p1, p2, p3, p4), 0⟩) rfl (List.append_nil _).symm H6.out.grown.size (Nat.le_of_ble_eq_true rfl)
  · rw [if_pos h0] at hX
    have HX := hid hX
    have e0 : ((q : Int) = 0) = False := eq_false (by omega)
    have e0' : ((q : Int) == 0) = false := by simp; omega
    have HL := hid (fun W h => flags_calls g { m1 with got := gotV s0 g0 false } ⟨5, Fm.zero, q⟩ W h)
    clear hX hpi hi er h0
    go_enter Try.func42, Try.ntmps42
    go_wp2_with fail
    refine HP.out.mono ?_
    rintro y w1 ⟨rfl, h1⟩
    have H1 := hid h1
    have c2 := (hd13 h1.blk).sent
    have c3 := (hd13 h1.blk).got
    rw [← HS.out] at c2
    rw [← HG.out] at c3
    clear h1 HP
    go_wp2_with fail
    refine (HI.out _ false).mono ?_
    rintro y w3 ⟨rfl, hbl⟩
    have h3 := H1.out.later hbl
    clear c2 c3 H1 hbl
    have c2 := (hd13 h3.blk).sent
    have c3 := (hd13 h3.blk).got
    have f2 := h3.blk.frozen 2
    have f3 := h3.blk.frozen 3
    have h4 := (h3.set 2 (.int .i64 s0)).set 3 (.int .i64 (gotV s0 g0 false))
    have h5 : At w ((w3.setCell ⟨g, 2, none⟩ (.int .i64 s0)).setCell ⟨g, 3, none⟩ (.int .i64 (gotV s0 g0 false))) g { m1 with got := gotV s0 g0 false } := by
      rw [HS.out] at h4 ⊢
      exact h4
    have H5 := hid h5
    clear h3 h4 h5
    go_wp2_with fail
    refine (HL.out _ H5.out.blk).mono ?_
    rintro y w5 ⟨v, rfl, hw5, hev⟩
    have H6 := hid (at_keep H5.out hw5)
    have HE := hid (evs_in hev H5.out.grown.size)
    clear H5 hw5 hev c2 c3 f2 f3
    go_wp2_with fail
    go_ret
    rw [HX.out]
    exact ⟨_, rfl, H6.out, HE.out⟩
end Go.Proofs.Ytgmjofcbdimjgaa.MacW
