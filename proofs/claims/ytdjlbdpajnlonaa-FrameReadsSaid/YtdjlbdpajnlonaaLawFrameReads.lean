/- FrameReads (layer 3): of every row of bits the frame that it begins with, or why there is none. Conditions: none beyond the types of the arguments; rows of more than three hundred are let pass. -/
import Derived.Test.YtdjlbdpajnlonaaFrameKnown
import Derived.OpenShut
namespace Go.Proofs.Ytdjlbdpajnlonaa.FrameL
set_option linter.unusedVariables false
set_option linter.unusedSimpArgs false
open Go Go.RowKit Go.Proofs.Ytdjlbdpajnlonaa.Lib Go.Proofs.Ytdjlbdpajnlonaa.Bits Go.Proofs.Ytdjlbdpajnlonaa.BitsW Go.Proofs.Ytdjlbdpajnlonaa.Frame Go.Proofs.Ytdjlbdpajnlonaa.FrameW Go.Proofs.YtdjlbdpajnlonaaW.PrintMore
attribute [local go_sem] max2_int min2_int max_two min_two
attribute [local go_sem high] QFr.eqA24

theorem parse_f (s : ByteArray) (h : s.size ≤ 140737488351232) : ∃ a b c d e f, Plug.frame_Parse.f s = some (a, b, c, d, e, f) ∧ Plug.ostinatoref3_Parse.f s = some (a, b, c, d, e, f) := by
  unfold Plug.frame_Parse.f Plug.ostinatoref3_Parse.f
  rw [if_pos h]
  exact ⟨_, _, _, _, _, _, rfl, rfl⟩
set_option maxRecDepth 100000 in
set_option maxHeartbeats 3200000 in
theorem reads_calls (s : ByteArray) (w : World) : Calls Try.prog 4 #[.string s] w fun e w' => e = .returned (.bool true) ∧ Below w.heap.size w w' := by
  by_cases h : s.size > 300
  · have h1 : (300 < (s.size : Int)) = True := eq_true (by omega)
    have h2 : decide (300 < (s.size : Int)) = true := decide_eq_true (by omega)
    clear h
    go_enter Try.func4, Try.ntmps4
    go_wp2_with fail
    refine (known_calls _).mono ?_
    rintro e w1 ⟨rfl, hb⟩
    go_wp2_with fail
    go_ret
    exact ⟨rfl, hb⟩
  · have h1 : (300 < (s.size : Int)) = False := eq_false (by omega)
    have h2 : decide (300 < (s.size : Int)) = false := decide_eq_false (by omega)
    obtain ⟨a, b, c, d, e, f, p1, p2⟩ := parse_f s (by omega)
    have P1 := hid p1
    have P2 := hid p2
    clear h p1 p2
    go_enter Try.func4, Try.ntmps4
    go_wp2_with fail
    refine (known_calls _).mono ?_
    rintro x w1 ⟨rfl, hb⟩
    go_wp2_with fail
    refine (Plug.frame_Parse.calls _ _ _ _ _ _ _ _ P1.out).mono ?_
    rintro x w2 ⟨rfl, hb2⟩
    have HB := hb.trans (hb2.mono hb.size)
    have H1 := Blk.new w2 [.bool a, .int .u32 b, .bool c, .string d] 24
    have HB := HB.alloc HB.size (.cells #[.bool a, .int .u32 b, .bool c, .string d] 24)
    clear hb hb2
    go_wp2_with fail
    refine (Plug.ostinatoref3_Parse.calls _ _ _ _ _ _ _ _ P2.out).mono ?_
    rintro x w3 ⟨rfl, hb3⟩
    have H1 := (H1.below hb3).alloc (.cells #[.bool a, .int .u32 b, .bool c, .string d] 24)
    have HB := HB.trans (hb3.mono HB.size)
    have HB := HB.alloc HB.size (.cells #[.bool a, .int .u32 b, .bool c, .string d] 24)
    have H2 := Blk.new w3 [.bool a, .int .u32 b, .bool c, .string d] 24
    obtain ⟨x0, x1, x2, x3⟩ := frame_res H1
    obtain ⟨y0, y1, y2, y3⟩ := frame_res H2
    clear hb3
    go_wp2_with fail
    go_ret
    exact ⟨rfl, HB⟩
theorem reads_walk (s : ByteArray) (w : World) (_ : s.size ≤ 9223372036854775807) : Calls Try.prog 4 #[.string s] w fun e w' => e = .returned (.bool true) ∧ Below w.heap.size w w' := reads_calls s w
end Go.Proofs.Ytdjlbdpajnlonaa.FrameL
