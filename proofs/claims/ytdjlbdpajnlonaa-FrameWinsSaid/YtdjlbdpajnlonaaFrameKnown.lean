/- The laws' own examples of layer 3 answer yes. -/
import Derived.Test.YtdjlbdpajnlonaaFrameB
namespace Go.Proofs.Ytdjlbdpajnlonaa.FrameL
set_option linter.unusedVariables false
set_option linter.unusedSimpArgs false
open Go Go.RowKit Go.Proofs.Ytdjlbdpajnlonaa.Lib Go.Proofs.Ytdjlbdpajnlonaa.Bits Go.Proofs.Ytdjlbdpajnlonaa.BitsW Go.Proofs.Ytdjlbdpajnlonaa.Frame Go.Proofs.Ytdjlbdpajnlonaa.FrameW Go.Proofs.YtdjlbdpajnlonaaW.PrintMore
attribute [local go_sem] max2_int min2_int max_two min_two
attribute [local go_sem high] QFr.eqA24

def knownB : ByteArray := ⟨#[48,48,48,49,48,48,49,48,48,48,49,49,48,48,48,48,48,48,49,48,48,48,48,49,48,49,48]⟩
theorem k_body : bodyF false 291 false ⟨#[10]⟩ = knownB := by decide +kernel
theorem k_parse : Plug.frame_Parse.f (knownB ++ ⟨#[49, 49, 49]⟩) = some (false, 291, false, ⟨#[10]⟩, 27, 0) := by decide +kernel
theorem k_parse0 : Plug.frame_Parse.f ⟨#[48]⟩ = some (false, 0, false, ⟨#[]⟩, 0, 10) := by decide +kernel
theorem k_parse1 : Plug.frame_Parse.f ⟨#[49]⟩ = some (false, 0, false, ⟨#[]⟩, 0, 12) := by decide +kernel
theorem k_is : okF false 291 false ⟨#[10]⟩ = true := by decide +kernel
theorem k_not : okF false 2048 false ⟨#[]⟩ = false := by decide +kernel
theorem k_cmp : FrameEq.cmpF false 291 false ⟨#[10]⟩ false 292 false ⟨#[]⟩ = -1 := by decide +kernel
theorem k_text : textF false 291 false ⟨#[10]⟩ = ⟨#[49, 50, 51, 35, 48, 65]⟩ := by decide +kernel
theorem k_arb : (arbF false 291 false ⟨#[10]⟩).size = 14 := by decide +kernel
theorem k_size : knownB.size = 27 := rfl

set_option maxRecDepth 100000 in
set_option maxHeartbeats 3200000 in
theorem known_calls (w : World) : Calls Try.prog 11 #[] w fun e w' => e = .returned (.bool true) ∧ Below w.heap.size w w' := by
  have H1 := Blk.new w [.bool false, .int .u32 291, .bool false, .string ⟨#[10]⟩] 24
  have HB := (Below.refl w.heap.size w).alloc (Nat.le_refl _) (.cells #[.bool false, .int .u32 291, .bool false, .string ⟨#[10]⟩] 24)
  have HW := hid (Nat.le_refl w.heap.size)
  have ksz := k_size
  have kar := k_arb
  go_enter Try.func11, Try.ntmps11
  go_wp2_with fail
  refine (Plug.frame_Body.calls false 291 false ⟨#[10]⟩ _ _ (by unfold Plug.frame_Body.f; rw [if_pos (by decide)])).mono ?_
  rintro e w1 ⟨rfl, hb⟩
  rw [k_body]
  have H1 := H1.below hb
  have HB := HB.trans (hb.mono HB.size)
  clear hb
  go_wp2_with fail
  refine (Plug.frame_Parse.calls _ _ _ _ _ _ _ _ k_parse).mono ?_
  rintro e w2 ⟨rfl, hb⟩
  have H1 := (H1.below hb)
  have HB := (HB.trans (hb.mono HB.size))
  have H3 := Blk.new w2 [.bool false, .int .u32 291, .bool false, .string ⟨#[10]⟩] 24
  have H1 := H1.alloc (.cells #[.bool false, .int .u32 291, .bool false, .string ⟨#[10]⟩] 24)
  have HB := HB.alloc HB.size (.cells #[.bool false, .int .u32 291, .bool false, .string ⟨#[10]⟩] 24)
  clear hb
  go_wp2_with fail
  refine (Plug.frame_Parse.calls _ _ _ _ _ _ _ _ k_parse0).mono ?_
  rintro e w3 ⟨rfl, hb⟩
  generalize w2.heap.size = g3 at *
  have H1 := (H1.below hb).alloc (.cells #[.bool false, .int .u32 0, .bool false, .string ⟨#[]⟩] 24)
  have H3 := (H3.below hb).alloc (.cells #[.bool false, .int .u32 0, .bool false, .string ⟨#[]⟩] 24)
  have HB := (HB.trans (hb.mono HB.size))
  have HB := HB.alloc HB.size (.cells #[.bool false, .int .u32 0, .bool false, .string ⟨#[]⟩] 24)
  clear hb
  go_wp2_with fail
  refine (Plug.frame_Parse.calls _ _ _ _ _ _ _ _ k_parse1).mono ?_
  rintro e w4 ⟨rfl, hb⟩
  have H1 := (H1.below hb).alloc (.cells #[.bool false, .int .u32 0, .bool false, .string ⟨#[]⟩] 24)
  have H3 := (H3.below hb).alloc (.cells #[.bool false, .int .u32 0, .bool false, .string ⟨#[]⟩] 24)
  have HB := (HB.trans (hb.mono HB.size))
  have HB := HB.alloc HB.size (.cells #[.bool false, .int .u32 0, .bool false, .string ⟨#[]⟩] 24)
  clear hb
  generalize hg1 : w.heap.size = g1 at *
  have HG1 := hid hg1
  clear hg1
  obtain ⟨x0, x1, x2, x3⟩ := frame_res H1
  go_wp2_with fail
  refine (frame_is false 291 false ⟨#[10]⟩ _).mono ?_
  rintro e w5 ⟨rfl, hb⟩
  rw [k_is]
  have hs4 := H1.lt
  have H1 := (H1.below hb)
  have H3 := (H3.below hb)
  have HB := (HB.trans (hb.mono (Nat.le_of_lt hs4)))
  clear hb x0 x1 x2 x3
  obtain ⟨x0, x1, x2, x3⟩ := frame_res H1
  obtain ⟨y0, y1, y2, y3⟩ := frame_res H3
  go_wp2_with fail
  refine (frame_is false 2048 false ⟨#[]⟩ _).mono ?_
  rintro e w6 ⟨rfl, hb⟩
  rw [k_not]
  have hs4 := H1.lt
  have H1 := (H1.below hb)
  have H3 := (H3.below hb)
  have HB := (HB.trans (hb.mono (Nat.le_of_lt hs4)))
  clear hb x0 x1 x2 x3 y0 y1 y2 y3
  obtain ⟨x0, x1, x2, x3⟩ := frame_res H1
  obtain ⟨y0, y1, y2, y3⟩ := frame_res H3
  go_wp2_with fail
  refine (Plug.frame_Cmp.calls false 291 false ⟨#[10]⟩ false 292 false ⟨#[]⟩ _ _ (by unfold Plug.frame_Cmp.f; rw [if_pos (by decide), k_cmp])).mono ?_
  rintro e w7 ⟨rfl, hb⟩
  have hs4 := H1.lt
  have H1 := (H1.below hb)
  have H3 := (H3.below hb)
  have HB := (HB.trans (hb.mono (Nat.le_of_lt hs4)))
  clear hb x0 x1 x2 x3 y0 y1 y2 y3
  obtain ⟨x0, x1, x2, x3⟩ := frame_res H1
  obtain ⟨y0, y1, y2, y3⟩ := frame_res H3
  go_wp2_with fail
  refine (Plug.frame_Text.calls false 291 false ⟨#[10]⟩ _ _ (by unfold Plug.frame_Text.f; rw [if_pos (by decide), k_text])).mono ?_
  rintro e w8 ⟨rfl, hb⟩
  have hs4 := H1.lt
  have H1 := (H1.below hb)
  have H3 := (H3.below hb)
  have HB := (HB.trans (hb.mono (Nat.le_of_lt hs4)))
  clear hb x0 x1 x2 x3 y0 y1 y2 y3
  obtain ⟨x0, x1, x2, x3⟩ := frame_res H1
  obtain ⟨y0, y1, y2, y3⟩ := frame_res H3
  go_wp2_with fail
  refine (Plug.frame_Arb.calls false 291 false ⟨#[10]⟩ _ _ (by unfold Plug.frame_Arb.f; rw [if_pos (by decide)])).mono ?_
  rintro e w9 ⟨rfl, hb⟩
  have hs4 := H1.lt
  have H1 := (H1.below hb)
  have H3 := (H3.below hb)
  have HB := (HB.trans (hb.mono (Nat.le_of_lt hs4)))
  clear hb x0 x1 x2 x3 y0 y1 y2 y3
  obtain ⟨x0, x1, x2, x3⟩ := frame_res H1
  obtain ⟨y0, y1, y2, y3⟩ := frame_res H3
  go_wp2_with fail
  go_ret
  exact ⟨rfl, by rw [HG1.out]; exact HB⟩
end Go.Proofs.Ytdjlbdpajnlonaa.FrameL
namespace Go.Proofs.Ytdjlbdpajnlonaa.Plug
set_option linter.unusedVariables false
set_option linter.unusedSimpArgs false
open Go Go.RowKit
def ostinatolaw3_known.f : Option Bool := some true
theorem ostinatolaw3_known.calls (r : Bool) (w : World) (h : ostinatolaw3_known.f = some r) : Calls Try.prog 11 #[] w fun e w' => e = .returned (.bool r) ∧ Below w.heap.size w w' := by
  simp only [ostinatolaw3_known.f, Option.some.injEq] at h; subst h
  exact FrameL.known_calls w
end Go.Proofs.Ytdjlbdpajnlonaa.Plug
