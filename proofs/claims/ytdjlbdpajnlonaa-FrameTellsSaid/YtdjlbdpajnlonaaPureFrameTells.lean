/- FrameTells (layer 3): of every frame whether it is one, its bits, its text; of every two which one wins. Conditions: none beyond the types of the arguments; longer data is let pass. -/
import Derived.Test.YtdjlbdpajnlonaaQFrameTellsx2
import Derived.OpenShut
namespace Go.Proofs.Ytdjlbdpajnlonaa.Pure
set_option linter.unusedVariables false
set_option linter.unusedSimpArgs false
open Go Go.RowKit Go.Proofs.Ytdjlbdpajnlonaa.Bits Go.Proofs.Ytdjlbdpajnlonaa.Frame Go.Proofs.Ytdjlbdpajnlonaa.FrameEq Go.Proofs.Ytdjlbdpajnlonaa.Plug Go.Proofs.Ytdjlbdpajnlonaa.QFrameTells Go.Proofs.YtdjlbdpajnlonaaW.PrintWords Go.Proofs.YtdjlbdpajnlonaaW.PrintLast

theorem tells_j1 (e1 : Bool) (i1 : Int) (r1 : Bool) (d1 : ByteArray) (e2 : Bool) (i2 : Int) (r2 : Bool) (d2 : ByteArray) (b1 : 0 ≤ i1 ∧ i1 < 4294967296) (b2 : 0 ≤ i2 ∧ i2 < 4294967296) :
    ostinatolaw3_FrameTells.j1 1 false e1 i1 r1 d1 e2 i2 r2 d2 = some true := by
  rw [ostinatolaw3_FrameTells.j1, if_neg (by simp), show ostinatoref3_Is.f e1 i1 r1 d1 = some (okF e1 i1 r1 d1) from rfl, Option.bind_some]
  cases h1 : okF e1 i1 r1 d1
  · rw [if_neg (by simp)]
  · rw [if_pos rfl, show ostinatoref3_Is.f e2 i2 r2 d2 = some (okF e2 i2 r2 d2) from rfl, Option.bind_some]
    cases h2 : okF e2 i2 r2 d2
    · rw [if_neg (by simp)]
    · rw [if_pos rfl]
      unfold frame_Cmp.f ostinatoref3_Cmp.f
      rw [if_pos ⟨b1, b2⟩, Option.bind_some, if_pos ⟨⟨b1, b2⟩, h1, h2⟩, Option.bind_some, cmpF_ok h1 h2]
      simp
theorem tells_j0 (e1 : Bool) (i1 : Int) (r1 : Bool) (d1 : ByteArray) (e2 : Bool) (i2 : Int) (r2 : Bool) (d2 : ByteArray) (b1 : 0 ≤ i1 ∧ i1 < 4294967296) (b2 : 0 ≤ i2 ∧ i2 < 4294967296) (x : Bool) :
    ostinatolaw3_FrameTells.j0 2 x e1 i1 r1 d1 e2 i2 r2 d2 = some true := by
  rw [ostinatolaw3_FrameTells.j0]
  cases x
  · rw [if_neg (by simp), show frame_Is.f e1 i1 r1 d1 = some (okF e1 i1 r1 d1) from rfl, Option.bind_some, show ostinatoref3_Is.f e1 i1 r1 d1 = some (okF e1 i1 r1 d1) from rfl, Option.bind_some, if_neg (by simp)]
    have c1 : frame_Body.f e1 i1 r1 d1 = some (bodyF e1 i1 r1 d1) := by unfold frame_Body.f; rw [if_pos b1]
    have c2 : ostinatoref3_Body.f e1 i1 r1 d1 = some (bodyF e1 i1 r1 d1) := by unfold ostinatoref3_Body.f; rw [if_pos b1]
    have c3 : frame_Arb.f e1 i1 r1 d1 = some (arbF e1 i1 r1 d1) := by unfold frame_Arb.f; rw [if_pos b1]
    have c4 : ostinatoref3_Arb.f e1 i1 r1 d1 = some (arbF e1 i1 r1 d1) := by unfold ostinatoref3_Arb.f; rw [if_pos b1]
    have c5 : frame_Text.f e1 i1 r1 d1 = some (textF e1 i1 r1 d1) := by unfold frame_Text.f; rw [if_pos b1]
    have c6 : ostinatoref3_Text.f e1 i1 r1 d1 = some (textF e1 i1 r1 d1) := by unfold ostinatoref3_Text.f; rw [if_pos b1]
    rw [c1, Option.bind_some, c2, Option.bind_some, if_pos rfl, c3, Option.bind_some, c4, Option.bind_some, if_pos rfl, c5, Option.bind_some, c6, Option.bind_some, show ((textF e1 i1 r1 d1).toList != (textF e1 i1 r1 d1).toList) = false by simp]
    exact tells_j1 e1 i1 r1 d1 e2 i2 r2 d2 b1 b2
  · rw [if_pos rfl]
theorem tells_f (e1 : Bool) (i1 : Int) (r1 : Bool) (d1 : ByteArray) (e2 : Bool) (i2 : Int) (r2 : Bool) (d2 : ByteArray) (b1 : 0 ≤ i1 ∧ i1 < 4294967296) (b2 : 0 ≤ i2 ∧ i2 < 4294967296) :
    ostinatolaw3_FrameTells.f 2 e1 i1 r1 d1 e2 i2 r2 d2 = some true := by
  unfold ostinatolaw3_FrameTells.f
  rw [show ostinatolaw3_known.f = some true from rfl, Option.bind_some, if_pos rfl, show ostinatolaw3_few.f e1 i1 r1 d1 = some (decide ((d1.size : Int) ≤ 20)) from rfl, Option.bind_some]
  cases decide ((d1.size : Int) ≤ 20)
  · rw [if_neg (by simp)]
    exact tells_j0 e1 i1 r1 d1 e2 i2 r2 d2 b1 b2 true
  · rw [if_pos rfl, show ostinatolaw3_few.f e2 i2 r2 d2 = some (decide ((d2.size : Int) ≤ 20)) from rfl, Option.bind_some]
    exact tells_j0 e1 i1 r1 d1 e2 i2 r2 d2 b1 b2 _
theorem tells_walk (e1 : Bool) (i1 : Int) (r1 : Bool) (d1 : ByteArray) (e2 : Bool) (i2 : Int) (r2 : Bool) (d2 : ByteArray) (w : World)
    (w1 : (Lit.int .u32 i1).wf = true) (_ : d1.size ≤ 9223372036854775807) (w2 : (Lit.int .u32 i2).wf = true) (_ : d2.size ≤ 9223372036854775807) :
    Calls Try.prog 3 #[.agg #[.bool e1, .int .u32 i1, .bool r1, .string d1], .agg #[.bool e2, .int .u32 i2, .bool r2, .string d2]] w fun e w' => e = .returned (.bool true) ∧ Below w.heap.size w w' := by
  have b1 := bounds_u32 w1
  have b2 := bounds_u32 w2
  exact ostinatolaw3_FrameTells.calls 2 e1 i1 r1 d1 e2 i2 r2 d2 true w (tells_f e1 i1 r1 d1 e2 i2 r2 d2 (by omega) (by omega))
end Go.Proofs.Ytdjlbdpajnlonaa.Pure
