-- Written by a program out of the translation, over contracts proved by hand.
import Derived.Test.YtdjlbdpajnlonaaQFrx0
namespace Go.Proofs.Ytdjlbdpajnlonaa.QFr
open Go.RowKit Go.Proofs.Ytdjlbdpajnlonaa.Plug Go.Proofs.YtdjlbdpajnlonaaW.PrintWords Go.Proofs.YtdjlbdpajnlonaaW.PrintLast Go.Proofs.YtdjlbdpajnlonaaW.PrintMore
attribute [local go_sem] max2_int min2_int max_two min_two max_three min_three max_four min_four   -- for this text's walks alone
set_option linter.unusedVariables false
set_option linter.unusedSimpArgs false

theorem eqA24 (d : Nat) (w : World) (x0 y0 : Bool) (x1 y1 : Int) (x2 y2 : Bool) (x3 y3 : ByteArray) :
    (Op.equalIn (d + 2) 24 (.agg #[.bool x0, .int .u32 x1, .bool x2, .string x3]) (.agg #[.bool y0, .int .u32 y1, .bool y2, .string y3])).run Try.prog w = .ok (x0 == y0 && (x1 == y1 && (x2 == y2 && (x3.toList == y3.toList)))) w := by
  refine eqA_of Try.underlying24 (by kernel_rfl) ?_
  refine eqf_cons (by rfl) (by go_simp; rfl) (by go_simp; rfl) (by go_simp) ?_
  refine eqf_cons (by rfl) (by go_simp; rfl) (by go_simp; rfl) (by go_simp) ?_
  refine eqf_cons (by rfl) (by go_simp; rfl) (by go_simp; rfl) (by go_simp) ?_
  exact eqf_last (by rfl) (by go_simp; rfl) (by go_simp; rfl) (by go_simp)
end Go.Proofs.Ytdjlbdpajnlonaa.QFr
