/- A node that was made, and heard four bits 1. -/
import Derived.Test.YtgmjofcbdimjgaaMacFine
namespace Go.Proofs.Ytgmjofcbdimjgaa.MacL
set_option linter.unusedVariables false
set_option linter.unusedSimpArgs false
open Go Go.RowKit Go.Proofs.Ytgmjofcbdimjgaa.Lib Go.Proofs.Ytgmjofcbdimjgaa.Bits Go.Proofs.Ytgmjofcbdimjgaa.BitsW Go.Proofs.Ytgmjofcbdimjgaa.StuffW Go.Proofs.Ytgmjofcbdimjgaa.Frame Go.Proofs.Ytgmjofcbdimjgaa.FrameW Go.Proofs.Ytgmjofcbdimjgaa.Code Go.Proofs.Ytgmjofcbdimjgaa.CodeW Go.Proofs.Ytgmjofcbdimjgaa.Mac Go.Proofs.Ytgmjofcbdimjgaa.MacW Go.Proofs.Ytgmjofcbdimjgaa.PrintMore
attribute [local go_sem] max2_int min2_int max_two min_two
theorem field_got (x y : Int) (w : World) : (Instr.field 39 (.agg #[.int .i64 x, .int .i64 y]) 1).run Try.prog w = .ok (.int .i64 y) w := by kernel_rfl
theorem field_sent (x y : Int) (w : World) : (Instr.field 39 (.agg #[.int .i64 x, .int .i64 y]) 0).run Try.prog w = .ok (.int .i64 x) w := by kernel_rfl
set_option maxRecDepth 100000 in
set_option maxHeartbeats 3200000 in
theorem idle_calls {w0 W : World} (hb : Below w0.heap.size w0 W) : Calls Try.prog 21 #[] W fun e w' =>
    e = .returned (.pointer (some ⟨W.heap.size, 0, none⟩)) ∧ Nf w0 w' W.heap.size idleM ∧ Below W.heap.size W w' := by
  have HN := hid (nf_new (Below.refl W.heap.size W))
  have HB := hid hb
  clear hb
  go_enter Try.func21, Try.ntmps21
  go_wp2_with fail
  with_reducible refine HN.out.mono ?_
  rintro y w1 ⟨rfl, h1, _⟩
  have H1 := hid (show Nf W w1 W.heap.size (nw 0) from h1)
  clear h1 HN
  go_wp2_with fail
  go_loopw [2] (fun i wr => ∃ j : Nat, j ≤ 4 ∧ i = .int .i64 j ∧ Nf W wr W.heap.size (nw j)) (fun i _ => 4 - (intOf i).toNat)
  case atStart => exact ⟨0, Nat.zero_le _, rfl, H1.out⟩
  case round =>
    clear H1
    obtain ⟨j, hj, rfl, HX⟩ := hrel
    have H4 := hid HX
    clear HX
    by_cases hlt : j < 4
    · have u0 : ((j : Int) < 4) = True := eq_true (by omega)
      have u1 : decide ((j : Int) < 4) = true := decide_eq_true (by omega)
      have u2 : IntKind.i64.wrap ((j : Int) + 1) = ((j + 1 : Nat) : Int) := by rw [IntKind.wrap_i64]; omega
      have u3 : (j < 4) = True := eq_true hlt
      go_wp2_with fail
      with_reducible refine (nf_sample H4.out true 49 rfl).mono ?_
      rintro y w4 ⟨v, rfl, h5, _, _⟩
      rw [nw_step] at h5
      have H5 := hid h5
      clear H4 h5
      go_wp2_with fail
      go_roundw
      case rel => exact ⟨j + 1, by omega, by go_num, H5.out⟩
      case measure => simp [intOf]; omega
    · obtain rfl : j = 4 := by omega
      go_wp2_with fail
      go_ret
      have h := H4.out
      rw [nw_idle (by omega)] at h
      exact ⟨rfl, ⟨⟨h.nd.blk, HB.out.trans (h.nd.below.mono HB.out.size), HB.out.size⟩, h.fine⟩, h.nd.below⟩
end Go.Proofs.Ytgmjofcbdimjgaa.MacL
