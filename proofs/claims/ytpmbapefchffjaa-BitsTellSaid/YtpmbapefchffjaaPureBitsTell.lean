/- BitsTell (layer 1): for every two texts of at most three hundred bytes, every number, width and place, the program's rows of bits, numbers, both rows, a turned bit and bytes are the document's. Conditions: none beyond the types of the arguments; longer texts are let pass. -/
import Derived.Test.YtpmbapefchffjaaQBitsTellx
import Derived.Test.YtpmbapefchffjaaBitsFacts
namespace Go.Proofs.Ytpmbapefchffjaa.Pure
set_option linter.unusedVariables false
set_option linter.unusedSimpArgs false
open Go.RowKit Go.Proofs.Ytpmbapefchffjaa.QBitsTell Go.Proofs.YtpmbapefchffjaaW.PrintWords Go.Proofs.YtpmbapefchffjaaW.PrintLast Go.Proofs.YtpmbapefchffjaaW.PrintMore
open Go.Proofs.Ytpmbapefchffjaa.Facts Go.Proofs.Ytpmbapefchffjaa.Bits Go.Proofs.Ytpmbapefchffjaa.BitsW Go.Proofs.Ytpmbapefchffjaa.Plug

theorem known_tells : ostinatolaw1_known.f = some true := by decide +kernel

theorem tell_join (s t : ByteArray) (n w at_ : Int) (hn : (Lit.int .u64 n).wf = true) (long : Bool) (h : long = false → s.size ≤ 300 ∧ t.size ≤ 300) :
    ostinatolaw1_BitsTell.j0 1 s t n w at_ long = some true := by
  cases long with
  | true => simp [ostinatolaw1_BitsTell.j0]
  | false =>
    obtain ⟨hs, ht⟩ := h rfl
    have bn := bounds_u64 hn
    have h1 : s.size ≤ 140737488351232 := by omega
    have h2 : t.size ≤ 140737488351232 := by omega
    have h3 : t.size ≤ 1099511627776 := by omega
    have h4 : 0 ≤ n ∧ n < 18446744073709551616 := ⟨bn.1, by omega⟩
    simp [ostinatolaw1_BitsTell.j0, bits_Is.f, bits_Of.f, bits_Num.f, bits_And.f, bits_Turn.f, bits_FromBytes.f, bits_Bytes.f, ostinatoref1_Is.f, ostinatoref1_Of.f, ostinatoref1_Num.f, ostinatoref1_And.f, ostinatoref1_Turn.f, ostinatoref1_FromBytes.f, ostinatoref1_Bytes.f, h1, h2, h3, h4]

theorem BitsTell : ostinatolaw1_BitsTell.Pure := by
  intro s t n w at_ hs ht hn hw ha
  refine ⟨1, ?_⟩
  unfold ostinatolaw1_BitsTell.f
  rw [known_tells, Option.bind_some, if_pos rfl]
  by_cases h : (s.size : Int) > 300
  · rw [if_pos h]
    exact tell_join s t n w at_ hn true (fun h => by cases h)
  · rw [if_neg h]
    refine tell_join s t n w at_ hn _ (fun h2 => ?_)
    have := of_decide_eq_false h2
    omega

end Go.Proofs.Ytpmbapefchffjaa.Pure
