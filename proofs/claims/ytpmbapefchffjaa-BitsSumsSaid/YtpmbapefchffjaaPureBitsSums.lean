/- BitsSums (layer 1): of every text of at most four hundred bytes the program's sum is the document's. Conditions: none beyond the type of the argument; a longer text is let pass. -/
import Derived.Test.YtpmbapefchffjaaQBitsSumsx
import Derived.Test.YtpmbapefchffjaaBitsFacts
namespace Go.Proofs.Ytpmbapefchffjaa.Pure
set_option linter.unusedVariables false
set_option linter.unusedSimpArgs false
open Go.RowKit Go.Proofs.Ytpmbapefchffjaa.QBitsSums Go.Proofs.YtpmbapefchffjaaW.PrintWords Go.Proofs.YtpmbapefchffjaaW.PrintLast Go.Proofs.YtpmbapefchffjaaW.PrintMore
open Go.Proofs.Ytpmbapefchffjaa.Facts Go.Proofs.Ytpmbapefchffjaa.Bits Go.Proofs.Ytpmbapefchffjaa.BitsW Go.Proofs.Ytpmbapefchffjaa.Plug

theorem known_tells : ostinatolaw1_known.f = some true := by decide +kernel

theorem BitsSums : ostinatolaw1_BitsSums.Pure := by
  intro s hs
  unfold ostinatolaw1_BitsSums.f
  rw [known_tells, Option.bind_some, if_pos rfl]
  by_cases h : (s.size : Int) > 400
  · rw [if_pos h]
  · have h1 : s.size ≤ 140737488351232 := by omega
    rw [if_neg h]
    simp [bits_CRC.f, ostinatoref1_CRC.f, h1]

end Go.Proofs.Ytpmbapefchffjaa.Pure
