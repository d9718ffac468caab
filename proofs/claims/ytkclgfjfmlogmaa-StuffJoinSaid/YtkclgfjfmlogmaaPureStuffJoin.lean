/- StuffJoin (layer 2): the bits laid between a row stand in that of a longer one, too, and there are no more than Most says, for every two texts of at most a hundred bytes. Conditions: none beyond the types of the arguments; longer texts are let pass. -/
import Derived.Test.YtkclgfjfmlogmaaQStuffJoinx
import Derived.Test.YtkclgfjfmlogmaaStuffFacts
namespace Go.Proofs.Ytkclgfjfmlogmaa.Pure
set_option linter.unusedVariables false
set_option linter.unusedSimpArgs false
open Go.RowKit Go.Proofs.Ytkclgfjfmlogmaa.QStuffJoin Go.Proofs.YtkclgfjfmlogmaaW.PrintWords Go.Proofs.YtkclgfjfmlogmaaW.PrintLast Go.Proofs.YtkclgfjfmlogmaaW.PrintMore
open Go.Proofs.Ytkclgfjfmlogmaa.Facts Go.Proofs.Ytkclgfjfmlogmaa.Bits Go.Proofs.Ytkclgfjfmlogmaa.BitsW Go.Proofs.Ytkclgfjfmlogmaa.Plug

theorem known_tells : ostinatolaw2_known.f = some true := by decide +kernel

theorem join_join (s t : ByteArray) (long : Bool) (h : long = false → s.size ≤ 100 ∧ t.size ≤ 100) : ostinatolaw2_StuffJoin.j0 1 s t long = some true := by
  rw [ostinatolaw2_StuffJoin.j0]
  cases long with
  | true => rfl
  | false =>
    obtain ⟨hs, ht⟩ := h rfl
    have hst : (s ++ t).size = s.size + t.size := ByteArray.size_append
    have h1 := bitsOf_length s
    have h2 := bitsOf_length t
    rw [if_neg (by decide), stuff_g s (by omega), Option.bind_some, if_pos (by omega), stuff_g (s ++ t) (by omega), Option.bind_some, bits_append]
    have e : stuff (bitsOf s ++ bitsOf t) = stuff (bitsOf s) ++ stuffL (stuffSt 0 false (bitsOf s)).1 (stuffSt 0 false (bitsOf s)).2 (bitsOf t) := stuffL_append _ _ 0 false
    have hm := stuff_bound (bitsOf s ++ bitsOf t) (by rw [List.length_append]; omega)
    rw [List.length_append, h1, h2] at hm
    rw [e] at hm ⊢
    rw [B_size, B_size, if_pos (by rw [List.length_append]; omega), if_pos (by omega), Int.toNat_natCast, extract_pre, if_pos rfl]
    have hw : wrap64 ((s.size : Int) + (t.size : Int)) = ((s.size + t.size : Nat) : Int) := by unfold wrap64; omega
    rw [hw, most_f, Option.bind_some]
    exact congrArg some (decide_eq_true hm)

theorem StuffJoin : ostinatolaw2_StuffJoin.Pure := by
  intro s t hs ht
  refine ⟨1, ?_⟩
  unfold ostinatolaw2_StuffJoin.f
  rw [known_tells, Option.bind_some, if_pos rfl]
  by_cases h : (s.size : Int) > 100
  · rw [if_pos h]
    exact join_join s t true (fun h => by cases h)
  · rw [if_neg h]
    refine join_join s t _ (fun h2 => ?_)
    have := of_decide_eq_false h2
    omega

end Go.Proofs.Ytkclgfjfmlogmaa.Pure
