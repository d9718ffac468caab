/- The document's layers 1 and 2 (package ostinatoref1): what its printed functions answer, as lists of Bools. -/
import Derived.Test.YtkclgfjfmlogmaaQRef1x
import Derived.Test.YtkclgfjfmlogmaaBitsFacts
import Derived.Test.YtkclgfjfmlogmaaStuffSpec
namespace Go.Proofs.Ytkclgfjfmlogmaa.Ref1
set_option linter.unusedVariables false
set_option linter.unusedSimpArgs false
open Go.RowKit Go.Proofs.Ytkclgfjfmlogmaa.QRef1 Go.Proofs.YtkclgfjfmlogmaaW.PrintWords Go.Proofs.YtkclgfjfmlogmaaW.PrintLast Go.Proofs.YtkclgfjfmlogmaaW.PrintMore
open Go.Proofs.Ytkclgfjfmlogmaa.Facts Go.Proofs.Ytkclgfjfmlogmaa.Bits Go.Proofs.Ytkclgfjfmlogmaa.BitsW Go.Proofs.Ytkclgfjfmlogmaa.Plug

theorem step64 (i n : Nat) (h : i < n) (hn : n ≤ 140737488355328) : wrap64 ((i : Int) + 1) = ((i + 1 : Nat) : Int) := by unfold wrap64; omega
theorem bt_nat (s : ByteArray) (i : Nat) (h : i < s.data.toList.length) : bt s (i : Int) = ((s.data.toList[i]).toNat : Int) := by
  have h2 : i < s.size := by rw [← size_list]; exact h
  unfold bt
  rw [dif_pos (by simpa using h2), Array.getElem_toList]
  rfl
theorem byte_is (c d : UInt8) (n : Int) (h : (d.toNat : Int) = n) : ((c.toNat : Int) = n) ↔ c = d := by
  subst h
  constructor
  · intro h; exact UInt8.toNat_inj.1 (by omega)
  · intro h; rw [h]
theorem bt_bit (s : ByteArray) (i : Nat) (h : i < (bitsOf s).length) : (bt s (i : Int) == 49) = (bitsOf s)[i] := by
  have h2 : i < s.data.toList.length := by simpa [bitsOf] using h
  rw [bt_nat s i h2, Bool.eq_iff_iff, beq_iff_eq, byte_is _ 49 49 rfl]
  simp [bitsOf]
theorem drop_at {α : Type} (l : List α) (i : Nat) (h : i < l.length) : l.drop i = l[i] :: l.drop (i + 1) := List.drop_eq_getElem_cons h
theorem more_rounds {k d : Nat} (h : d < k) : ∃ m, k = m + 1 ∧ d ≤ m := ⟨k - 1, by omega, by omega⟩

theorem bit_eq (b : Bool) : ostinatoref1_Bit.f b = some (B [b]) := by cases b <;> rfl

theorem of_from (n : Nat) (hn : n < 18446744073709551616) (W : Nat) : ∀ (k : Nat) (acc : List Bool), W ≤ 64 → acc.length + W ≤ 4096 → W < k → ostinatoref1_Of.l0 k (n : Int) (B acc) ((W : Int) - 1) = some (B (acc ++ ofN n W)) := by
  induction W with
  | zero =>
    intro k acc _ _ hk
    obtain ⟨k, rfl, _⟩ := more_rounds hk
    rw [ostinatoref1_Of.l0, if_neg (by omega)]
    simp [ofN]
  | succ W ih =>
    intro k acc hW hl hk
    obtain ⟨k, rfl, _⟩ := more_rounds hk
    have e : ((W + 1 : Nat) : Int) - 1 = (W : Int) := by omega
    have hw : IntKind.u64.wrap (W : Int) = (W : Int) := wrap_u64 W (by omega)
    have hsh : shr .u64 (n : Int) (W : Int) = (n : Int) / 2 ^ W := by
      unfold shr
      have h1 : min ((W : Int)).toNat IntKind.u64.bits = W := by simp [IntKind.bits]; omega
      rw [h1]
    have hst : wrap64 ((W : Int) - 1) = (W : Int) - 1 := by unfold wrap64; omega
    rw [e, ostinatoref1_Of.l0, if_pos (by omega), hw, if_pos (by omega), hsh, BitsW.and_one n W hn, bit_eq, Option.bind_some, B_size, B_size, if_pos (by simp; omega), B_append, hst]
    rw [ih k (acc ++ [n.testBit W]) (by omega) (by simp; omega) (by omega)]
    simp [ofN]
theorem of_eq (n : Nat) (hn : n < 18446744073709551616) (w : Int) (k : Nat) (hk : 64 < k) : ostinatoref1_Of.f k (n : Int) w = some (B (ofN n (wid w))) := by
  have hw : mx 0 (mn w 64) - 1 = (wid w : Int) - 1 := by unfold mx mn wid; split <;> split <;> omega
  have h64 : wid w ≤ 64 := by unfold wid; omega
  unfold ostinatoref1_Of.f
  rw [hw]
  have := of_from n hn (wid w) k [] h64 (by simp; omega) (by omega)
  simpa [B] using this

/-- Turn, from place i on. -/
def turnFrom (l : List Bool) (i : Nat) (at_ : Int) : List Bool := l.mapIdx (fun j b => b != (((i + j : Nat) : Int) == at_))
theorem turnFrom_zero (l : List Bool) (at_ : Int) : turnFrom l 0 at_ = turnI l at_ := by
  apply List.ext_getElem?
  intro j
  unfold turnFrom turnI
  rw [List.getElem?_mapIdx]
  by_cases h : 0 ≤ at_ ∧ at_ < l.length
  · rw [if_pos h]
    unfold turn
    rw [List.getElem?_modify]
    by_cases e : at_.toNat = j
    · have : ((0 + j : Nat) : Int) = at_ := by omega
      rw [this]
      cases l[j]? <;> simp [e]
    · have : ¬ (j : Int) = at_ := by omega
      cases l[j]? <;> simp [e, show ((j : Int) == at_) = false from beq_eq_false_iff_ne.2 this]
  · rw [if_neg h]
    by_cases hj : j < l.length
    · have : ¬ (j : Int) = at_ := by omega
      rw [List.getElem?_eq_getElem hj]
      simp [show ((j : Int) == at_) = false from beq_eq_false_iff_ne.2 this]
    · rw [List.getElem?_eq_none (by omega)]
      rfl
theorem turnFrom_cons (b : Bool) (l : List Bool) (i : Nat) (at_ : Int) : turnFrom (b :: l) i at_ = (b != ((i : Int) == at_)) :: turnFrom l (i + 1) at_ := by
  unfold turnFrom
  rw [List.mapIdx_cons]
  congr 1
  apply List.ext_getElem?
  intro j
  rw [List.getElem?_mapIdx, List.getElem?_mapIdx]
  have : i + (j + 1) = i + 1 + j := by omega
  rw [this]
end Go.Proofs.Ytkclgfjfmlogmaa.Ref1
