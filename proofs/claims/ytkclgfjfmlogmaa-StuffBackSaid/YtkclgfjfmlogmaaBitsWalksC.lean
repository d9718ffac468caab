/- The walks of package bits, continued: sums, numbers, bytes. -/
import Derived.Test.YtkclgfjfmlogmaaBitsWalksB
import Derived.Test.YtkclgfjfmlogmaaBitsNum
namespace Go.Proofs.Ytkclgfjfmlogmaa.BitsW
set_option linter.unusedVariables false
set_option linter.unusedSimpArgs false
open Go Go.RowKit Go.Proofs.Ytkclgfjfmlogmaa.Lib Go.Proofs.Ytkclgfjfmlogmaa.Bits Go.Proofs.YtkclgfjfmlogmaaW.PrintMore
attribute [local go_sem] max2_int min2_int max_two min_two

theorem ret_num {k : IntKind} {a b : Int} (h : a = b) : Ending.returned (.int k a) = .returned (.int k b) := by rw [h]

/-- Are all of them bits? -/
def isB (l : List UInt8) : Bool := l.all fun c => c == 48 || c == 49
theorem ret_bool {a b : Bool} (h : a = b) : Ending.returned (.bool a) = .returned (.bool b) := by rw [h]
theorem byte_at (s : ByteArray) (k : Nat) (h : k < s.size) (c : UInt8) (n : Nat) (hn : c.toNat = n) : (s.data.toList[k]'(by rw [size_list]; exact h) == c) = (((s[k]'h).toNat : Int) == (n : Int)) := by
  subst hn
  rw [Bool.eq_iff_iff, Array.getElem_toList]
  show (s[k] == c) = true ↔ _
  simp only [beq_iff_eq]
  constructor
  · intro h2; rw [h2]
  · intro h2; exact UInt8.toNat_inj.1 (by omega)

theorem wid8 : wid 8 = 8 := by decide
/-- Bytes' bits. -/
def fromB (l : List UInt8) : List Bool := l.flatMap (fun c => ofN c.toNat 8)
theorem fromB_length (l : List UInt8) : (fromB l).length = 8 * l.length := by
  induction l with
  | nil => rfl
  | cons c l ih => simp only [fromB, List.flatMap_cons, List.length_append, ofN_length, List.length_cons] at *; omega
theorem ret_text {a b : ByteArray} (h : a = b) : Ending.returned (.string a) = .returned (.string b) := by rw [h]

/-- Each eight bits as a byte. -/
def toB (l : List Bool) : List UInt8 := (List.range (l.length / 8)).map (fun i => UInt8.ofNat (num64 ((l.drop (8 * i)).take 8)))
/-- What Bytes' loop has made of the block after k rounds. -/
def halfB (l : List Bool) (k : Nat) : List Value := byteVs ((toB l).take k) ++ List.replicate (l.length / 8 - k) (.int .u8 0)
theorem toB_length (l : List Bool) : (toB l).length = l.length / 8 := by simp [toB]
theorem halfB_step (l : List Bool) (k : Nat) (hk : k < l.length / 8) :
    (halfB l k).length = l.length / 8 ∧ (halfB l k)[k]? = some (.int .u8 0) ∧ (halfB l k).set k (.int .u8 ((num64 ((l.drop (8 * k)).take 8) : Int) % 256)) = halfB l (k + 1) := by
  have h2 : (byteVs ((toB l).take k)).length = k := by simp [byteVs, toB_length]; omega
  have e : l.length / 8 - k = (l.length / 8 - (k + 1)) + 1 := by omega
  unfold halfB
  refine ⟨by simp [byteVs, toB_length]; omega, ?_, ?_⟩
  · rw [List.getElem?_append_right (by omega), h2, Nat.sub_self, e, List.replicate_succ]
    rfl
  · rw [List.set_append_right _ _ (by omega), h2, Nat.sub_self, e, List.replicate_succ, List.set_cons_zero]
    have h3 : k < (toB l).length := by rw [toB_length]; exact hk
    rw [List.take_succ_eq_append_getElem h3]
    have h4 : (toB l)[k] = UInt8.ofNat (num64 ((l.drop (8 * k)).take 8)) := by simp [toB]
    simp [byteVs, h4]
theorem bits_extract (s : ByteArray) (i j : Nat) : bitsOf (s.extract i j) = ((bitsOf s).drop i).take (j - i) := by
  simp [bitsOf, ByteArray.data_extract, List.map_take, List.map_drop]

end Go.Proofs.Ytkclgfjfmlogmaa.BitsW
