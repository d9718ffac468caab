/- What the plugged functions answer on rows of bits. -/
import Derived.Test.YtkclgfjfmlogmaaPlug
import Derived.Test.YtkclgfjfmlogmaaBitsMath
import Derived.OpenShut
namespace Go.Proofs.Ytkclgfjfmlogmaa.Facts
set_option linter.unusedVariables false
set_option linter.unusedSimpArgs false
open Go Go.RowKit Go.Proofs.Ytkclgfjfmlogmaa.Lib Go.Proofs.Ytkclgfjfmlogmaa.Bits Go.Proofs.Ytkclgfjfmlogmaa.BitsW Go.Proofs.Ytkclgfjfmlogmaa.Plug

theorem B_list (l : List Bool) : (B l).toList = l.map sg := by rw [Go.ByteArray.toList_eq, B_toList]
theorem map_sg_inj {a b : List Bool} : a.map sg = b.map sg ↔ a = b := by
  refine ⟨fun h => ?_, fun h => by rw [h]⟩
  have := congrArg (List.map (fun c => c == 49)) h
  simp only [List.map_map] at this
  have e : ((fun c => c == 49) ∘ sg) = id := by funext x; exact sg_eq x
  simpa [e] using this
theorem text_eq (a b : ByteArray) : (a.toList = b.toList) ↔ a = b := by
  rw [Go.ByteArray.toList_eq, Go.ByteArray.toList_eq]
  exact ⟨fun h => ByteArray.ext (Array.ext' h), fun h => by rw [h]⟩
theorem B_eq (a b : List Bool) : B a = B b ↔ a = b := ⟨B_inj, fun h => by rw [h]⟩
theorem wid_mod (x : Int) (h : 0 ≤ x ∧ x ≤ 255) : wid (wrap64 (Int.tmod x 65)) = (x % 65).toNat := by
  unfold wid wrap64
  rw [Int.tmod_eq_emod_of_nonneg h.1]
  omega
theorem wid_of (n : Nat) (h : n ≤ 64) : wid (n : Int) = n := by unfold wid; omega

theorem of_f (n : Int) (w : Int) (h : (Lit.int .u64 n).wf = true) : bits_Of.f n w = some (B (ofN n.toNat (wid w))) := by
  have hb := bounds_u64 h
  unfold bits_Of.f
  rw [if_pos ⟨hb.1, by omega⟩]
theorem of_nat (n : Nat) (w : Int) (h : n < 18446744073709551616) : bits_Of.f (n : Int) w = some (B (ofN n (wid w))) := by
  unfold bits_Of.f
  rw [if_pos ⟨by omega, by omega⟩, Int.toNat_natCast]
theorem crc_f (l : List Bool) (h : l.length ≤ 140737488351232) : bits_CRC.f (B l) = some (crcN l : Int) := by
  unfold bits_CRC.f
  rw [B_size, if_pos h, bitsOf_B]
theorem crc_g (s : ByteArray) (h : s.size ≤ 140737488351232) : bits_CRC.f s = some (crcN (bitsOf s) : Int) := by
  unfold bits_CRC.f
  rw [if_pos h]
theorem num_f (l : List Bool) (h : l.length ≤ 140737488351232) : bits_Num.f (B l) = some (num64 l : Int) := by
  unfold bits_Num.f
  rw [B_size, if_pos h, bitsOf_B]
theorem num_g (s : ByteArray) (h : s.size ≤ 140737488351232) : bits_Num.f s = some (num64 (bitsOf s) : Int) := by
  unfold bits_Num.f
  rw [if_pos h]
theorem turn_f (l : List Bool) (i : Int) (h : l.length ≤ 140737488351232) : bits_Turn.f (B l) i = some (B (turnI l i)) := by
  unfold bits_Turn.f
  rw [B_size, if_pos h, bitsOf_B]
theorem turn_g (s : ByteArray) (i : Int) (h : s.size ≤ 140737488351232) : bits_Turn.f s i = some (B (turnI (bitsOf s) i)) := by
  unfold bits_Turn.f
  rw [if_pos h]
theorem and_f (a b : List Bool) (ha : a.length ≤ 140737488351232) (hb : b.length ≤ 140737488351232) : bits_And.f (B a) (B b) = some (B (List.zipWith (· && ·) a b)) := by
  unfold bits_And.f
  rw [B_size, B_size, if_pos ⟨ha, hb⟩, bitsOf_B, bitsOf_B]
theorem and_g (a b : ByteArray) (ha : a.size ≤ 140737488351232) (hb : b.size ≤ 140737488351232) : bits_And.f a b = some (B (List.zipWith (· && ·) (bitsOf a) (bitsOf b))) := by
  unfold bits_And.f
  rw [if_pos ⟨ha, hb⟩]
theorem from_g (s : ByteArray) (h : s.size ≤ 1099511627776) : bits_FromBytes.f s = some (B (fromB s.data.toList)) := by
  unfold bits_FromBytes.f
  rw [if_pos h]
theorem bytes_f (l : List Bool) (h : l.length ≤ 140737488351232) : bits_Bytes.f (B l) = some ⟨(toB l).toArray⟩ := by
  unfold bits_Bytes.f
  rw [B_size, if_pos h, bitsOf_B]
theorem bytes_g (s : ByteArray) (h : s.size ≤ 140737488351232) : bits_Bytes.f s = some ⟨(toB (bitsOf s)).toArray⟩ := by
  unfold bits_Bytes.f
  rw [if_pos h]
theorem is_g (s : ByteArray) (h : s.size ≤ 140737488351232) : bits_Is.f s = some (isB s.data.toList) := by
  unfold bits_Is.f
  rw [if_pos h]
theorem B_extract (l : List Bool) (i j : Nat) : (B l).extract i j = B ((l.drop i).take (j - i)) := by
  apply ByteArray.ext
  rw [ByteArray.data_extract]
  apply Array.ext'
  simp [B, List.map_drop, List.map_take]
theorem toB_fromB (l : List UInt8) : toB (fromB l) = l := by
  apply List.ext_getElem
  · simp [toB_length, fromB_length]
  · intro i h1 h2
    simp only [toB, List.getElem_map, List.getElem_range]
    have hcut : ((fromB l).drop (8 * i)).take 8 = ofN (l[i].toNat) 8 := by
      clear h1
      induction l generalizing i with
      | nil => simp at h2
      | cons c l ih =>
        cases i with
        | zero =>
          simp only [fromB, List.flatMap_cons, Nat.mul_zero, List.drop_zero, List.getElem_cons_zero]
          rw [List.take_append_of_le_length (by rw [ofN_length]; exact Nat.le_refl _), List.take_of_length_le (by rw [ofN_length]; exact Nat.le_refl _)]
        | succ i =>
          have e : 8 * (i + 1) = 8 + 8 * i := by omega
          have e2 : fromB (c :: l) = ofN c.toNat 8 ++ fromB l := rfl
          rw [e, e2, ← List.drop_drop, List.drop_left' (ofN_length _ 8)]
          exact ih i (by simpa using h2)
    rw [hcut, num64_small _ (by rw [ofN_length]; omega), numN_ofN]
    have := l[i].toNat_lt
    rw [Nat.mod_eq_of_lt (by simpa using this)]
    simp
end Go.Proofs.Ytkclgfjfmlogmaa.Facts
