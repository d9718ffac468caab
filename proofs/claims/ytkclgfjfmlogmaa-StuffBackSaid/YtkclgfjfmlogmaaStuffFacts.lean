/- What the plugged functions of layer 2 answer on rows of bits. -/
import Derived.Test.YtkclgfjfmlogmaaStuffWalksD
import Derived.Test.YtkclgfjfmlogmaaStuffMath
import Derived.Test.YtkclgfjfmlogmaaBitsFacts
namespace Go.Proofs.Ytkclgfjfmlogmaa.Facts
set_option linter.unusedVariables false
set_option linter.unusedSimpArgs false
open Go Go.RowKit Go.Proofs.Ytkclgfjfmlogmaa.Lib Go.Proofs.Ytkclgfjfmlogmaa.Bits Go.Proofs.Ytkclgfjfmlogmaa.BitsW Go.Proofs.Ytkclgfjfmlogmaa.StuffW Go.Proofs.Ytkclgfjfmlogmaa.Plug Go.Proofs.YtkclgfjfmlogmaaW.PrintWords

theorem stuff_g (s : ByteArray) (h : s.size ≤ 10000) : stuff_Stuff.f s = some (B (stuff (bitsOf s))) := by unfold stuff_Stuff.f; rw [if_pos h]
theorem stuff_f (l : List Bool) (h : l.length ≤ 10000) : stuff_Stuff.f (B l) = some (B (stuff l)) := by rw [stuff_g _ (by rw [B_size]; exact h), bitsOf_B]
theorem unstuff_g (s : ByteArray) (h : s.size ≤ 1000000) : stuff_Unstuff.f s = some (B (unstuffL 0 false 0 (bitsOf s)).1, atI (unstuffL 0 false 0 (bitsOf s)).2.2.2) := by unfold stuff_Unstuff.f; rw [if_pos h]
theorem unstuff_f (l : List Bool) (h : l.length ≤ 1000000) : stuff_Unstuff.f (B l) = some (B (unstuffL 0 false 0 l).1, atI (unstuffL 0 false 0 l).2.2.2) := by rw [unstuff_g _ (by rw [B_size]; exact h), bitsOf_B]
theorem next_g (s : ByteArray) (h : s.size ≤ 1000000) : stuff_Next.f s = some (nextL (bitsOf s)) := by unfold stuff_Next.f; rw [if_pos h]
theorem next_f (l : List Bool) (h : l.length ≤ 1000000) : stuff_Next.f (B l) = some (nextL l) := by rw [next_g _ (by rw [B_size]; exact h), bitsOf_B]
theorem most_f (n : Int) : stuff_Most.f n = some (mostI n) := rfl
theorem rof_f (n : Int) (w : Int) (h : (Lit.int .u64 n).wf = true) : ostinatoref1_Of.f n w = some (B (ofN n.toNat (wid w))) := by
  have hb := bounds_u64 h
  unfold ostinatoref1_Of.f
  rw [if_pos ⟨hb.1, by omega⟩]
theorem bt_B (l : List Bool) (i : Nat) (h : i < l.length) : bt (B l) (i : Int) = ((sg l[i]).toNat : Int) := by
  have h2 : i < (B l).size := by rw [B_size]; exact h
  unfold bt
  rw [dif_pos (by simpa using h2)]
  have : (B l)[(i : Int).toNat]'(by simpa using h2) = sg l[i] := by
    show (B l).data[(i : Int).toNat]'_ = _
    simp [B]
  rw [this]
theorem sg_num (a b : Bool) : (((sg a).toNat : Int) = ((sg b).toNat : Int)) ↔ a = b := by cases a <;> cases b <;> decide
theorem stuff_len (l : List Bool) : (stuff l).length ≤ 2 * l.length := (stuffL_length l 0 false).2
theorem stuff_ge (l : List Bool) : l.length ≤ (stuff l).length := (stuffL_length l 0 false).1
theorem bits_append (a b : ByteArray) : bitsOf (a ++ b) = bitsOf a ++ bitsOf b := by simp [bitsOf]
theorem extract_pre (a b : List Bool) : (B (a ++ b)).extract 0 a.length = B a := by
  rw [B_extract]
  simp
theorem step_up (i n : Nat) (h : i ≤ n) (hn : n ≤ 140737488355328) : wrap64 ((i : Int) + 1) = ((i + 1 : Nat) : Int) := by unfold wrap64; omega
end Go.Proofs.Ytkclgfjfmlogmaa.Facts
