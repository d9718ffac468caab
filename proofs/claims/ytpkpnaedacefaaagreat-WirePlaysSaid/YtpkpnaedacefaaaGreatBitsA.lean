/- Rows of bits as lists of Bools: what the document's layer 1 says, in plain Lean, with no program in sight. -/
import Derived.WalkKit
import Derived.Test.YtpkpnaedacefaaaGreatProg
import Derived.Test.YtpkpnaedacefaaaGreatRegion
import Derived.Test.YtpkpnaedacefaaaGreatMem
import Derived.Test.YtpkpnaedacefaaaGreatWords
import Derived.Tactics
import Derived.LoopTactic
import Derived.KernelRfl
import Derived.RowKit
import Derived.WalkSmall
namespace Go.Proofs.YtpkpnaedacefaaaGreat.Bits
set_option linter.unusedVariables false
set_option linter.unusedSimpArgs false
open Go

/-- A bit's sign as a byte. -/
def sg (b : Bool) : UInt8 := if b then 49 else 48
/-- A row of bits as a text. -/
def B (l : List Bool) : ByteArray := ⟨(l.map sg).toArray⟩
/-- A text as a row of bits: what is no bit counts as 0. -/
def bitsOf (s : ByteArray) : List Bool := s.data.toList.map (fun c => c == 49)
/-- A number's lowest bits, the highest first. -/
def ofN (n : Nat) : Nat → List Bool
  | 0 => []
  | w + 1 => (n.testBit w) :: ofN n w
/-- The number of a row of bits. -/
def numN (l : List Bool) : Nat := l.foldl (fun a b => 2 * a + b.toNat) 0

theorem size_list (s : ByteArray) : s.data.toList.length = s.size := by rw [Array.length_toList]; rfl
theorem B_size (l : List Bool) : (B l).size = l.length := by
  show (l.map sg).toArray.size = l.length
  simp
theorem B_toList (l : List Bool) : (B l).data.toList = l.map sg := by simp [B]
theorem bitsOf_length (s : ByteArray) : (bitsOf s).length = s.size := by
  show (bitsOf s).length = s.data.size
  simp [bitsOf]
theorem sg_eq (b : Bool) : (sg b == 49) = b := by cases b <;> rfl
theorem bitsOf_B (l : List Bool) : bitsOf (B l) = l := by
  simp only [bitsOf, B_toList, List.map_map]
  have : ((fun c => c == 49) ∘ sg) = id := by funext b; exact sg_eq b
  rw [this, List.map_id]
theorem ofN_length (n w : Nat) : (ofN n w).length = w := by
  induction w with
  | zero => rfl
  | succ w ih => simp [ofN, ih]
theorem B_inj {a b : List Bool} (h : B a = B b) : a = b := by rw [← bitsOf_B a, h, bitsOf_B]
theorem B_append (a b : List Bool) : B a ++ B b = B (a ++ b) := by
  apply ByteArray.ext
  simp [B]
/-- A row of which one bit is the other one. -/
def turn (l : List Bool) (i : Nat) : List Bool := l.modify i (fun b => !b)
/-- Turn, at any place. -/
def turnI (l : List Bool) (at_ : Int) : List Bool := if 0 ≤ at_ ∧ at_ < l.length then turn l at_.toNat else l
theorem turn_length (l : List Bool) (i : Nat) : (turn l i).length = l.length := by simp [turn]
theorem turnI_length (l : List Bool) (i : Int) : (turnI l i).length = l.length := by
  unfold turnI
  split
  · exact turn_length _ _
  · rfl
end Go.Proofs.YtpkpnaedacefaaaGreat.Bits

/- The walks of package bits: what each call computes, as rows of Bools. -/
namespace Go.Proofs.YtpkpnaedacefaaaGreat.BitsW
set_option linter.unusedVariables false
set_option linter.unusedSimpArgs false
open Go Go.RowKit Go.Proofs.YtpkpnaedacefaaaGreat.Lib Go.Proofs.YtpkpnaedacefaaaGreat.Bits Go.Proofs.YtpkpnaedacefaaaGreat.PrintMore
attribute [local go_sem] max2_int min2_int max_two min_two

theorem info_u8 : (Tryz.prog.info? 5).map (fun i => (i.zero, i.size, i.bytes)) = some (some (.int .u8 0), 1, 1) := by kernel_rfl

theorem sign_calls (b : Bool) (w : World) : Calls Tryz.prog 104 #[.bool b] w fun e w' => e = .returned (.int .u8 ((sg b).toNat : Int)) ∧ w = w' := by
  cases b
  all_goals
    go_enter Tryz.func104, Tryz.ntmps104
    go_wp2
    go_ret
    exact ⟨rfl, rfl⟩

/-- What clean's loop has made of the block after k rounds. -/
def half (s : ByteArray) (k : Nat) : List Value := byteVs (((bitsOf s).take k).map sg) ++ byteVs (s.data.toList.drop k)

theorem half_len (s : ByteArray) (k : Nat) (hk : k ≤ s.size) : (half s k).length = s.size := by
  have h1 := size_list s
  simp [half, byteVs_length, bitsOf_length, h1]
  omega
theorem half_get (s : ByteArray) (k : Nat) (hk : k < s.data.toList.length) : (half s k)[k]? = some (.int .u8 ((s.data.toList[k]).toNat : Int)) := by
  have h1 := size_list s
  have h2 : (byteVs (((bitsOf s).take k).map sg)).length = k := by simp [byteVs_length, bitsOf_length]; omega
  unfold half
  rw [List.getElem?_append_right (by omega), h2, Nat.sub_self]
  simp only [byteVs, List.getElem?_map, List.getElem?_drop, Nat.add_zero]
  rw [List.getElem?_eq_getElem hk]
  rfl
theorem half_set (s : ByteArray) (k : Nat) (hk : k < s.data.toList.length) : (half s k).set k (.int .u8 ((sg (s.data.toList[k] == 49)).toNat : Int)) = half s (k + 1) := by
  have h1 := size_list s
  have h2 : (byteVs (((bitsOf s).take k).map sg)).length = k := by simp [byteVs_length, bitsOf_length]; omega
  unfold half
  rw [List.set_append_right _ _ (by omega), h2, Nat.sub_self]
  have h3 : s.data.toList.drop k = s.data.toList[k] :: s.data.toList.drop (k + 1) := List.drop_eq_getElem_cons hk
  have h4 : (bitsOf s).take (k + 1) = (bitsOf s).take k ++ [s.data.toList[k] == 49] := by
    rw [List.take_succ_eq_append_getElem (by rw [bitsOf_length]; omega)]
    simp [bitsOf]
  rw [h3, h4]
  simp [byteVs]
theorem byte_eq (c : UInt8) (n : Int) (h : (c.toNat : Int) = n) : (c == 49) = (n == 49) := by
  subst h
  rw [Bool.eq_iff_iff]
  simp only [beq_iff_eq]
  constructor
  · rintro rfl; rfl
  · intro h; exact UInt8.toNat_inj.1 (by simpa using (by omega : c.toNat = 49))

set_option maxRecDepth 100000 in
set_option maxHeartbeats 1600000 in
theorem clean_calls (s : ByteArray) (w : World) (hs : s.size ≤ 140737488351232) :
    Calls Tryz.prog 111 #[.string s] w fun e w' => ∃ g, w.heap.size ≤ g ∧ e = .returned (.slice (some ⟨g, 0, none⟩) s.size s.size) ∧ Blk w' g 5 (byteVs ((bitsOf s).map sg)) ∧ Below w.heap.size w w' := by
  obtain ⟨i0, hi, hz0, hz1, hz2⟩ := info_parts info_u8
  go_enter Tryz.func111, Tryz.ntmps111
  go_wp2_with (first
    | (at_make; refine make_blk _ rfl _ _ 70 rfl 5 i0 (.int .u8 0) Tryz.underlying70 hi hz0 hz1 rfl s.size rfl rfl (by rw [hz2]; omega) (by unfold maxLen; omega) ?_; intro w1 g hg hb hgrow)
    | (with_reducible refine copy_text rfl (.tmp 9) (.tmp 10) 70 9 rfl 5 Tryz.underlying70 (by rw [hi, Option.map_some, hz1]) g s.size s.size s _ 5 rfl rfl hb (Nat.le_refl _) (by simp) ?_; intro w2 hb2 hgrow2))
  have hb3 : Blk w2 g 5 (half s 0) := by
    have : half s 0 = byteVs s.data.toList ++ List.drop s.size (List.replicate s.size (Value.int IntKind.u8 0)) := by simp [half, byteVs]
    rw [this]; exact hb2
  have hB : Below w.heap.size w w2 := ((Below.refl _ _).grown hgrow (Nat.le_refl _) (fun k h => by cases h)).grown hgrow2 hgrow.size (fun k h => by cases h; exact hg)
  clear hb hb2 hgrow hgrow2
  go_loopw [14] (fun i wr => ∃ k : Nat, k ≤ s.size ∧ i = .int .i64 k ∧ Blk wr g 5 (half s k) ∧ Below w.heap.size w wr) (fun i _ => s.size - (intOf i).toNat)
  case atStart => exact ⟨0, Nat.zero_le _, rfl, hb3, hB⟩
  case round =>
    obtain ⟨k, hk, rfl, hbk, hBk⟩ := hrel
    clear hb3 hB
    by_cases hlt : k < s.size
    · have hl : k < s.data.toList.length := by rw [size_list]; exact hlt
      have hc := (hbk.cell k).trans (half_get s k hl)
      have hf := hbk.frozen k
      have hset := half_set s k hl
      have hce := byte_eq (s.data.toList[k]) _ rfl
      rw [hce] at hset
      clear hce
      generalize (s.data.toList[k].toNat : Int) = c at hc hset
      have HS := hid hset
      clear hset
      go_wp2_with (go_at_call 104; refine (sign_calls _ _).mono ?_; rintro e w' ⟨rfl, rfl⟩)
      go_roundw
      case rel => exact ⟨k + 1, by omega, by go_num, by rw [← HS.out]; exact hbk.set k _, hBk.setCell (by exact hg) _⟩
      case measure => simp [intOf]; omega
    · go_wp2
      go_ret
      have e : k = s.size := by omega
      subst e
      refine ⟨g, hg, rfl, ?_, hBk⟩
      have h1 := size_list s
      have : half s s.size = byteVs ((bitsOf s).map sg) := by
        unfold half
        rw [List.take_of_length_le (by rw [bitsOf_length]; exact Nat.le_refl _), List.drop_of_length_le (by omega)]
        simp [byteVs]
      rw [← this]
      exact hbk

theorem sg_48 (b : Bool) : ((sg b).toNat : Int) = 48 ↔ b = false := by cases b <;> decide
theorem cell48 (b : Bool) : (((sg b).toNat : Int) == 48) = !b := by cases b <;> decide
theorem cell49 (b : Bool) : (((sg b).toNat : Int) == 49) = b := by cases b <;> decide
theorem bitVs_set (l : List Bool) (i : Nat) (b : Bool) : (byteVs (l.map sg)).set i (.int .u8 ((sg b).toNat : Int)) = byteVs ((l.set i b).map sg) := by
  simp [byteVs, List.map_set]
theorem bitVs_get (l : List Bool) (i : Nat) (h : i < l.length) : (byteVs (l.map sg))[i]? = some (.int .u8 ((sg l[i]).toNat : Int)) := by
  simp [byteVs, h]
theorem bitVs_len (l : List Bool) : (byteVs (l.map sg)).length = l.length := by simp [byteVs]
theorem turn_set (l : List Bool) (i : Nat) (h : i < l.length) : l.set i (!l[i]) = turn l i := by
  unfold turn
  apply List.ext_getElem?
  intro j
  rw [List.getElem?_modify, List.getElem?_set]
  by_cases e : i = j
  · subst e; simp [h]
  · simp [e]
theorem ret_str {a b : ByteArray} (h : a = b) : Ending.returned (.string a) = .returned (.string b) := by rw [h]

set_option maxRecDepth 100000 in
set_option maxHeartbeats 1600000 in
theorem turn_calls (s : ByteArray) (at_ : Int) (w : World) (hs : s.size ≤ 140737488351232) :
    Calls Tryz.prog 105 #[.string s, .int .i64 at_] w fun e w' => e = .returned (.string (B (turnI (bitsOf s) at_))) ∧ Below w.heap.size w w' := by
  have hlen := bitsOf_length s
  by_cases h0 : 0 ≤ at_
  · by_cases h1 : at_ < (s.size : Int)
    · obtain ⟨i, rfl⟩ := Int.eq_ofNat_of_zero_le h0
      have hi : i < (bitsOf s).length := by omega
      have ht : turnI (bitsOf s) (i : Int) = turn (bitsOf s) i := by unfold turnI; rw [if_pos ⟨h0, by omega⟩]; simp
      rw [ht, ← turn_set _ i hi]
      have hg2 := bitVs_get (bitsOf s) i hi
      have hset := bitVs_set (bitsOf s) i (!(bitsOf s)[i])
      have h48 := cell48 (bitsOf s)[i]
      generalize hb : (bitsOf s)[i] = b at *
      clear hb ht
      have HS := hid hset
      have HG := hid hg2
      have HL := hid hlen
      clear hset hg2 hlen
      have hlt : decide ((i : Int) < (s.size : Int)) = true := decide_eq_true h1
      have hlt' : i < s.size := by omega
      go_enter Tryz.func105, Tryz.ntmps105
      go_wp2_with fail
      refine (clean_calls s _ hs).mono ?_
      rintro e w1 ⟨g, hg, rfl, hbk, hB⟩
      have hc := (hbk.cell i).trans HG.out
      have hf := hbk.frozen i
      generalize hn : ((sg b).toNat : Int) = n at hc h48
      have HN := hid hn
      clear hn
      have HSa := hid (hbk.set i (.int .u8 ((sg (!b)).toNat : Int)))
      go_wp2_with (first
        | (go_at_call 104; refine (sign_calls _ _).mono ?_; rintro e w' ⟨rfl, rfl⟩)
        | (with_reducible refine conv_text rfl (.tmp 25) 70 9 5 rfl Tryz.underlying70 Tryz.underlying5 Tryz.underlying9 g s.size s.size 5 _ (((bitsOf s).set i (!b)).map sg) rfl (by have := HSa.out; rw [HS.out] at this; exact this) (by rw [List.take_of_length_le (by rw [byteVs_length]; simp [HL.out])]) (by simp [HL.out]) ?_))
      go_ret
      exact ⟨by simp [B, List.map_set], (hB.setCell (by exact hg) _)⟩
    · have ht : turnI (bitsOf s) at_ = bitsOf s := by unfold turnI; rw [if_neg (by omega)]
      rw [ht]
      clear ht
      have HL := hid hlen
      clear hlen
      go_enter Tryz.func105, Tryz.ntmps105
      go_wp2_with fail
      refine (clean_calls s _ hs).mono ?_
      rintro e w1 ⟨g, hg, rfl, hbk, hB⟩
      go_wp2_with (with_reducible refine conv_text rfl (.tmp 25) 70 9 5 rfl Tryz.underlying70 Tryz.underlying5 Tryz.underlying9 g s.size s.size 5 _ ((bitsOf s).map sg) rfl hbk (by rw [List.take_of_length_le (by rw [byteVs_length]; simp [HL.out])]) (by simp [HL.out]) ?_)
      go_ret
      exact ⟨rfl, hB⟩
  · have ht : turnI (bitsOf s) at_ = bitsOf s := by unfold turnI; rw [if_neg (by omega)]
    rw [ht]
    clear ht
    have HL := hid hlen
    clear hlen
    go_enter Tryz.func105, Tryz.ntmps105
    go_wp2_with fail
    refine (clean_calls s _ hs).mono ?_
    rintro e w1 ⟨g, hg, rfl, hbk, hB⟩
    go_wp2_with (with_reducible refine conv_text rfl (.tmp 25) 70 9 5 rfl Tryz.underlying70 Tryz.underlying5 Tryz.underlying9 g s.size s.size 5 _ ((bitsOf s).map sg) rfl hbk (by rw [List.take_of_length_le (by rw [byteVs_length]; simp [HL.out])]) (by simp [HL.out]) ?_)
    go_ret
    exact ⟨rfl, hB⟩

/-- What And's loop has made of the block after k rounds. -/
def halfAnd (a b : List Bool) (k : Nat) : List Bool := (List.zipWith (· && ·) a b).take k ++ a.drop k
theorem halfAnd_step (a b : List Bool) (k : Nat) (ha : k < a.length) (hb : k < b.length) :
    (halfAnd a b k).length = a.length ∧ (halfAnd a b k)[k]? = some a[k] ∧ (halfAnd a b k).set k (a[k] && b[k]) = halfAnd a b (k + 1) := by
  have hz : k < (List.zipWith (· && ·) a b).length := by simp; omega
  have h2 : ((List.zipWith (· && ·) a b).take k).length = k := by simp; omega
  unfold halfAnd
  refine ⟨by simp; omega, ?_, ?_⟩
  · rw [List.getElem?_append_right (by omega), h2, Nat.sub_self, List.getElem?_drop]
    simp [ha]
  · rw [List.set_append_right _ _ (by omega), h2, Nat.sub_self]
    conv => lhs; rw [List.drop_eq_getElem_cons ha]
    rw [List.take_succ_eq_append_getElem hz]
    simp only [List.set_cons_zero, List.getElem_zipWith, List.append_assoc, List.cons_append, List.nil_append]

end Go.Proofs.YtpkpnaedacefaaaGreat.BitsW

/- The walks of package bits, continued: numbers as bits. -/
namespace Go.Proofs.YtpkpnaedacefaaaGreat.BitsW
set_option linter.unusedVariables false
set_option linter.unusedSimpArgs false
open Go Go.RowKit Go.Proofs.YtpkpnaedacefaaaGreat.Lib Go.Proofs.YtpkpnaedacefaaaGreat.Bits Go.Proofs.YtpkpnaedacefaaaGreat.PrintMore
attribute [local go_sem] max2_int min2_int max_two min_two

/-- How many bits Of tells. -/
def wid (width : Int) : Nat := (min (max width 0) 64).toNat

/-- What Of's loop has made of the block after k rounds: from the end on. -/
def halfOf (n : Nat) (W k : Nat) : List Value := List.replicate (W - k) (.int .u8 0) ++ byteVs ((ofN n k).map sg)
theorem halfOf_len (n W k : Nat) (hk : k ≤ W) : (halfOf n W k).length = W := by simp [halfOf, byteVs, ofN_length]; omega
theorem halfOf_step (n W k : Nat) (hk : k < W) : (halfOf n W k).set (W - 1 - k) (.int .u8 ((sg (n.testBit k)).toNat : Int)) = halfOf n W (k + 1) := by
  unfold halfOf
  rw [List.set_append_left _ _ (by simp; omega)]
  have e : W - k = (W - (k + 1)) + 1 := by omega
  have e2 : W - 1 - k = W - (k + 1) := by omega
  rw [e, List.replicate_succ', e2, List.set_append_right _ _ (by simp)]
  simp [ofN, byteVs]

theorem and_one_nat (m : Nat) (hm : m < 18446744073709551616) : (Go.bits BinOp.and IntKind.u64 (m : Int) 1 == 1) = decide (m % 2 = 1) := by
  rw [and_one_u64 _ (by omega) (by omega), Bool.eq_iff_iff]
  simp only [beq_iff_eq, decide_eq_true_eq]
  omega
theorem and_one (n k : Nat) (hn : n < 18446744073709551616) : (Go.bits BinOp.and IntKind.u64 ((n : Int) / 2 ^ k) 1 == 1) = n.testBit k := by
  have e : ((n : Int) / 2 ^ k) = ((n >>> k : Nat) : Int) := by
    rw [Nat.shiftRight_eq_div_pow]
    simp
  have hlt : n >>> k < 18446744073709551616 := by
    rw [Nat.shiftRight_eq_div_pow]
    exact Nat.lt_of_le_of_lt (Nat.div_le_self _ _) hn
  rw [e, and_one_nat _ hlt, Nat.testBit_eq_decide_div_mod_eq, ← Nat.shiftRight_eq_div_pow]
theorem halfOf_get (n W k : Nat) (hk : k < W) : (halfOf n W k)[W - 1 - k]? = some (.int .u8 0) := by
  unfold halfOf
  rw [List.getElem?_append_left (by simp; omega), List.getElem?_replicate]
  rw [if_pos (by omega)]
theorem halfOf_end (n W : Nat) : halfOf n W W = byteVs ((ofN n W).map sg) := by simp [halfOf]

set_option maxRecDepth 100000 in
set_option maxHeartbeats 1600000 in
theorem of_calls (n : Nat) (width : Int) (w : World) (hn : n < 18446744073709551616) :
    Calls Tryz.prog 84 #[.int .u64 n, .int .i64 width] w fun e w' => e = .returned (.string (B (ofN n (wid width)))) ∧ Below w.heap.size w w' := by
  obtain ⟨i0, hi, hz0, hz1, hz2⟩ := info_parts info_u8
  obtain ⟨W, hW⟩ : ∃ W, wid width = W := ⟨_, rfl⟩
  have hW64 : W ≤ 64 := by rw [← hW]; unfold wid; omega
  have hcase : (width < 0 ∧ W = 0) ∨ (0 ≤ width ∧ 64 < width ∧ W = 64) ∨ (0 ≤ width ∧ width ≤ 64 ∧ width = (W : Int)) := by
    rw [← hW]; unfold wid; omega
  rw [hW]
  clear hW
  have bit : ∀ k : Nat, (Go.bits BinOp.and IntKind.u64 ((n : Int) / 2 ^ k) 1 == 1) = n.testBit k := by
    intro k
    exact and_one n k hn
  have HBit := hid bit
  clear bit
  rcases hcase with ⟨h1, rfl⟩ | ⟨h1, h2, rfl⟩ | ⟨h1, h2, rfl⟩
  case inl =>
    go_enter Tryz.func84, Tryz.ntmps84
    go_wp2_with (at_make; refine make_blk _ rfl _ _ 70 rfl 5 i0 (.int .u8 0) Tryz.underlying70 hi hz0 hz1 rfl 0 rfl rfl (by rw [hz2]; omega) (by unfold maxLen; omega) ?_; intro w1 g hg hb hgrow)
    have hB : Below w.heap.size w w1 := (Below.refl _ _).grown hgrow (Nat.le_refl _) (fun k h => by cases h)
    have hb0 : Blk w1 g 5 (halfOf n 0 0) := by simpa [halfOf, ofN, byteVs] using hb
    clear hb hgrow
    go_loopw [13] (fun i wr => ∃ k : Nat, k ≤ 0 ∧ i = .int .i64 k ∧ Blk wr g 5 (halfOf n 0 k) ∧ Below w.heap.size w wr) (fun i _ => 0 - (intOf i).toNat)
    case atStart => exact ⟨0, Nat.zero_le _, rfl, hb0, hB⟩
    case round =>
      obtain ⟨k, hk, rfl, hbk, hBk⟩ := hrel
      clear hb0 hB
      by_cases hlt : k < 0
      · exact absurd hlt (Nat.not_lt_zero _)
      · have e : k = 0 := by omega
        subst e
        have HL := hid (halfOf_end n 0)
        go_wp2_with (with_reducible refine conv_text rfl (.tmp 30) 70 9 5 rfl Tryz.underlying70 Tryz.underlying5 Tryz.underlying9 g 0 0 5 _ ((ofN n 0).map sg) rfl hbk (by rw [HL.out, List.take_of_length_le (by simp [byteVs, ofN_length])]) (by simp [ofN_length]) ?_)
        go_ret
        exact ⟨rfl, hBk⟩
  case inr.inl =>
    go_enter Tryz.func84, Tryz.ntmps84
    go_wp2_with (at_make; refine make_blk _ rfl _ _ 70 rfl 5 i0 (.int .u8 0) Tryz.underlying70 hi hz0 hz1 rfl 64 rfl rfl (by rw [hz2]; omega) (by unfold maxLen; omega) ?_; intro w1 g hg hb hgrow)
    have hB : Below w.heap.size w w1 := (Below.refl _ _).grown hgrow (Nat.le_refl _) (fun k h => by cases h)
    have hb0 : Blk w1 g 5 (halfOf n 64 0) := by simpa [halfOf, ofN, byteVs] using hb
    clear hb hgrow
    go_loopw [13] (fun i wr => ∃ k : Nat, k ≤ 64 ∧ i = .int .i64 k ∧ Blk wr g 5 (halfOf n 64 k) ∧ Below w.heap.size w wr) (fun i _ => 64 - (intOf i).toNat)
    case atStart => exact ⟨0, Nat.zero_le _, rfl, hb0, hB⟩
    case round =>
      obtain ⟨k, hk, rfl, hbk, hBk⟩ := hrel
      clear hb0 hB
      by_cases hlt : k < 64
      · have hset := halfOf_step n 64 k hlt
        have HS := hid hset
        have HX := hid (hbk.set (64 - 1 - k) (.int .u8 ((sg (n.testBit k)).toNat : Int)))
        have hlen := halfOf_len n 64 k hk
        have hf := hbk.frozen (64 - 1 - k)
        have hc := (hbk.cell (64 - 1 - k)).trans (halfOf_get n 64 k hlt)
        clear hset hlen
        have hk0 : 0 ≤ (k : Int) := Int.natCast_nonneg _
        have hx1 : 0 ≤ (64 : Int) - 1 - k := by omega
        have hx2 : (64 : Int) - 1 - k < 64 := by omega
        go_wp2_with fail
        rw [HBit.out k]
        go_wp2_with (go_at_call 104; refine (sign_calls _ _).mono ?_; rintro e w' ⟨rfl, rfl⟩)
        go_roundw
        case rel => exact ⟨k + 1, by omega, by go_num, by rw [← HS.out]; exact HX.out, hBk.setCell (by exact hg) _⟩
        case measure => simp [intOf]; omega
      · have e : k = 64 := by omega
        subst e
        have HL := hid (halfOf_end n 64)
        go_wp2_with (with_reducible refine conv_text rfl (.tmp 30) 70 9 5 rfl Tryz.underlying70 Tryz.underlying5 Tryz.underlying9 g 64 64 5 _ ((ofN n 64).map sg) rfl hbk (by rw [HL.out, List.take_of_length_le (by simp [byteVs, ofN_length])]) (by simp [ofN_length]) ?_)
        go_ret
        exact ⟨rfl, hBk⟩
  case inr.inr =>
    go_enter Tryz.func84, Tryz.ntmps84
    go_wp2_with (at_make; refine make_blk _ rfl _ _ 70 rfl 5 i0 (.int .u8 0) Tryz.underlying70 hi hz0 hz1 rfl W rfl rfl (by rw [hz2]; omega) (by unfold maxLen; omega) ?_; intro w1 g hg hb hgrow)
    have hB : Below w.heap.size w w1 := (Below.refl _ _).grown hgrow (Nat.le_refl _) (fun k h => by cases h)
    have hb0 : Blk w1 g 5 (halfOf n W 0) := by simpa [halfOf, ofN, byteVs] using hb
    clear hb hgrow
    go_loopw [13] (fun i wr => ∃ k : Nat, k ≤ W ∧ i = .int .i64 k ∧ Blk wr g 5 (halfOf n W k) ∧ Below w.heap.size w wr) (fun i _ => W - (intOf i).toNat)
    case atStart => exact ⟨0, Nat.zero_le _, rfl, hb0, hB⟩
    case round =>
      obtain ⟨k, hk, rfl, hbk, hBk⟩ := hrel
      clear hb0 hB
      by_cases hlt : k < W
      · have hset := halfOf_step n W k hlt
        have HS := hid hset
        have HX := hid (hbk.set (W - 1 - k) (.int .u8 ((sg (n.testBit k)).toNat : Int)))
        have hlen := halfOf_len n W k hk
        have hf := hbk.frozen (W - 1 - k)
        have hc := (hbk.cell (W - 1 - k)).trans (halfOf_get n W k hlt)
        clear hset hlen
        have hk0 : 0 ≤ (k : Int) := Int.natCast_nonneg _
        have hx1 : 0 ≤ (W : Int) - 1 - k := by omega
        have hx2 : (W : Int) - 1 - k < W := by omega
        go_wp2_with fail
        rw [HBit.out k]
        go_wp2_with (go_at_call 104; refine (sign_calls _ _).mono ?_; rintro e w' ⟨rfl, rfl⟩)
        go_roundw
        case rel => exact ⟨k + 1, by omega, by go_num, by rw [← HS.out]; exact HX.out, hBk.setCell (by exact hg) _⟩
        case measure => simp [intOf]; omega
      · have e : k = W := by omega
        subst e
        have HL := hid (halfOf_end n k)
        go_wp2_with (with_reducible refine conv_text rfl (.tmp 30) 70 9 5 rfl Tryz.underlying70 Tryz.underlying5 Tryz.underlying9 g k k 5 _ ((ofN n k).map sg) rfl hbk (by rw [HL.out, List.take_of_length_le (by simp [byteVs, ofN_length])]) (by simp [ofN_length]) ?_)
        go_ret
        exact ⟨rfl, hBk⟩
end Go.Proofs.YtpkpnaedacefaaaGreat.BitsW

/- Sums of rows of bits, as plain numbers; Go's operations on unsigned numbers as those of natural numbers. -/
namespace Go.Proofs.YtpkpnaedacefaaaGreat.Bits
set_option linter.unusedVariables false
set_option linter.unusedSimpArgs false
open Go Go.RowKit

theorem u_ops (k : IntKind) (N : Nat) (hk : k.bits = N) (hw : ∀ x : Nat, x < 2 ^ N → k.wrap (x : Int) = (x : Int)) (a b : Nat) (ha : a < 2 ^ N) (hb : b < 2 ^ N) :
    Go.bits .and k (a : Int) (b : Int) = ((a &&& b : Nat) : Int) ∧ Go.bits .or k (a : Int) (b : Int) = ((a ||| b : Nat) : Int) ∧ Go.bits .xor k (a : Int) (b : Int) = ((a ^^^ b : Nat) : Int) := by
  subst hk
  have h1 : ∀ x : Nat, x < 2 ^ k.bits → (BitVec.ofInt k.bits (x : Int)).toNat = x := by
    intro x hx
    simp [BitVec.toNat_ofNat, Nat.mod_eq_of_lt hx]
  refine ⟨?_, ?_, ?_⟩
  · simp only [Go.bits, BitVec.toNat_and, h1 a ha, h1 b hb]
    exact hw _ (Nat.and_lt_two_pow _ hb)
  · simp only [Go.bits, BitVec.toNat_or, h1 a ha, h1 b hb]
    exact hw _ (Nat.or_lt_two_pow ha hb)
  · simp only [Go.bits, BitVec.toNat_xor, h1 a ha, h1 b hb]
    exact hw _ (Nat.xor_lt_two_pow ha hb)
theorem wrap_u16 (x : Nat) (hx : x < 2 ^ 16) : IntKind.u16.wrap (x : Int) = (x : Int) := by
  simp [IntKind.wrap, IntKind.signed, IntKind.bits]; omega
theorem wrap_u64 (x : Nat) (hx : x < 2 ^ 64) : IntKind.u64.wrap (x : Int) = (x : Int) := by
  simp [IntKind.wrap, IntKind.signed, IntKind.bits]; omega
theorem u16_ops (a b : Nat) (ha : a < 2 ^ 16) (hb : b < 2 ^ 16) : Go.bits .and .u16 (a : Int) (b : Int) = ((a &&& b : Nat) : Int) ∧ Go.bits .or .u16 (a : Int) (b : Int) = ((a ||| b : Nat) : Int) ∧ Go.bits .xor .u16 (a : Int) (b : Int) = ((a ^^^ b : Nat) : Int) := u_ops .u16 16 rfl wrap_u16 a b ha hb
theorem u64_ops (a b : Nat) (ha : a < 2 ^ 64) (hb : b < 2 ^ 64) : Go.bits .and .u64 (a : Int) (b : Int) = ((a &&& b : Nat) : Int) ∧ Go.bits .or .u64 (a : Int) (b : Int) = ((a ||| b : Nat) : Int) ∧ Go.bits .xor .u64 (a : Int) (b : Int) = ((a ^^^ b : Nat) : Int) := u_ops .u64 64 rfl wrap_u64 a b ha hb

/-- A sum with one bit more. -/
def addC (c : Nat) (b : Bool) : Nat := ((c * 2) % 32768) ^^^ (if c.testBit 14 != b then 17817 else 0)
/-- The sum of a row of bits. -/
def crcN (l : List Bool) : Nat := l.foldl addC 0
theorem addC_lt (c : Nat) (b : Bool) : addC c b < 32768 := by
  unfold addC
  have : (if (c.testBit 14 != b) = true then 17817 else 0) < 2 ^ 15 := by split <;> omega
  exact Nat.xor_lt_two_pow (n := 15) (by omega) this
theorem crcFold_lt (l : List Bool) (c : Nat) (hc : c < 32768) : l.foldl addC c < 32768 := by
  induction l generalizing c with
  | nil => exact hc
  | cons b l ih => exact ih _ (addC_lt c b)
theorem crcN_lt (l : List Bool) : crcN l < 32768 := crcFold_lt l 0 (by omega)
theorem add_top (c : Nat) (hc : c < 65536) : (Go.bits .and .u16 ((c : Int) / 16384) 1 == 1) = c.testBit 14 := by
  have h := (u16_ops (c / 16384) 1 (by omega) (by omega)).1
  have e : ((c / 16384 : Nat) : Int) = (c : Int) / 16384 := by omega
  rw [e] at h
  rw [show (1 : Int) = ((1 : Nat) : Int) from rfl, h, Nat.and_one_is_mod, Nat.testBit_eq_decide_div_mod_eq, Bool.eq_iff_iff]
  simp only [beq_iff_eq, decide_eq_true_eq]
  have : (2 : Nat) ^ 14 = 16384 := rfl
  rw [this]
  omega
theorem add_low (c : Nat) : Go.bits .and .u16 (IntKind.u16.wrap ((c : Int) * 2)) 32767 = (((c * 2) % 32768 : Nat) : Int) := by
  have e : IntKind.u16.wrap ((c : Int) * 2) = (((c * 2) % 65536 : Nat) : Int) := by simp [IntKind.wrap, IntKind.signed, IntKind.bits]
  rw [e, show (32767 : Int) = ((32767 : Nat) : Int) from rfl, (u16_ops ((c * 2) % 65536) 32767 (by omega) (by omega)).1]
  have : (c * 2) % 65536 &&& 32767 = (c * 2) % 65536 % 2 ^ 15 := Nat.and_two_pow_sub_one_eq_mod _ 15
  rw [this]
  omega
theorem add_xor (x : Nat) (hx : x < 32768) : Go.bits .xor .u16 (x : Int) 17817 = ((x ^^^ 17817 : Nat) : Int) := by
  rw [show (17817 : Int) = ((17817 : Nat) : Int) from rfl]
  exact (u16_ops x 17817 (by omega) (by omega)).2.2

/-- The number of a row of bits, of 64 bits. -/
def num64 (l : List Bool) : Nat := l.foldl (fun a b => (2 * a + b.toNat) % 18446744073709551616) 0
theorem num64_lt (l : List Bool) : num64 l < 18446744073709551616 := by
  have : ∀ (l : List Bool) (a : Nat), a < 18446744073709551616 → l.foldl (fun a b => (2 * a + b.toNat) % 18446744073709551616) a < 18446744073709551616 := by
    intro l
    induction l with
    | nil => intro a h; exact h
    | cons b l ih => intro a _; exact ih _ (Nat.mod_lt _ (by omega))
  exact this l 0 (by omega)
theorem num64_snoc (l : List Bool) (b : Bool) : num64 (l ++ [b]) = (2 * num64 l + b.toNat) % 18446744073709551616 := by simp [num64]
theorem crcN_snoc (l : List Bool) (b : Bool) : crcN (l ++ [b]) = addC (crcN l) b := by simp [crcN]
theorem shl_one (m : Nat) : IntKind.u64.wrap ((m : Int) * 2) = (((2 * m) % 18446744073709551616 : Nat) : Int) := by
  simp [IntKind.wrap, IntKind.signed, IntKind.bits]; omega
theorem or_one (m : Nat) : Go.bits .or .u64 (((2 * m) % 18446744073709551616 : Nat) : Int) 1 = (((2 * m + 1) % 18446744073709551616 : Nat) : Int) := by
  rw [show (1 : Int) = ((1 : Nat) : Int) from rfl, (u64_ops _ 1 (by omega) (by omega)).2.1]
  have h : ∀ k : Nat, (2 * k) ||| 1 = 2 * k + 1 := by
    intro k
    apply Nat.eq_of_testBit_eq
    intro i
    rw [Nat.testBit_or]
    cases i with
    | zero => simp
    | succ i => simp [Nat.testBit_succ, Nat.mul_add_div]
  have e : (2 * m) % 18446744073709551616 = 2 * (m % 9223372036854775808) := by omega
  have e2 : (2 * m + 1) % 18446744073709551616 = 2 * (m % 9223372036854775808) + 1 := by omega
  rw [e, e2, h]
theorem bits_take_snoc (s : ByteArray) (k : Nat) (h : k < s.size) : (bitsOf s).take (k + 1) = (bitsOf s).take k ++ [((s[k]'h).toNat : Int) == 49] := by
  have hl : k < (bitsOf s).length := by rw [bitsOf_length]; exact h
  rw [List.take_succ_eq_append_getElem hl]
  congr 2
  simp only [bitsOf, List.getElem_map, Array.getElem_toList]
  show (s[k] == 49) = _
  rw [Bool.eq_iff_iff]
  simp only [beq_iff_eq]
  constructor
  · intro h2; rw [h2]; rfl
  · intro h2; exact UInt8.toNat_inj.1 (by simpa using (by omega : (s[k]'h).toNat = 49))
end Go.Proofs.YtpkpnaedacefaaaGreat.Bits

/- The walks of package bits, continued: sums, numbers, bytes. -/
namespace Go.Proofs.YtpkpnaedacefaaaGreat.BitsW
set_option linter.unusedVariables false
set_option linter.unusedSimpArgs false
open Go Go.RowKit Go.Proofs.YtpkpnaedacefaaaGreat.Lib Go.Proofs.YtpkpnaedacefaaaGreat.Bits Go.Proofs.YtpkpnaedacefaaaGreat.PrintMore
attribute [local go_sem] max2_int min2_int max_two min_two

theorem ret_num {k : IntKind} {a b : Int} (h : a = b) : Ending.returned (.int k a) = .returned (.int k b) := by rw [h]

set_option maxRecDepth 100000 in
set_option maxHeartbeats 1600000 in
theorem add_calls (c : Nat) (one : Bool) (w : World) (hc : c < 65536) :
    Calls Tryz.prog 101 #[.int .u16 c, .bool one] w fun e w' => e = .returned (.int .u16 (addC c one)) ∧ w = w' := by
  have h1 := add_top c hc
  have h2 := add_low c
  have h3 := add_xor ((c * 2) % 32768) (by omega)
  have h4 : addC c one = ((c * 2) % 32768) ^^^ (if c.testBit 14 != one then 17817 else 0) := rfl
  have H4 := hid h4
  have H2 := hid h2
  have H3 := hid h3
  clear h2 h3 h4
  cases ht : c.testBit 14 <;> rw [ht] at h1 H4 <;> clear ht <;> cases one
  all_goals
    go_enter Tryz.func101, Tryz.ntmps101
    go_wp2
    go_ret
    exact ⟨ret_num (by rw [H4.out, H2.out]; first | exact H3.out | simp), rfl⟩

set_option maxRecDepth 100000 in
set_option maxHeartbeats 1600000 in
theorem crc_calls (s : ByteArray) (w : World) (hs : s.size ≤ 140737488351232) :
    Calls Tryz.prog 85 #[.string s] w fun e w' => e = .returned (.int .u16 (crcN (bitsOf s))) ∧ w = w' := by
  go_enter Tryz.func85, Tryz.ntmps85
  go_wp2
  go_loop [3, 7] (fun c i => ∃ k : Nat, k ≤ s.size ∧ i = .int .i64 k ∧ c = .int .u16 (crcN ((bitsOf s).take k))) (fun _ i => s.size - (intOf i).toNat)
  case atStart => exact ⟨0, Nat.zero_le _, rfl, rfl⟩
  case round =>
    obtain ⟨k, hk, rfl, rfl⟩ := hrel
    by_cases hlt : k < s.size
    · have hst := bits_take_snoc s k hlt
      have hcr := crcN_snoc ((bitsOf s).take k) (((s[k]'hlt).toNat : Int) == 49)
      rw [← hst] at hcr
      have HC := hid hcr
      have hl := crcN_lt ((bitsOf s).take k)
      clear hst hcr
      have hk0 : 0 ≤ (k : Int) := Int.natCast_nonneg _
      go_wp2_with (go_at_call 101; refine (add_calls _ _ _ (by omega)).mono ?_; rintro e w' ⟨rfl, rfl⟩)
      go_round
      case rel => exact ⟨k + 1, by omega, by go_num, by rw [HC.out]⟩
      case measure => simp [intOf]; omega
    · have e : k = s.size := by omega
      subst e
      go_wp2
      go_ret
      exact ⟨ret_num (by rw [List.take_of_length_le (by rw [bitsOf_length]; exact Nat.le_refl _)]), rfl⟩

set_option maxRecDepth 100000 in
set_option maxHeartbeats 1600000 in
theorem num_calls (s : ByteArray) (w : World) (hs : s.size ≤ 140737488351232) :
    Calls Tryz.prog 106 #[.string s] w fun e w' => e = .returned (.int .u64 (num64 (bitsOf s))) ∧ w = w' := by
  go_enter Tryz.func106, Tryz.ntmps106
  go_wp2
  go_loop [3, 7] (fun c i => ∃ k : Nat, k ≤ s.size ∧ i = .int .i64 k ∧ c = .int .u64 (num64 ((bitsOf s).take k))) (fun _ i => s.size - (intOf i).toNat)
  case atStart => exact ⟨0, Nat.zero_le _, rfl, rfl⟩
  case round =>
    obtain ⟨k, hk, rfl, rfl⟩ := hrel
    by_cases hlt : k < s.size
    · have hst := bits_take_snoc s k hlt
      have hcr := num64_snoc ((bitsOf s).take k) (((s[k]'hlt).toNat : Int) == 49)
      rw [← hst] at hcr
      have hl := num64_lt ((bitsOf s).take k)
      have h1 := shl_one (num64 ((bitsOf s).take k))
      have h2 := or_one (num64 ((bitsOf s).take k))
      clear hst
      have hk0 : 0 ≤ (k : Int) := Int.natCast_nonneg _
      generalize num64 (List.take k (bitsOf s)) = m at *
      have H1 := hid h1
      have H2 := hid h2
      clear h1 h2
      cases hb : (((s[k]'hlt).toNat : Int) == 49) <;> rw [hb] at hcr
      all_goals
        have HC := hid hcr
        clear hcr
        go_wp2
        go_round
        case rel => exact ⟨k + 1, by omega, by go_num, by rw [HC.out, H1.out]; first | (rw [H2.out]; rfl) | rfl⟩
        case measure => simp [intOf]; omega
    · have e : k = s.size := by omega
      subst e
      go_wp2
      go_ret
      exact ⟨ret_num (by rw [List.take_of_length_le (by rw [bitsOf_length]; exact Nat.le_refl _)]), rfl⟩

/-- Are all of them bits? -/
def isB (l : List UInt8) : Bool := l.all fun c => c == 48 || c == 49
theorem ret_bool {a b : Bool} (h : a = b) : Ending.returned (.bool a) = .returned (.bool b) := by rw [h]
theorem byte_at (s : ByteArray) (k : Nat) (h : k < s.size) (c : UInt8) (n : Nat) (hn : c.toNat = n) : (s.data.toList[k]'(by rw [size_list]; exact h) == c) = (((s[k]'h).toNat : Int) == (n : Int)) := by
  subst hn
  rw [Bool.eq_iff_iff, Array.getElem_toList]
  show (s[k] == c) = true ↔ _
  simp only [beq_iff_eq]
  constructor
  · intro h2; rw [h2]
  · intro h2; exact UInt8.toNat_inj.1 (by omega)

theorem wid8 : wid 8 = 8 := by decide
/-- Bytes' bits. -/
def fromB (l : List UInt8) : List Bool := l.flatMap (fun c => ofN c.toNat 8)
theorem fromB_length (l : List UInt8) : (fromB l).length = 8 * l.length := by
  induction l with
  | nil => rfl
  | cons c l ih => simp only [fromB, List.flatMap_cons, List.length_append, ofN_length, List.length_cons] at *; omega
theorem ret_text {a b : ByteArray} (h : a = b) : Ending.returned (.string a) = .returned (.string b) := by rw [h]

set_option maxRecDepth 100000 in
set_option maxHeartbeats 1600000 in
theorem fromBytes_calls (s : ByteArray) (w : World) (hs : s.size ≤ 1099511627776) :
    Calls Tryz.prog 103 #[.string s] w fun e w' => e = .returned (.string (B (fromB s.data.toList))) ∧ Below w.heap.size w w' := by
  obtain ⟨i0, hi, hz0, hz1, hz2⟩ := info_parts info_u8
  go_enter Tryz.func103, Tryz.ntmps103
  go_wp2_with (at_make; refine make_ownB _ rfl _ _ 70 rfl 5 i0 Tryz.underlying70 hi hz0 hz1 hz2 (8 * s.size) _ rfl rfl (by omega) (by omega) ?_; intro w1 v0 hown0 hgrow0)
  have hB0 : Below w.heap.size w w1 := (Below.refl _ _).grown hgrow0 (Nat.le_refl _) (fun k h => by cases h)
  have hs0 : w.heap.size ≤ w1.heap.size := hB0.size
  clear hgrow0
  go_loopw [3, 11] (fun v i wr => ∃ k : Nat, k ≤ s.size ∧ i = .int .i64 k ∧ OwnB wr w.heap.size 5 v ((fromB (s.data.toList.take k)).map sg) ∧ Below w.heap.size w wr) (fun _ i _ => s.size - (intOf i).toNat)
  case atStart => exact ⟨0, Nat.zero_le _, rfl, hown0, hB0⟩
  case round =>
    obtain ⟨k, hk, rfl, hown, hBk⟩ := hrel
    clear hown0 hB0 hs0
    by_cases hlt : k < s.size
    · have hl : k < s.data.toList.length := by rw [size_list]; exact hlt
      have hlen : ((fromB (s.data.toList.take k)).map sg).length = 8 * k := by rw [List.length_map, fromB_length, List.length_take, size_list]; omega
      have hk0 : 0 ≤ (k : Int) := Int.natCast_nonneg _
      have hcb : ((s[k]'hlt).toNat : Int) < 256 := by have := (s[k]'hlt).toNat_lt; omega
      have hnext : (fromB (s.data.toList.take (k + 1))).map sg = (fromB (s.data.toList.take k)).map sg ++ (B (ofN (s[k]'hlt).toNat (wid 8))).data.toList := by
        rw [List.take_succ_eq_append_getElem hl]
        have e : wid 8 = 8 := by decide
        have e2 : s.data.toList[k] = s[k]'hlt := by rw [Array.getElem_toList]; rfl
        simp [fromB, B_toList, e, e2]
      have HN := hid hnext
      clear hnext
      go_wp2_with (first
        | (go_at_call 84; refine (of_calls _ _ _ (by omega)).mono ?_; rintro e w2 ⟨rfl, hb2⟩; have hown2 := hown.below (hb2.mono (by omega)); have hB2 := hBk.trans (hb2.mono (by have := hBk.size; omega)))
        | (at_builtin; refine app_str rfl (.tmp 14) (.tmp 19) 70 9 rfl w.heap.size 5 i0 Tryz.underlying70 Tryz.underlying9 hi hz0 hz1 hz2 _ _ rfl hown2 _ rfl (by rw [hlen, B_size, ofN_length, wid8]; omega) (by have := hB2.size; omega) ?_; intro v' w3 hown3 hgrow3))
      go_roundw
      case rel => exact ⟨k + 1, by omega, by go_num, by rw [HN.out]; exact hown3, hown2.grow hB2 hgrow3 (Nat.le_refl _) hB2.size⟩
      case measure => simp [intOf]; omega
    · have e : k = s.size := by omega
      subst e
      have e2 : s.data.toList.take s.size = s.data.toList := List.take_of_length_le (by rw [size_list]; exact Nat.le_refl _)
      rw [e2] at hown
      clear e2
      go_wp2_with (with_reducible refine conv_own rfl (.tmp 22) 70 9 5 rfl Tryz.underlying70 Tryz.underlying5 Tryz.underlying9 w.heap.size 5 _ _ hown rfl ?_)
      go_ret
      exact ⟨ret_text rfl, hBk⟩

/-- Each eight bits as a byte. -/
def toB (l : List Bool) : List UInt8 := (List.range (l.length / 8)).map (fun i => UInt8.ofNat (num64 ((l.drop (8 * i)).take 8)))
/-- What Bytes' loop has made of the block after k rounds. -/
def halfB (l : List Bool) (k : Nat) : List Value := byteVs ((toB l).take k) ++ List.replicate (l.length / 8 - k) (.int .u8 0)
theorem toB_length (l : List Bool) : (toB l).length = l.length / 8 := by simp [toB]
theorem halfB_step (l : List Bool) (k : Nat) (hk : k < l.length / 8) :
    (halfB l k).length = l.length / 8 ∧ (halfB l k)[k]? = some (.int .u8 0) ∧ (halfB l k).set k (.int .u8 ((num64 ((l.drop (8 * k)).take 8) : Int) % 256)) = halfB l (k + 1) := by
  have h2 : (byteVs ((toB l).take k)).length = k := by simp [byteVs, toB_length]; omega
  have e : l.length / 8 - k = (l.length / 8 - (k + 1)) + 1 := by omega
  unfold halfB
  refine ⟨by simp [byteVs, toB_length]; omega, ?_, ?_⟩
  · rw [List.getElem?_append_right (by omega), h2, Nat.sub_self, e, List.replicate_succ]
    rfl
  · rw [List.set_append_right _ _ (by omega), h2, Nat.sub_self, e, List.replicate_succ, List.set_cons_zero]
    have h3 : k < (toB l).length := by rw [toB_length]; exact hk
    rw [List.take_succ_eq_append_getElem h3]
    have h4 : (toB l)[k] = UInt8.ofNat (num64 ((l.drop (8 * k)).take 8)) := by simp [toB]
    simp [byteVs, h4]
theorem bits_extract (s : ByteArray) (i j : Nat) : bitsOf (s.extract i j) = ((bitsOf s).drop i).take (j - i) := by
  simp [bitsOf, ByteArray.data_extract, List.map_take, List.map_drop]

set_option maxRecDepth 100000 in
set_option maxHeartbeats 1600000 in
theorem bytes_calls (s : ByteArray) (w : World) (hs : s.size ≤ 140737488351232) :
    Calls Tryz.prog 108 #[.string s] w fun e w' => e = .returned (.string ⟨(toB (bitsOf s)).toArray⟩) ∧ Below w.heap.size w w' := by
  obtain ⟨i0, hi, hz0, hz1, hz2⟩ := info_parts info_u8
  obtain ⟨n, hn⟩ : ∃ n, s.size / 8 = n := ⟨_, rfl⟩
  have hn8 : 8 * n ≤ s.size := by omega
  have hnI : ((s.size : Int) / 8) = (n : Int) := by omega
  have hbl := bitsOf_length s
  have HN := hid hn
  clear hn
  go_enter Tryz.func108, Tryz.ntmps108
  go_wp2_with (at_make; refine make_blk _ rfl _ _ 70 rfl 5 i0 (.int .u8 0) Tryz.underlying70 hi hz0 hz1 rfl n rfl rfl (by rw [hz2]; omega) (by unfold maxLen; omega) ?_; intro w1 g hg hb hgrow)
  have hB : Below w.heap.size w w1 := (Below.refl _ _).grown hgrow (Nat.le_refl _) (fun k h => by cases h)
  have hb0 : Blk w1 g 5 (halfB (bitsOf s) 0) := by
    have e : (bitsOf s).length / 8 = n := by rw [hbl]; exact HN.out
    simpa [halfB, byteVs, e] using hb
  clear hb hgrow
  go_loopw [11] (fun i wr => ∃ k : Nat, k ≤ n ∧ i = .int .i64 k ∧ Blk wr g 5 (halfB (bitsOf s) k) ∧ Below w.heap.size w wr) (fun i _ => n - (intOf i).toNat)
  case atStart => exact ⟨0, Nat.zero_le _, rfl, hb0, hB⟩
  case round =>
    obtain ⟨k, hk, rfl, hbk, hBk⟩ := hrel
    clear hb0 hB
    by_cases hlt : k < n
    · obtain ⟨z1, z2, z3⟩ := halfB_step (bitsOf s) k (by rw [hbl, HN.out]; exact hlt)
      have hc := (hbk.cell k).trans z2
      have hf := hbk.frozen k
      have hx := bits_extract s (8 * k) (8 * (k + 1))
      have e8 : 8 * (k + 1) - 8 * k = 8 := by omega
      rw [e8] at hx
      rw [← hx] at z3
      have HS := hid z3
      have HX := hid (hbk.set k (.int .u8 ((num64 (bitsOf (s.extract (8 * k) (8 * (k + 1)))) : Int) % 256)))
      clear z1 z2 z3 hx e8
      have hk0 : 0 ≤ (k : Int) := Int.natCast_nonneg _
      have hkn : 8 * (k + 1) ≤ s.size := by omega
      have q1 : 0 ≤ 8 * (k : Int) := by omega
      have q2 : 8 * (k : Int) ≤ 8 * ((k : Int) + 1) := by omega
      have q3 : 8 * ((k : Int) + 1) ≤ (s.size : Int) := by omega
      have q4 : 0 ≤ 8 * ((k : Int) + 1) := by omega
      have hsl : ∀ W : World, (Instr.slice 9 (.string s) (some (.int .i64 (8 * (k : Int)))) (some (.int .i64 (8 * ((k : Int) + 1)))) none).run Tryz.prog W = .ok (.string (s.extract (8 * k) (8 * (k + 1)))) W := by
        intro W
        have := run_slice_text (P := Tryz.prog) 9 s .i64 .i64 _ _ q1 q2 q3 Tryz.underlying9 W
        have e1 : (8 * (k : Int)).toNat = 8 * k := by omega
        have e2 : (8 * ((k : Int) + 1)).toNat = 8 * (k + 1) := by omega
        rw [e1, e2] at this
        exact this
      have hsz : (s.extract (8 * k) (8 * (k + 1))).size ≤ 140737488351232 := by
        rw [← bitsOf_length, bits_extract, List.length_take, List.length_drop, bitsOf_length]; omega
      go_wp2_with (go_at_call 106; refine (num_calls _ _ hsz).mono ?_; rintro e w' ⟨rfl, rfl⟩)
      go_roundw
      case rel => exact ⟨k + 1, by omega, by go_num, by rw [← HS.out]; exact HX.out, hBk.setCell (by exact hg) _⟩
      case measure => simp [intOf]; omega
    · have e : k = n := by omega
      subst e
      have hend : halfB (bitsOf s) k = byteVs (toB (bitsOf s)) := by
        have e2 : (bitsOf s).length / 8 = k := by rw [hbl]; exact HN.out
        simp [halfB, e2, List.take_of_length_le (show (toB (bitsOf s)).length ≤ k by rw [toB_length, e2]; exact Nat.le_refl _)]
      have hl : (toB (bitsOf s)).length = k := by rw [toB_length, hbl]; exact HN.out
      rw [hend] at hbk
      have HL := hid hl
      clear hend hl
      go_wp2_with (with_reducible refine conv_text rfl (.tmp 27) 70 9 5 rfl Tryz.underlying70 Tryz.underlying5 Tryz.underlying9 g k k 5 _ (toB (bitsOf s)) rfl hbk (by rw [List.take_of_length_le (by rw [byteVs_length, HL.out]; exact Nat.le_refl _)]) HL.out ?_)
      go_ret
      exact ⟨rfl, hBk⟩
end Go.Proofs.YtpkpnaedacefaaaGreat.BitsW
