/- The walks of package bits: what each call computes, as rows of Bools. -/
import Derived.Test.YtkclgfjfmlogmaaProg
import Derived.Test.YtkclgfjfmlogmaaBitsSpec
import Derived.Test.YtkclgfjfmlogmaaMem
import Derived.Test.YtkclgfjfmlogmaaWMore
import Derived.Tactics
import Derived.LoopTactic
import Derived.WalkKit
import Derived.KernelRfl
import Derived.RowKit
namespace Go.Proofs.Ytkclgfjfmlogmaa.BitsW
set_option linter.unusedVariables false
set_option linter.unusedSimpArgs false
open Go Go.RowKit Go.Proofs.Ytkclgfjfmlogmaa.Lib Go.Proofs.Ytkclgfjfmlogmaa.Bits Go.Proofs.YtkclgfjfmlogmaaW.PrintMore
attribute [local go_sem] max2_int min2_int max_two min_two

theorem info_u8 : (Try.prog.info? 5).map (fun i => (i.zero, i.size, i.bytes)) = some (some (.int .u8 0), 1, 1) := by kernel_rfl

theorem sign_calls (b : Bool) (w : World) : Calls Try.prog 25 #[.bool b] w fun e w' => e = .returned (.int .u8 ((sg b).toNat : Int)) ∧ w = w' := by
  cases b
  all_goals
    go_enter Try.func25, Try.ntmps25
    go_wp2
    go_ret
    exact ⟨rfl, rfl⟩

/-- What clean's loop has made of the block after k rounds. -/
def half (s : ByteArray) (k : Nat) : List Value := byteVs (((bitsOf s).take k).map sg) ++ byteVs (s.data.toList.drop k)

theorem half_len (s : ByteArray) (k : Nat) (hk : k ≤ s.size) : (half s k).length = s.size := by
  have h1 := size_list s
  simp [half, byteVs_length, bitsOf_length, h1]
  omega
theorem half_get (s : ByteArray) (k : Nat) (hk : k < s.data.toList.length) : (half s k)[k]? = some (.int .u8 ((s.data.toList[k]).toNat : Int)) := by
  have h1 := size_list s
  have h2 : (byteVs (((bitsOf s).take k).map sg)).length = k := by simp [byteVs_length, bitsOf_length]; omega
  unfold half
  rw [List.getElem?_append_right (by omega), h2, Nat.sub_self]
  simp only [byteVs, List.getElem?_map, List.getElem?_drop, Nat.add_zero]
  rw [List.getElem?_eq_getElem hk]
  rfl
theorem half_set (s : ByteArray) (k : Nat) (hk : k < s.data.toList.length) : (half s k).set k (.int .u8 ((sg (s.data.toList[k] == 49)).toNat : Int)) = half s (k + 1) := by
  have h1 := size_list s
  have h2 : (byteVs (((bitsOf s).take k).map sg)).length = k := by simp [byteVs_length, bitsOf_length]; omega
  unfold half
  rw [List.set_append_right _ _ (by omega), h2, Nat.sub_self]
  have h3 : s.data.toList.drop k = s.data.toList[k] :: s.data.toList.drop (k + 1) := List.drop_eq_getElem_cons hk
  have h4 : (bitsOf s).take (k + 1) = (bitsOf s).take k ++ [s.data.toList[k] == 49] := by
    rw [List.take_succ_eq_append_getElem (by rw [bitsOf_length]; omega)]
    simp [bitsOf]
  rw [h3, h4]
  simp [byteVs]
theorem byte_eq (c : UInt8) (n : Int) (h : (c.toNat : Int) = n) : (c == 49) = (n == 49) := by
  subst h
  rw [Bool.eq_iff_iff]
  simp only [beq_iff_eq]
  constructor
  · rintro rfl; rfl
  · intro h; exact UInt8.toNat_inj.1 (by simpa using (by omega : c.toNat = 49))

set_option maxRecDepth 100000 in
set_option maxHeartbeats 1600000 in
theorem clean_calls (s : ByteArray) (w : World) (hs : s.size ≤ 140737488351232) :
    Calls Try.prog 24 #[.string s] w fun e w' => ∃ g, w.heap.size ≤ g ∧ e = .returned (.slice (some ⟨g, 0, none⟩) s.size s.size) ∧ Blk w' g 5 (byteVs ((bitsOf s).map sg)) ∧ Below w.heap.size w w' := by
  obtain ⟨i0, hi, hz0, hz1, hz2⟩ := info_parts info_u8
  go_enter Try.func24, Try.ntmps24
  go_wp2_with (first
    | (at_make; refine make_blk _ rfl _ _ 32 rfl 5 i0 (.int .u8 0) Try.underlying32 hi hz0 hz1 rfl s.size rfl rfl (by rw [hz2]; omega) (by unfold maxLen; omega) ?_; intro w1 g hg hb hgrow)
    | (with_reducible refine copy_text rfl (.tmp 9) (.tmp 10) 32 9 rfl 5 Try.underlying32 (by rw [hi, Option.map_some, hz1]) g s.size s.size s _ 5 rfl rfl hb (Nat.le_refl _) (by simp) ?_; intro w2 hb2 hgrow2))
  have hb3 : Blk w2 g 5 (half s 0) := by
    have : half s 0 = byteVs s.data.toList ++ List.drop s.size (List.replicate s.size (Value.int IntKind.u8 0)) := by simp [half, byteVs]
    rw [this]; exact hb2
  have hB : Below w.heap.size w w2 := ((Below.refl _ _).grown hgrow (Nat.le_refl _) (fun k h => by cases h)).grown hgrow2 hgrow.size (fun k h => by cases h; exact hg)
  clear hb hb2 hgrow hgrow2
  go_loopw [14] (fun i wr => ∃ k : Nat, k ≤ s.size ∧ i = .int .i64 k ∧ Blk wr g 5 (half s k) ∧ Below w.heap.size w wr) (fun i _ => s.size - (intOf i).toNat)
  case atStart => exact ⟨0, Nat.zero_le _, rfl, hb3, hB⟩
  case round =>
    obtain ⟨k, hk, rfl, hbk, hBk⟩ := hrel
    clear hb3 hB
    by_cases hlt : k < s.size
    · have hl : k < s.data.toList.length := by rw [size_list]; exact hlt
      have hc := (hbk.cell k).trans (half_get s k hl)
      have hf := hbk.frozen k
      have hset := half_set s k hl
      have hce := byte_eq (s.data.toList[k]) _ rfl
      rw [hce] at hset
      clear hce
      generalize (s.data.toList[k].toNat : Int) = c at hc hset
      have HS := hid hset
      clear hset
      go_wp2_with (go_at_call 25; refine (sign_calls _ _).mono ?_; rintro e w' ⟨rfl, rfl⟩)
      go_roundw
      case rel => exact ⟨k + 1, by omega, by go_num, by rw [← HS.out]; exact hbk.set k _, hBk.setCell (by exact hg) _⟩
      case measure => simp [intOf]; omega
    · go_wp2
      go_ret
      have e : k = s.size := by omega
      subst e
      refine ⟨g, hg, rfl, ?_, hBk⟩
      have h1 := size_list s
      have : half s s.size = byteVs ((bitsOf s).map sg) := by
        unfold half
        rw [List.take_of_length_le (by rw [bitsOf_length]; exact Nat.le_refl _), List.drop_of_length_le (by omega)]
        simp [byteVs]
      rw [← this]
      exact hbk

theorem sg_48 (b : Bool) : ((sg b).toNat : Int) = 48 ↔ b = false := by cases b <;> decide
theorem cell48 (b : Bool) : (((sg b).toNat : Int) == 48) = !b := by cases b <;> decide
theorem cell49 (b : Bool) : (((sg b).toNat : Int) == 49) = b := by cases b <;> decide
theorem bitVs_set (l : List Bool) (i : Nat) (b : Bool) : (byteVs (l.map sg)).set i (.int .u8 ((sg b).toNat : Int)) = byteVs ((l.set i b).map sg) := by
  simp [byteVs, List.map_set]
theorem bitVs_get (l : List Bool) (i : Nat) (h : i < l.length) : (byteVs (l.map sg))[i]? = some (.int .u8 ((sg l[i]).toNat : Int)) := by
  simp [byteVs, h]
theorem bitVs_len (l : List Bool) : (byteVs (l.map sg)).length = l.length := by simp [byteVs]
theorem turn_set (l : List Bool) (i : Nat) (h : i < l.length) : l.set i (!l[i]) = turn l i := by
  unfold turn
  apply List.ext_getElem?
  intro j
  rw [List.getElem?_modify, List.getElem?_set]
  by_cases e : i = j
  · subst e; simp [h]
  · simp [e]
theorem ret_str {a b : ByteArray} (h : a = b) : Ending.returned (.string a) = .returned (.string b) := by rw [h]

set_option maxRecDepth 100000 in
set_option maxHeartbeats 1600000 in
theorem turn_calls (s : ByteArray) (at_ : Int) (w : World) (hs : s.size ≤ 140737488351232) :
    Calls Try.prog 22 #[.string s, .int .i64 at_] w fun e w' => e = .returned (.string (B (turnI (bitsOf s) at_))) ∧ Below w.heap.size w w' := by
  have hlen := bitsOf_length s
  by_cases h0 : 0 ≤ at_
  · by_cases h1 : at_ < (s.size : Int)
    · obtain ⟨i, rfl⟩ := Int.eq_ofNat_of_zero_le h0
      have hi : i < (bitsOf s).length := by omega
      have ht : turnI (bitsOf s) (i : Int) = turn (bitsOf s) i := by unfold turnI; rw [if_pos ⟨h0, by omega⟩]; simp
      rw [ht, ← turn_set _ i hi]
      have hg2 := bitVs_get (bitsOf s) i hi
      have hset := bitVs_set (bitsOf s) i (!(bitsOf s)[i])
      have h48 := cell48 (bitsOf s)[i]
      generalize hb : (bitsOf s)[i] = b at *
      clear hb ht
      have HS := hid hset
      have HG := hid hg2
      have HL := hid hlen
      clear hset hg2 hlen
      have hlt : decide ((i : Int) < (s.size : Int)) = true := decide_eq_true h1
      have hlt' : i < s.size := by omega
      go_enter Try.func22, Try.ntmps22
      go_wp2_with fail
      refine (clean_calls s _ hs).mono ?_
      rintro e w1 ⟨g, hg, rfl, hbk, hB⟩
      have hc := (hbk.cell i).trans HG.out
      have hf := hbk.frozen i
      generalize hn : ((sg b).toNat : Int) = n at hc h48
      have HN := hid hn
      clear hn
      have HSa := hid (hbk.set i (.int .u8 ((sg (!b)).toNat : Int)))
      go_wp2_with (first
        | (go_at_call 25; refine (sign_calls _ _).mono ?_; rintro e w' ⟨rfl, rfl⟩)
        | (with_reducible refine conv_text rfl (.tmp 25) 32 9 5 rfl Try.underlying32 Try.underlying5 Try.underlying9 g s.size s.size 5 _ (((bitsOf s).set i (!b)).map sg) rfl (by have := HSa.out; rw [HS.out] at this; exact this) (by rw [List.take_of_length_le (by rw [byteVs_length]; simp [HL.out])]) (by simp [HL.out]) ?_))
      go_ret
      exact ⟨by simp [B, List.map_set], (hB.setCell (by exact hg) _)⟩
    · have ht : turnI (bitsOf s) at_ = bitsOf s := by unfold turnI; rw [if_neg (by omega)]
      rw [ht]
      clear ht
      have HL := hid hlen
      clear hlen
      go_enter Try.func22, Try.ntmps22
      go_wp2_with fail
      refine (clean_calls s _ hs).mono ?_
      rintro e w1 ⟨g, hg, rfl, hbk, hB⟩
      go_wp2_with (with_reducible refine conv_text rfl (.tmp 25) 32 9 5 rfl Try.underlying32 Try.underlying5 Try.underlying9 g s.size s.size 5 _ ((bitsOf s).map sg) rfl hbk (by rw [List.take_of_length_le (by rw [byteVs_length]; simp [HL.out])]) (by simp [HL.out]) ?_)
      go_ret
      exact ⟨rfl, hB⟩
  · have ht : turnI (bitsOf s) at_ = bitsOf s := by unfold turnI; rw [if_neg (by omega)]
    rw [ht]
    clear ht
    have HL := hid hlen
    clear hlen
    go_enter Try.func22, Try.ntmps22
    go_wp2_with fail
    refine (clean_calls s _ hs).mono ?_
    rintro e w1 ⟨g, hg, rfl, hbk, hB⟩
    go_wp2_with (with_reducible refine conv_text rfl (.tmp 25) 32 9 5 rfl Try.underlying32 Try.underlying5 Try.underlying9 g s.size s.size 5 _ ((bitsOf s).map sg) rfl hbk (by rw [List.take_of_length_le (by rw [byteVs_length]; simp [HL.out])]) (by simp [HL.out]) ?_)
    go_ret
    exact ⟨rfl, hB⟩

/-- What And's loop has made of the block after k rounds. -/
def halfAnd (a b : List Bool) (k : Nat) : List Bool := (List.zipWith (· && ·) a b).take k ++ a.drop k
theorem halfAnd_step (a b : List Bool) (k : Nat) (ha : k < a.length) (hb : k < b.length) :
    (halfAnd a b k).length = a.length ∧ (halfAnd a b k)[k]? = some a[k] ∧ (halfAnd a b k).set k (a[k] && b[k]) = halfAnd a b (k + 1) := by
  have hz : k < (List.zipWith (· && ·) a b).length := by simp; omega
  have h2 : ((List.zipWith (· && ·) a b).take k).length = k := by simp; omega
  unfold halfAnd
  refine ⟨by simp; omega, ?_, ?_⟩
  · rw [List.getElem?_append_right (by omega), h2, Nat.sub_self, List.getElem?_drop]
    simp [ha]
  · rw [List.set_append_right _ _ (by omega), h2, Nat.sub_self]
    conv => lhs; rw [List.drop_eq_getElem_cons ha]
    rw [List.take_succ_eq_append_getElem hz]
    simp only [List.set_cons_zero, List.getElem_zipWith, List.append_assoc, List.cons_append, List.nil_append]

end Go.Proofs.Ytkclgfjfmlogmaa.BitsW
