/- The walks of package bits, continued: numbers as bits. -/
import Derived.Test.YtpmbapefchffjaaBitsWalks
import Derived.WalkSmall
namespace Go.Proofs.Ytpmbapefchffjaa.BitsW
set_option linter.unusedVariables false
set_option linter.unusedSimpArgs false
open Go Go.RowKit Go.Proofs.Ytpmbapefchffjaa.Lib Go.Proofs.Ytpmbapefchffjaa.Bits Go.Proofs.YtpmbapefchffjaaW.PrintMore
attribute [local go_sem] max2_int min2_int max_two min_two

/-- How many bits Of tells. -/
def wid (width : Int) : Nat := (min (max width 0) 64).toNat

/-- What Of's loop has made of the block after k rounds: from the end on. -/
def halfOf (n : Nat) (W k : Nat) : List Value := List.replicate (W - k) (.int .u8 0) ++ byteVs ((ofN n k).map sg)
theorem halfOf_len (n W k : Nat) (hk : k ≤ W) : (halfOf n W k).length = W := by simp [halfOf, byteVs, ofN_length]; omega
theorem halfOf_step (n W k : Nat) (hk : k < W) : (halfOf n W k).set (W - 1 - k) (.int .u8 ((sg (n.testBit k)).toNat : Int)) = halfOf n W (k + 1) := by
  unfold halfOf
  rw [List.set_append_left _ _ (by simp; omega)]
  have e : W - k = (W - (k + 1)) + 1 := by omega
  have e2 : W - 1 - k = W - (k + 1) := by omega
  rw [e, List.replicate_succ', e2, List.set_append_right _ _ (by simp)]
  simp [ofN, byteVs]

theorem and_one_nat (m : Nat) (hm : m < 18446744073709551616) : (Go.bits BinOp.and IntKind.u64 (m : Int) 1 == 1) = decide (m % 2 = 1) := by
  rw [and_one_u64 _ (by omega) (by omega), Bool.eq_iff_iff]
  simp only [beq_iff_eq, decide_eq_true_eq]
  omega
theorem and_one (n k : Nat) (hn : n < 18446744073709551616) : (Go.bits BinOp.and IntKind.u64 ((n : Int) / 2 ^ k) 1 == 1) = n.testBit k := by
  have e : ((n : Int) / 2 ^ k) = ((n >>> k : Nat) : Int) := by
    rw [Nat.shiftRight_eq_div_pow]
    simp
  have hlt : n >>> k < 18446744073709551616 := by
    rw [Nat.shiftRight_eq_div_pow]
    exact Nat.lt_of_le_of_lt (Nat.div_le_self _ _) hn
  rw [e, and_one_nat _ hlt, Nat.testBit_eq_decide_div_mod_eq, ← Nat.shiftRight_eq_div_pow]
theorem halfOf_get (n W k : Nat) (hk : k < W) : (halfOf n W k)[W - 1 - k]? = some (.int .u8 0) := by
  unfold halfOf
  rw [List.getElem?_append_left (by simp; omega), List.getElem?_replicate]
  rw [if_pos (by omega)]
theorem halfOf_end (n W : Nat) : halfOf n W W = byteVs ((ofN n W).map sg) := by simp [halfOf]

set_option maxRecDepth 100000 in
set_option maxHeartbeats 1600000 in
theorem of_calls (n : Nat) (width : Int) (w : World) (hn : n < 18446744073709551616) :
    Calls Try.prog 14 #[.int .u64 n, .int .i64 width] w fun e w' => e = .returned (.string (B (ofN n (wid width)))) ∧ Below w.heap.size w w' := by
  obtain ⟨i0, hi, hz0, hz1, hz2⟩ := info_parts info_u8
  obtain ⟨W, hW⟩ : ∃ W, wid width = W := ⟨_, rfl⟩
  have hW64 : W ≤ 64 := by rw [← hW]; unfold wid; omega
  have hcase : (width < 0 ∧ W = 0) ∨ (0 ≤ width ∧ 64 < width ∧ W = 64) ∨ (0 ≤ width ∧ width ≤ 64 ∧ width = (W : Int)) := by
    rw [← hW]; unfold wid; omega
  rw [hW]
  clear hW
  have bit : ∀ k : Nat, (Go.bits BinOp.and IntKind.u64 ((n : Int) / 2 ^ k) 1 == 1) = n.testBit k := by
    intro k
    exact and_one n k hn
  have HBit := hid bit
  clear bit
  rcases hcase with ⟨h1, rfl⟩ | ⟨h1, h2, rfl⟩ | ⟨h1, h2, rfl⟩
  case inl =>
    go_enter Try.func14, Try.ntmps14
    go_wp2_with (at_make; refine make_blk _ rfl _ _ 39 rfl 5 i0 (.int .u8 0) Try.underlying39 hi hz0 hz1 rfl 0 rfl rfl (by rw [hz2]; omega) (by unfold maxLen; omega) ?_; intro w1 g hg hb hgrow)
    have hB : Below w.heap.size w w1 := (Below.refl _ _).grown hgrow (Nat.le_refl _) (fun k h => by cases h)
    have hb0 : Blk w1 g 5 (halfOf n 0 0) := by simpa [halfOf, ofN, byteVs] using hb
    clear hb hgrow
    go_loopw [13] (fun i wr => ∃ k : Nat, k ≤ 0 ∧ i = .int .i64 k ∧ Blk wr g 5 (halfOf n 0 k) ∧ Below w.heap.size w wr) (fun i _ => 0 - (intOf i).toNat)
    case atStart => exact ⟨0, Nat.zero_le _, rfl, hb0, hB⟩
    case round =>
      obtain ⟨k, hk, rfl, hbk, hBk⟩ := hrel
      clear hb0 hB
      by_cases hlt : k < 0
      · exact absurd hlt (Nat.not_lt_zero _)
      · have e : k = 0 := by omega
        subst e
        have HL := hid (halfOf_end n 0)
        go_wp2_with (with_reducible refine conv_text rfl (.tmp 30) 39 9 5 rfl Try.underlying39 Try.underlying5 Try.underlying9 g 0 0 5 _ ((ofN n 0).map sg) rfl hbk (by rw [HL.out, List.take_of_length_le (by simp [byteVs, ofN_length])]) (by simp [ofN_length]) ?_)
        go_ret
        exact ⟨rfl, hBk⟩
  case inr.inl =>
    go_enter Try.func14, Try.ntmps14
    go_wp2_with (at_make; refine make_blk _ rfl _ _ 39 rfl 5 i0 (.int .u8 0) Try.underlying39 hi hz0 hz1 rfl 64 rfl rfl (by rw [hz2]; omega) (by unfold maxLen; omega) ?_; intro w1 g hg hb hgrow)
    have hB : Below w.heap.size w w1 := (Below.refl _ _).grown hgrow (Nat.le_refl _) (fun k h => by cases h)
    have hb0 : Blk w1 g 5 (halfOf n 64 0) := by simpa [halfOf, ofN, byteVs] using hb
    clear hb hgrow
    go_loopw [13] (fun i wr => ∃ k : Nat, k ≤ 64 ∧ i = .int .i64 k ∧ Blk wr g 5 (halfOf n 64 k) ∧ Below w.heap.size w wr) (fun i _ => 64 - (intOf i).toNat)
    case atStart => exact ⟨0, Nat.zero_le _, rfl, hb0, hB⟩
    case round =>
      obtain ⟨k, hk, rfl, hbk, hBk⟩ := hrel
      clear hb0 hB
      by_cases hlt : k < 64
      · have hset := halfOf_step n 64 k hlt
        have HS := hid hset
        have HX := hid (hbk.set (64 - 1 - k) (.int .u8 ((sg (n.testBit k)).toNat : Int)))
        have hlen := halfOf_len n 64 k hk
        have hf := hbk.frozen (64 - 1 - k)
        have hc := (hbk.cell (64 - 1 - k)).trans (halfOf_get n 64 k hlt)
        clear hset hlen
        have hk0 : 0 ≤ (k : Int) := Int.natCast_nonneg _
        have hx1 : 0 ≤ (64 : Int) - 1 - k := by omega
        have hx2 : (64 : Int) - 1 - k < 64 := by omega
        go_wp2_with fail
        rw [HBit.out k]
        go_wp2_with (go_at_call 28; refine (sign_calls _ _).mono ?_; rintro e w' ⟨rfl, rfl⟩)
        go_roundw
        case rel => exact ⟨k + 1, by omega, by go_num, by rw [← HS.out]; exact HX.out, hBk.setCell (by exact hg) _⟩
        case measure => simp [intOf]; omega
      · have e : k = 64 := by omega
        subst e
        have HL := hid (halfOf_end n 64)
        go_wp2_with (with_reducible refine conv_text rfl (.tmp 30) 39 9 5 rfl Try.underlying39 Try.underlying5 Try.underlying9 g 64 64 5 _ ((ofN n 64).map sg) rfl hbk (by rw [HL.out, List.take_of_length_le (by simp [byteVs, ofN_length])]) (by simp [ofN_length]) ?_)
        go_ret
        exact ⟨rfl, hBk⟩
  case inr.inr =>
    go_enter Try.func14, Try.ntmps14
    go_wp2_with (at_make; refine make_blk _ rfl _ _ 39 rfl 5 i0 (.int .u8 0) Try.underlying39 hi hz0 hz1 rfl W rfl rfl (by rw [hz2]; omega) (by unfold maxLen; omega) ?_; intro w1 g hg hb hgrow)
    have hB : Below w.heap.size w w1 := (Below.refl _ _).grown hgrow (Nat.le_refl _) (fun k h => by cases h)
    have hb0 : Blk w1 g 5 (halfOf n W 0) := by simpa [halfOf, ofN, byteVs] using hb
    clear hb hgrow
    go_loopw [13] (fun i wr => ∃ k : Nat, k ≤ W ∧ i = .int .i64 k ∧ Blk wr g 5 (halfOf n W k) ∧ Below w.heap.size w wr) (fun i _ => W - (intOf i).toNat)
    case atStart => exact ⟨0, Nat.zero_le _, rfl, hb0, hB⟩
    case round =>
      obtain ⟨k, hk, rfl, hbk, hBk⟩ := hrel
      clear hb0 hB
      by_cases hlt : k < W
      · have hset := halfOf_step n W k hlt
        have HS := hid hset
        have HX := hid (hbk.set (W - 1 - k) (.int .u8 ((sg (n.testBit k)).toNat : Int)))
        have hlen := halfOf_len n W k hk
        have hf := hbk.frozen (W - 1 - k)
        have hc := (hbk.cell (W - 1 - k)).trans (halfOf_get n W k hlt)
        clear hset hlen
        have hk0 : 0 ≤ (k : Int) := Int.natCast_nonneg _
        have hx1 : 0 ≤ (W : Int) - 1 - k := by omega
        have hx2 : (W : Int) - 1 - k < W := by omega
        go_wp2_with fail
        rw [HBit.out k]
        go_wp2_with (go_at_call 28; refine (sign_calls _ _).mono ?_; rintro e w' ⟨rfl, rfl⟩)
        go_roundw
        case rel => exact ⟨k + 1, by omega, by go_num, by rw [← HS.out]; exact HX.out, hBk.setCell (by exact hg) _⟩
        case measure => simp [intOf]; omega
      · have e : k = W := by omega
        subst e
        have HL := hid (halfOf_end n k)
        go_wp2_with (with_reducible refine conv_text rfl (.tmp 30) 39 9 5 rfl Try.underlying39 Try.underlying5 Try.underlying9 g k k 5 _ ((ofN n k).map sg) rfl hbk (by rw [HL.out, List.take_of_length_le (by simp [byteVs, ofN_length])]) (by simp [ofN_length]) ?_)
        go_ret
        exact ⟨rfl, hBk⟩
end Go.Proofs.Ytpmbapefchffjaa.BitsW
