/- The document's bits (package ostinatoref1), walked by hand: Bit, Is of two bits, Turn. -/
import Derived.Test.YtpkpnaedacefaaaMacFine
namespace Go.Proofs.Ytpkpnaedacefaaa.RefW
set_option linter.unusedVariables false
set_option linter.unusedSimpArgs false
open Go Go.RowKit Go.Proofs.Ytpkpnaedacefaaa.Lib Go.Proofs.Ytpkpnaedacefaaa.Bits Go.Proofs.Ytpkpnaedacefaaa.BitsW Go.Proofs.Ytpkpnaedacefaaa.StuffW Go.Proofs.Ytpkpnaedacefaaa.Frame Go.Proofs.Ytpkpnaedacefaaa.FrameW Go.Proofs.Ytpkpnaedacefaaa.Code Go.Proofs.Ytpkpnaedacefaaa.CodeW Go.Proofs.Ytpkpnaedacefaaa.CodeL Go.Proofs.Ytpkpnaedacefaaa.Mac Go.Proofs.Ytpkpnaedacefaaa.MacW Go.Proofs.Ytpkpnaedacefaaa.PrintMore
theorem bit_calls (b : Bool) (w : World) : Calls Try.prog 41 #[.bool b] w fun e w' => e = .returned (.string (B [b])) ∧ Below w.heap.size w w' := by
  have hB := hid (Below.refl w.heap.size w)
  go_enter Try.func41, Try.ntmps41
  cases b
  · go_wp2_with fail
    go_ret
    exact ⟨rfl, hB.out⟩
  · go_wp2_with fail
    go_ret
    exact ⟨rfl, hB.out⟩
theorem turn_next (l : List Bool) (k j : Nat) (h : j < l.length) : (turn l k).take (j + 1) = (turn l k).take j ++ [(bitAt l j) != decide (j = k)] := by
  rw [take_snoc _ _ (by rw [turn_length]; exact h), bitAt_eq l j h]
  congr 2
  unfold turn
  rw [List.getElem_modify]
  by_cases e : k = j
  · subst e; simp
  · have : ¬ j = k := fun h => e h.symm
    simp [e, this]
end Go.Proofs.Ytpkpnaedacefaaa.RefW


/- The document's bits (package ostinatoref1), walked by hand: Of, CRC. -/
namespace Go.Proofs.Ytpkpnaedacefaaa.RefW
set_option linter.unusedVariables false
set_option linter.unusedSimpArgs false
open Go Go.RowKit Go.Proofs.Ytpkpnaedacefaaa.Lib Go.Proofs.Ytpkpnaedacefaaa.Bits Go.Proofs.Ytpkpnaedacefaaa.BitsW Go.Proofs.Ytpkpnaedacefaaa.StuffW Go.Proofs.Ytpkpnaedacefaaa.Frame Go.Proofs.Ytpkpnaedacefaaa.FrameW Go.Proofs.Ytpkpnaedacefaaa.Code Go.Proofs.Ytpkpnaedacefaaa.CodeW Go.Proofs.Ytpkpnaedacefaaa.CodeL Go.Proofs.Ytpkpnaedacefaaa.Mac Go.Proofs.Ytpkpnaedacefaaa.MacW Go.Proofs.Ytpkpnaedacefaaa.PrintMore
attribute [local go_sem] max2_int min2_int max_two min_two
theorem ofN_next (n W k : Nat) (h : k < W) : (ofN n W).take (k + 1) = (ofN n W).take k ++ [n.testBit (W - 1 - k)] := by
  rw [List.take_add_one, ofN_get n W k h]
  rfl
set_option maxRecDepth 100000 in
set_option maxHeartbeats 3200000 in
theorem rof_calls (n W : Nat) (hn : n < 18446744073709551616) (hW0 : 0 < W) (hW : W ≤ 64) (w : World) : Calls Try.prog 42 #[.int .u64 n, .int .i64 W] w fun e w' => e = .returned (.string (B (ofN n W))) ∧ Below w.heap.size w w' := by
  have hB := hid (Below.refl w.heap.size w)
  have HBit := hid (fun k : Nat => (show (Go.bits BinOp.and IntKind.u64 ((n : Int) / 2 ^ k) 1 == 1) = n.testBit k from BitsW.and_one n k hn))
  have HN := hid (fun k h => ofN_next n W k h)
  have hend : (ofN n W).take W = ofN n W := List.take_of_length_le (by rw [ofN_length]; exact Nat.le_refl _)
  have HE := hid hend
  have HL := hid (ofN_length n W)
  clear hend
  generalize ofN n W = T at HN HE HL ⊢
  have m1 : min (W : Int) 64 = W := by omega
  have m2 : max 0 (W : Int) = W := by omega
  go_enter Try.func42, Try.ntmps42
  go_wp2_with fail
  go_loopw [5, 6] (fun o i wr => ∃ k : Nat, k ≤ W ∧ i = .int .i64 ((W : Int) - 1 - k) ∧ o = .string (B (T.take k)) ∧ Below w.heap.size w wr) (fun _ i _ => (intOf i + 1).toNat)
  case atStart => exact ⟨0, Nat.zero_le _, by go_num, rfl, hB.out⟩
  case round =>
    clear hB
    obtain ⟨k, hk, rfl, rfl, HX⟩ := hrel
    have H4 := hid HX
    clear HX
    by_cases hlt : k < W
    · obtain ⟨m, hm⟩ : ∃ m : Nat, W - 1 - k = m := ⟨_, rfl⟩
      have hmi : (W : Int) - 1 - k = (m : Int) := by omega
      rw [hmi]
      have ht := HN.out k hlt
      rw [hm] at ht
      have hb := HBit.out m
      have hmb : m ≤ 64 := by omega
      have hbig : ∀ c : Bool, (9223372036854775807 < (B (List.take k T)).size + (B [c]).size) = False := fun c => eq_false (by rw [B_size, B_size, List.length_take]; simp only [List.length_cons, List.length_nil]; omega)
      go_wp2_with fail
      with_reducible refine (bit_calls (n.testBit m) _).mono ?_
      rintro y w2 ⟨rfl, hb2⟩
      have H5 := hid (H4.out.trans (hb2.mono H4.out.size))
      clear H4 hb2
      go_wp2_with fail
      go_roundw
      case rel => exact ⟨k + 1, by omega, by go_num, by rw [ht]; simp [B_append], H5.out⟩
      case measure => simp [intOf]; try omega
    · obtain rfl : k = W := by omega
      rw [HE.out]
      have hmi : (k : Int) - 1 - k = -1 := by omega
      rw [hmi]
      go_wp2_with fail
      go_ret
      exact ⟨rfl, H4.out⟩
end Go.Proofs.Ytpkpnaedacefaaa.RefW


/- The document's bits (package ostinatoref1), walked by hand: Num, FromBytes, Bytes. -/
namespace Go.Proofs.Ytpkpnaedacefaaa.RefW
set_option linter.unusedVariables false
set_option linter.unusedSimpArgs false
open Go Go.RowKit Go.Proofs.Ytpkpnaedacefaaa.Lib Go.Proofs.Ytpkpnaedacefaaa.Bits Go.Proofs.Ytpkpnaedacefaaa.BitsW Go.Proofs.Ytpkpnaedacefaaa.StuffW Go.Proofs.Ytpkpnaedacefaaa.Frame Go.Proofs.Ytpkpnaedacefaaa.FrameW Go.Proofs.Ytpkpnaedacefaaa.Code Go.Proofs.Ytpkpnaedacefaaa.CodeW Go.Proofs.Ytpkpnaedacefaaa.CodeL Go.Proofs.Ytpkpnaedacefaaa.Mac Go.Proofs.Ytpkpnaedacefaaa.MacW Go.Proofs.Ytpkpnaedacefaaa.PrintMore
attribute [local go_sem] max2_int min2_int max_two min_two
theorem toB_next (l : List Bool) (k : Nat) (hk : k < l.length / 8) : (toB l).take (k + 1) = (toB l).take k ++ [UInt8.ofNat (num64 ((l.drop (8 * k)).take 8))] := by
  have h3 : k < (toB l).length := by rw [toB_length]; exact hk
  rw [List.take_succ_eq_append_getElem h3]
  congr 2
  simp [toB]
end Go.Proofs.Ytpkpnaedacefaaa.RefW
