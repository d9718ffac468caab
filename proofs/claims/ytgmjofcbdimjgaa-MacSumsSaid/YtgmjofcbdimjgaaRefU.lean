/- The document's bits (package ostinatoref1), walked by hand: Of, CRC. -/
import Derived.Test.YtgmjofcbdimjgaaRefT
namespace Go.Proofs.Ytgmjofcbdimjgaa.RefW
set_option linter.unusedVariables false
set_option linter.unusedSimpArgs false
open Go Go.RowKit Go.Proofs.Ytgmjofcbdimjgaa.Lib Go.Proofs.Ytgmjofcbdimjgaa.Bits Go.Proofs.Ytgmjofcbdimjgaa.BitsW Go.Proofs.Ytgmjofcbdimjgaa.StuffW Go.Proofs.Ytgmjofcbdimjgaa.Frame Go.Proofs.Ytgmjofcbdimjgaa.FrameW Go.Proofs.Ytgmjofcbdimjgaa.Code Go.Proofs.Ytgmjofcbdimjgaa.CodeW Go.Proofs.Ytgmjofcbdimjgaa.CodeL Go.Proofs.Ytgmjofcbdimjgaa.Mac Go.Proofs.Ytgmjofcbdimjgaa.MacW Go.Proofs.Ytgmjofcbdimjgaa.PrintMore
attribute [local go_sem] max2_int min2_int max_two min_two
theorem ofN_next (n W k : Nat) (h : k < W) : (ofN n W).take (k + 1) = (ofN n W).take k ++ [n.testBit (W - 1 - k)] := by
  rw [List.take_add_one, ofN_get n W k h]
  rfl
set_option maxRecDepth 100000 in
set_option maxHeartbeats 3200000 in
theorem rof_calls (n W : Nat) (hn : n < 18446744073709551616) (hW0 : 0 < W) (hW : W ≤ 64) (w : World) : Calls Try.prog 24 #[.int .u64 n, .int .i64 W] w fun e w' => e = .returned (.string (B (ofN n W))) ∧ Below w.heap.size w w' := by
  have hB := hid (Below.refl w.heap.size w)
  have HBit := hid (fun k : Nat => (show (Go.bits BinOp.and IntKind.u64 ((n : Int) / 2 ^ k) 1 == 1) = n.testBit k from BitsW.and_one n k hn))
  have HN := hid (fun k h => ofN_next n W k h)
  have hend : (ofN n W).take W = ofN n W := List.take_of_length_le (by rw [ofN_length]; exact Nat.le_refl _)
  have HE := hid hend
  have HL := hid (ofN_length n W)
  clear hend
  generalize ofN n W = T at HN HE HL ⊢
  have m1 : min (W : Int) 64 = W := by omega
  have m2 : max 0 (W : Int) = W := by omega
  go_enter Try.func24, Try.ntmps24
  go_wp2_with fail
  go_loopw [5, 6] (fun o i wr => ∃ k : Nat, k ≤ W ∧ i = .int .i64 ((W : Int) - 1 - k) ∧ o = .string (B (T.take k)) ∧ Below w.heap.size w wr) (fun _ i _ => (intOf i + 1).toNat)
  case atStart => exact ⟨0, Nat.zero_le _, by go_num, rfl, hB.out⟩
  case round =>
    clear hB
    obtain ⟨k, hk, rfl, rfl, HX⟩ := hrel
    have H4 := hid HX
    clear HX
    by_cases hlt : k < W
    · obtain ⟨m, hm⟩ : ∃ m : Nat, W - 1 - k = m := ⟨_, rfl⟩
      have hmi : (W : Int) - 1 - k = (m : Int) := by omega
      rw [hmi]
      have ht := HN.out k hlt
      rw [hm] at ht
      have hb := HBit.out m
      have hmb : m ≤ 64 := by omega
      have hbig : ∀ c : Bool, (9223372036854775807 < (B (List.take k T)).size + (B [c]).size) = False := fun c => eq_false (by rw [B_size, B_size, List.length_take]; simp only [List.length_cons, List.length_nil]; omega)
      go_wp2_with fail
      with_reducible refine (bit_calls (n.testBit m) _).mono ?_
      rintro y w2 ⟨rfl, hb2⟩
      have H5 := hid (H4.out.trans (hb2.mono H4.out.size))
      clear H4 hb2
      go_wp2_with fail
      go_roundw
      case rel => exact ⟨k + 1, by omega, by go_num, by rw [ht]; simp [B_append], H5.out⟩
      case measure => simp [intOf]; try omega
    · obtain rfl : k = W := by omega
      rw [HE.out]
      have hmi : (k : Int) - 1 - k = -1 := by omega
      rw [hmi]
      go_wp2_with fail
      go_ret
      exact ⟨rfl, H4.out⟩
set_option maxRecDepth 100000 in
set_option maxHeartbeats 3200000 in
theorem rcrc_calls (l : List Bool) (hl : l.length ≤ 1000) (w : World) : Calls Try.prog 26 #[.string (B l)] w fun e w' => e = .returned (.int .u16 (crcN l)) ∧ Below w.heap.size w w' := by
  have hB := hid (Below.refl w.heap.size w)
  have hsz := B_size l
  have HIX := hid (idx_at l)
  have HT := hid (fun j (h : j < l.length) => (show crcN (l.take (j + 1)) = addC (crcN (l.take j)) (bitAt l j) from by
    rw [take_snoc _ _ h, crcN_snoc, bitAt_eq l j h]))
  have HLT := hid (fun j => crcN_lt (l.take j))
  have hend : crcN (l.take l.length) = crcN l := by rw [List.take_length]
  have HE := hid hend
  clear hend
  have hz : crcN (l.take 0) = 0 := rfl
  have HZ := hid hz
  clear hz
  generalize crcN l = C at HE ⊢
  generalize hC : (fun j => crcN (l.take j)) = c
  have hc : ∀ j, crcN (l.take j) = c j := fun j => by rw [← hC]
  simp only [hc] at HT HLT HE HZ
  clear hc hC
  generalize hn : l.length = n at *
  go_enter Try.func26, Try.ntmps26
  go_wp2_with fail
  go_loopw [3, 4] (fun o i wr => ∃ j : Nat, j ≤ n ∧ i = .int .i64 j ∧ o = .int .u16 (c j) ∧ Below w.heap.size w wr) (fun _ i _ => n - (intOf i).toNat)
  case atStart => exact ⟨0, Nat.zero_le _, rfl, by rw [HZ.out]; rfl, hB.out⟩
  case round =>
    clear hB
    obtain ⟨j, hj, rfl, rfl, HX⟩ := hrel
    have H4 := hid HX
    clear HX
    by_cases hlt : j < n
    · have u0 : ((j : Int) < n) = True := eq_true (by omega)
      have u1 : decide ((j : Int) < n) = true := decide_eq_true (by omega)
      have u2 : IntKind.i64.wrap ((j : Int) + 1) = ((j + 1 : Nat) : Int) := by rw [IntKind.wrap_i64]; omega
      have u3 : (j < n) = True := eq_true hlt
      have hx := HIX.out j hlt
      have ht := HT.out j hlt
      have hl0 := HLT.out j
      have h1 := add_top (c j) (by omega)
      have h2 : Go.bits .and .u16 ((c j : Int) * 2) 32767 = (((c j * 2) % 32768 : Nat) : Int) := by
        have h := add_low (c j)
        rwa [show IntKind.u16.wrap ((c j : Int) * 2) = (c j : Int) * 2 by simp [IntKind.wrap, IntKind.signed, IntKind.bits]; omega] at h
      have h3 := add_xor ((c j * 2) % 32768) (by omega)
      have h4 : addC (c j) (bitAt l j) = ((c j * 2) % 32768) ^^^ (if (c j).testBit 14 != bitAt l j then 17817 else 0) := rfl
      rw [← ht] at h4
      have H4' := hid h4
      have H2 := hid h2
      have H3 := hid h3
      clear h2 h3 h4 ht
      generalize c j = cj at *
      cases hb : cj.testBit 14 <;> rw [hb] at h1 H4' <;> clear hb <;> cases hbit : bitAt l j <;> rw [hbit] at hx H4' <;> clear hbit
      all_goals
        (first | rw [show ((sg false).toNat : Int) = 48 from rfl] at hx | rw [show ((sg true).toNat : Int) = 49 from rfl] at hx)
        go_wp2_with fail
        go_roundw
        case rel => exact ⟨j + 1, by omega, by go_num, by rw [H4'.out, H2.out]; first | (rw [H3.out]; rfl) | (simp; done) | rfl, H4.out⟩
        case measure => simp [intOf]; omega
    · obtain rfl : j = n := by omega
      rw [HE.out]
      go_wp2_with fail
      go_ret
      exact ⟨rfl, H4.out⟩
end Go.Proofs.Ytgmjofcbdimjgaa.RefW
