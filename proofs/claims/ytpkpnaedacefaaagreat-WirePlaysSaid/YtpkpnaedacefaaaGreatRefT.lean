/- The document's bits (package ostinatoref1), walked by hand: Bit, Is of two bits, Turn. -/
import Derived.Test.YtpkpnaedacefaaaGreatMacFine
namespace Go.Proofs.YtpkpnaedacefaaaGreat.RefW
set_option linter.unusedVariables false
set_option linter.unusedSimpArgs false
open Go Go.RowKit Go.Proofs.YtpkpnaedacefaaaGreat.Lib Go.Proofs.YtpkpnaedacefaaaGreat.Bits Go.Proofs.YtpkpnaedacefaaaGreat.BitsW Go.Proofs.YtpkpnaedacefaaaGreat.StuffW Go.Proofs.YtpkpnaedacefaaaGreat.Frame Go.Proofs.YtpkpnaedacefaaaGreat.FrameW Go.Proofs.YtpkpnaedacefaaaGreat.Code Go.Proofs.YtpkpnaedacefaaaGreat.CodeW Go.Proofs.YtpkpnaedacefaaaGreat.CodeL Go.Proofs.YtpkpnaedacefaaaGreat.Mac Go.Proofs.YtpkpnaedacefaaaGreat.MacW Go.Proofs.YtpkpnaedacefaaaGreat.PrintMore
theorem bit_calls (b : Bool) (w : World) : Calls Tryz.prog 74 #[.bool b] w fun e w' => e = .returned (.string (B [b])) ∧ Below w.heap.size w w' := by
  have hB := hid (Below.refl w.heap.size w)
  go_enter Tryz.func74, Tryz.ntmps74
  cases b
  · go_wp2_with fail
    go_ret
    exact ⟨rfl, hB.out⟩
  · go_wp2_with fail
    go_ret
    exact ⟨rfl, hB.out⟩
theorem turn_next (l : List Bool) (k j : Nat) (h : j < l.length) : (turn l k).take (j + 1) = (turn l k).take j ++ [(bitAt l j) != decide (j = k)] := by
  rw [take_snoc _ _ (by rw [turn_length]; exact h), bitAt_eq l j h]
  congr 2
  unfold turn
  rw [List.getElem_modify]
  by_cases e : k = j
  · subst e; simp
  · have : ¬ j = k := fun h => e h.symm
    simp [e, this]
end Go.Proofs.YtpkpnaedacefaaaGreat.RefW


/- The document's bits (package ostinatoref1), walked by hand: Of, CRC. -/
namespace Go.Proofs.YtpkpnaedacefaaaGreat.RefW
set_option linter.unusedVariables false
set_option linter.unusedSimpArgs false
open Go Go.RowKit Go.Proofs.YtpkpnaedacefaaaGreat.Lib Go.Proofs.YtpkpnaedacefaaaGreat.Bits Go.Proofs.YtpkpnaedacefaaaGreat.BitsW Go.Proofs.YtpkpnaedacefaaaGreat.StuffW Go.Proofs.YtpkpnaedacefaaaGreat.Frame Go.Proofs.YtpkpnaedacefaaaGreat.FrameW Go.Proofs.YtpkpnaedacefaaaGreat.Code Go.Proofs.YtpkpnaedacefaaaGreat.CodeW Go.Proofs.YtpkpnaedacefaaaGreat.CodeL Go.Proofs.YtpkpnaedacefaaaGreat.Mac Go.Proofs.YtpkpnaedacefaaaGreat.MacW Go.Proofs.YtpkpnaedacefaaaGreat.PrintMore
attribute [local go_sem] max2_int min2_int max_two min_two
theorem ofN_next (n W k : Nat) (h : k < W) : (ofN n W).take (k + 1) = (ofN n W).take k ++ [n.testBit (W - 1 - k)] := by
  rw [List.take_add_one, ofN_get n W k h]
  rfl
set_option maxRecDepth 100000 in
set_option maxHeartbeats 3200000 in
theorem rof_calls (n W : Nat) (hn : n < 18446744073709551616) (hW0 : 0 < W) (hW : W ≤ 64) (w : World) : Calls Tryz.prog 96 #[.int .u64 n, .int .i64 W] w fun e w' => e = .returned (.string (B (ofN n W))) ∧ Below w.heap.size w w' := by
  have hB := hid (Below.refl w.heap.size w)
  have HBit := hid (fun k : Nat => (show (Go.bits BinOp.and IntKind.u64 ((n : Int) / 2 ^ k) 1 == 1) = n.testBit k from BitsW.and_one n k hn))
  have HN := hid (fun k h => ofN_next n W k h)
  have hend : (ofN n W).take W = ofN n W := List.take_of_length_le (by rw [ofN_length]; exact Nat.le_refl _)
  have HE := hid hend
  have HL := hid (ofN_length n W)
  clear hend
  generalize ofN n W = T at HN HE HL ⊢
  have m1 : min (W : Int) 64 = W := by omega
  have m2 : max 0 (W : Int) = W := by omega
  go_enter Tryz.func96, Tryz.ntmps96
  go_wp2_with fail
  go_loopw [5, 6] (fun o i wr => ∃ k : Nat, k ≤ W ∧ i = .int .i64 ((W : Int) - 1 - k) ∧ o = .string (B (T.take k)) ∧ Below w.heap.size w wr) (fun _ i _ => (intOf i + 1).toNat)
  case atStart => exact ⟨0, Nat.zero_le _, by go_num, rfl, hB.out⟩
  case round =>
    clear hB
    obtain ⟨k, hk, rfl, rfl, HX⟩ := hrel
    have H4 := hid HX
    clear HX
    by_cases hlt : k < W
    · obtain ⟨m, hm⟩ : ∃ m : Nat, W - 1 - k = m := ⟨_, rfl⟩
      have hmi : (W : Int) - 1 - k = (m : Int) := by omega
      rw [hmi]
      have ht := HN.out k hlt
      rw [hm] at ht
      have hb := HBit.out m
      have hmb : m ≤ 64 := by omega
      have hbig : ∀ c : Bool, (9223372036854775807 < (B (List.take k T)).size + (B [c]).size) = False := fun c => eq_false (by rw [B_size, B_size, List.length_take]; simp only [List.length_cons, List.length_nil]; omega)
      go_wp2_with fail
      with_reducible refine (bit_calls (n.testBit m) _).mono ?_
      rintro y w2 ⟨rfl, hb2⟩
      have H5 := hid (H4.out.trans (hb2.mono H4.out.size))
      clear H4 hb2
      go_wp2_with fail
      go_roundw
      case rel => exact ⟨k + 1, by omega, by go_num, by rw [ht]; simp [B_append], H5.out⟩
      case measure => simp [intOf]; try omega
    · obtain rfl : k = W := by omega
      rw [HE.out]
      have hmi : (k : Int) - 1 - k = -1 := by omega
      rw [hmi]
      go_wp2_with fail
      go_ret
      exact ⟨rfl, H4.out⟩
set_option maxRecDepth 100000 in
set_option maxHeartbeats 3200000 in
theorem rcrcS_calls (s : ByteArray) (w : World) (hs : s.size ≤ 140737488351232) : Calls Tryz.prog 66 #[.string s] w fun e w' => e = .returned (.int .u16 (crcN (bitsOf s))) ∧ Below w.heap.size w w' := by
  have hB := hid (Below.refl w.heap.size w)
  go_enter Tryz.func66, Tryz.ntmps66
  go_wp2_with fail
  go_loopw [3, 4] (fun o i wr => ∃ j : Nat, j ≤ s.size ∧ i = .int .i64 j ∧ o = .int .u16 (crcN ((bitsOf s).take j)) ∧ Below w.heap.size w wr) (fun _ i _ => s.size - (intOf i).toNat)
  case atStart => exact ⟨0, Nat.zero_le _, rfl, rfl, hB.out⟩
  case round =>
    clear hB
    obtain ⟨j, hj, rfl, rfl, HX⟩ := hrel
    have H4 := hid HX
    clear HX
    by_cases hlt : j < s.size
    · have hst := bits_take_snoc s j hlt
      have ht := crcN_snoc ((bitsOf s).take j) (((s[j]'hlt).toNat : Int) == 49)
      rw [← hst] at ht
      have hl0 := crcN_lt ((bitsOf s).take j)
      clear hst
      have hk0 : 0 ≤ (j : Int) := Int.natCast_nonneg _
      generalize crcN ((bitsOf s).take j) = cj at *
      have h1 := add_top cj (by omega)
      have h2 : Go.bits .and .u16 ((cj : Int) * 2) 32767 = (((cj * 2) % 32768 : Nat) : Int) := by
        have h := add_low cj
        rwa [show IntKind.u16.wrap ((cj : Int) * 2) = (cj : Int) * 2 by simp [IntKind.wrap, IntKind.signed, IntKind.bits]; omega] at h
      have h3 := add_xor ((cj * 2) % 32768) (by omega)
      have h4 : addC cj (((s[j]'hlt).toNat : Int) == 49) = ((cj * 2) % 32768) ^^^ (if cj.testBit 14 != (((s[j]'hlt).toNat : Int) == 49) then 17817 else 0) := rfl
      rw [← ht] at h4
      have H4' := hid h4
      have H2 := hid h2
      have H3 := hid h3
      clear h2 h3 h4 ht
      cases hb : cj.testBit 14 <;> rw [hb] at h1 H4' <;> clear hb <;> cases hbit : (((s[j]'hlt).toNat : Int) == 49) <;> rw [hbit] at H4'
      all_goals
        go_wp2_with fail
        go_roundw
        case rel => exact ⟨j + 1, by omega, by go_num, by rw [H4'.out, H2.out]; first | (rw [H3.out]; rfl) | (simp; done) | rfl, H4.out⟩
        case measure => simp [intOf]; omega
    · obtain rfl : j = s.size := by omega
      have he : (bitsOf s).take s.size = bitsOf s := List.take_of_length_le (by rw [bitsOf_length]; exact Nat.le_refl _)
      rw [he]
      go_wp2_with fail
      go_ret
      exact ⟨rfl, H4.out⟩
theorem rcrc_calls (l : List Bool) (hl : l.length ≤ 1000) (w : World) : Calls Tryz.prog 66 #[.string (B l)] w fun e w' => e = .returned (.int .u16 (crcN l)) ∧ Below w.heap.size w w' := by
  have h := rcrcS_calls (B l) w (by rw [B_size]; omega)
  rw [bitsOf_B] at h
  exact h
end Go.Proofs.YtpkpnaedacefaaaGreat.RefW


/- The document's bits (package ostinatoref1), walked by hand: Num, FromBytes, Bytes. -/
namespace Go.Proofs.YtpkpnaedacefaaaGreat.RefW
set_option linter.unusedVariables false
set_option linter.unusedSimpArgs false
open Go Go.RowKit Go.Proofs.YtpkpnaedacefaaaGreat.Lib Go.Proofs.YtpkpnaedacefaaaGreat.Bits Go.Proofs.YtpkpnaedacefaaaGreat.BitsW Go.Proofs.YtpkpnaedacefaaaGreat.StuffW Go.Proofs.YtpkpnaedacefaaaGreat.Frame Go.Proofs.YtpkpnaedacefaaaGreat.FrameW Go.Proofs.YtpkpnaedacefaaaGreat.Code Go.Proofs.YtpkpnaedacefaaaGreat.CodeW Go.Proofs.YtpkpnaedacefaaaGreat.CodeL Go.Proofs.YtpkpnaedacefaaaGreat.Mac Go.Proofs.YtpkpnaedacefaaaGreat.MacW Go.Proofs.YtpkpnaedacefaaaGreat.PrintMore
attribute [local go_sem] max2_int min2_int max_two min_two
set_option maxRecDepth 100000 in
set_option maxHeartbeats 3200000 in
theorem rnum_calls (s : ByteArray) (w : World) (hs : s.size ≤ 140737488351232) :
    Calls Tryz.prog 65 #[.string s] w fun e w' => e = .returned (.int .u64 (num64 (bitsOf s))) ∧ Below w.heap.size w w' := by
  have hB := hid (Below.refl w.heap.size w)
  go_enter Tryz.func65, Tryz.ntmps65
  go_wp2_with fail
  go_loopw [3, 4] (fun c i wr => ∃ k : Nat, k ≤ s.size ∧ i = .int .i64 k ∧ c = .int .u64 (num64 ((bitsOf s).take k)) ∧ Below w.heap.size w wr) (fun _ i _ => s.size - (intOf i).toNat)
  case atStart => exact ⟨0, Nat.zero_le _, rfl, rfl, hB.out⟩
  case round =>
    clear hB
    obtain ⟨k, hk, rfl, rfl, HX⟩ := hrel
    have HX := hid HX
    by_cases hlt : k < s.size
    · have hst := bits_take_snoc s k hlt
      have hcr := num64_snoc ((bitsOf s).take k) (((s[k]'hlt).toNat : Int) == 49)
      rw [← hst] at hcr
      have hl := num64_lt ((bitsOf s).take k)
      have h1 := shl_one (num64 ((bitsOf s).take k))
      have h2 := or_one (num64 ((bitsOf s).take k))
      clear hst
      have hk0 : 0 ≤ (k : Int) := Int.natCast_nonneg _
      generalize num64 (List.take k (bitsOf s)) = m at *
      have H1 := hid h1
      have H2 := hid h2
      clear h1 h2
      cases hb : (((s[k]'hlt).toNat : Int) == 49) <;> rw [hb] at hcr
      all_goals
        have HC := hid hcr
        clear hcr
        go_wp2_with fail
        go_roundw
        case rel => exact ⟨k + 1, by omega, by go_num, by rw [HC.out, H1.out]; first | (rw [H2.out]; rfl) | rfl, HX.out⟩
        case measure => simp [intOf]; omega
    · have e : k = s.size := by omega
      subst e
      have he : (bitsOf s).take s.size = bitsOf s := List.take_of_length_le (by rw [bitsOf_length]; exact Nat.le_refl _)
      rw [he]
      go_wp2_with fail
      go_ret
      exact ⟨rfl, HX.out⟩
set_option maxRecDepth 100000 in
set_option maxHeartbeats 3200000 in
theorem rfrom_calls (s : ByteArray) (w : World) (hs : s.size ≤ 1000) :
    Calls Tryz.prog 110 #[.string s] w fun e w' => e = .returned (.string (B (fromB s.data.toList))) ∧ Below w.heap.size w w' := by
  have hB := hid (Below.refl w.heap.size w)
  go_enter Tryz.func110, Tryz.ntmps110
  go_wp2_with fail
  go_loopw [3, 4] (fun o i wr => ∃ k : Nat, k ≤ s.size ∧ i = .int .i64 k ∧ o = .string (B (fromB (s.data.toList.take k))) ∧ Below w.heap.size w wr) (fun _ i _ => s.size - (intOf i).toNat)
  case atStart => exact ⟨0, Nat.zero_le _, rfl, rfl, hB.out⟩
  case round =>
    clear hB
    obtain ⟨k, hk, rfl, rfl, HX⟩ := hrel
    have HX := hid HX
    by_cases hlt : k < s.size
    · have hl : k < s.data.toList.length := by rw [size_list]; exact hlt
      have hlen : (B (fromB (s.data.toList.take k))).size = 8 * k := by rw [B_size, fromB_length, List.length_take, size_list]; omega
      have hk0 : 0 ≤ (k : Int) := Int.natCast_nonneg _
      have hcb : (s[k]'hlt).toNat < 256 := (s[k]'hlt).toNat_lt
      have hnext : B (fromB (s.data.toList.take (k + 1))) = B (fromB (s.data.toList.take k)) ++ B (ofN (s[k]'hlt).toNat 8) := by
        rw [List.take_succ_eq_append_getElem hl, B_append]
        have e2 : s.data.toList[k] = s[k]'hlt := by rw [Array.getElem_toList]; rfl
        simp [fromB, e2]
      have HN := hid hnext
      have h8 : (B (ofN (s[k]'hlt).toNat 8)).size = 8 := by rw [B_size, ofN_length]
      clear hnext
      have HO := hid (fun W => (show Calls Tryz.prog 96 #[.int .u64 ((s[k]'hlt).toNat : Int), .int .i64 8] W fun e w' => e = .returned (.string (B (ofN (s[k]'hlt).toNat 8))) ∧ Below W.heap.size W w' from rof_calls (s[k]'hlt).toNat 8 (by omega) (by decide) (by decide) W))
      have hw64 : IntKind.u64.wrap ((s[k]'hlt).toNat : Int) = ((s[k]'hlt).toNat : Int) := by rw [IntKind.wrap_u64]; omega
      go_wp2_with fail
      refine (HO.out _).mono ?_
      rintro y w2 ⟨rfl, hb⟩
      have HY := hid (HX.out.trans (hb.mono HX.out.size))
      clear HX hb
      go_wp2_with fail
      go_roundw
      case rel => exact ⟨k + 1, by omega, by go_num, by rw [HN.out], HY.out⟩
      case measure => simp [intOf]; omega
    · have e : k = s.size := by omega
      subst e
      have e2 : s.data.toList.take s.size = s.data.toList := List.take_of_length_le (by rw [size_list]; exact Nat.le_refl _)
      rw [e2]
      go_wp2_with fail
      go_ret
      exact ⟨rfl, HX.out⟩
theorem toB_next (l : List Bool) (k : Nat) (hk : k < l.length / 8) : (toB l).take (k + 1) = (toB l).take k ++ [UInt8.ofNat (num64 ((l.drop (8 * k)).take 8))] := by
  have h3 : k < (toB l).length := by rw [toB_length]; exact hk
  rw [List.take_succ_eq_append_getElem h3]
  congr 2
  simp [toB]
set_option maxRecDepth 100000 in
set_option maxHeartbeats 3200000 in
theorem rbytes_calls (s : ByteArray) (w : World) (hs : s.size ≤ 100000) :
    Calls Tryz.prog 109 #[.string s] w fun e w' => e = .returned (.string ⟨(toB (bitsOf s)).toArray⟩) ∧ Below w.heap.size w w' := by
  obtain ⟨i0, hi, hz0, hz1, hz2⟩ := info_parts info_u8
  obtain ⟨n, hn⟩ : ∃ n, s.size / 8 = n := ⟨_, rfl⟩
  have hbl := bitsOf_length s
  have hB := hid (Below.refl w.heap.size w)
  have hn1 : 8 * n ≤ s.size := by omega
  have hn2 : s.size < 8 * n + 8 := by omega
  have hnl : (bitsOf s).length / 8 = n := by rw [hbl]; exact hn
  have HNL := hid hnl
  clear hn hnl
  go_enter Tryz.func109, Tryz.ntmps109
  go_wp2_with fail
  go_loopw [3, 4] (fun v i wr => ∃ k : Nat, k ≤ n ∧ i = .int .i64 (8 * (k : Int)) ∧ OwnB wr w.heap.size 5 v ((toB (bitsOf s)).take k) ∧ Below w.heap.size w wr) (fun _ i _ => s.size - (intOf i).toNat)
  case atStart => exact ⟨0, Nat.zero_le _, rfl, OwnB.nil _ _ _, hB.out⟩
  case round =>
    clear hB
    obtain ⟨k, hk, rfl, hown, hBk⟩ := hrel
    have HO := hid hown
    have HX := hid hBk
    clear hown hBk
    have hk0 : 0 ≤ (k : Int) := Int.natCast_nonneg _
    by_cases hlt : k < n
    · have ht := toB_next (bitsOf s) k (by rw [HNL.out]; exact hlt)
      have hx := bits_extract s (8 * k) (8 * (k + 1))
      rw [show 8 * (k + 1) - 8 * k = 8 by omega] at hx
      rw [← hx] at ht
      have HT := hid ht
      clear ht hx
      have q1 : 0 ≤ 8 * (k : Int) := by omega
      have q2 : 8 * (k : Int) ≤ 8 * (k : Int) + 8 := by omega
      have q3 : 8 * (k : Int) + 8 ≤ (s.size : Int) := by omega
      have hsl : ∀ W : World, (Instr.slice 9 (.string s) (some (.int .i64 (8 * (k : Int)))) (some (.int .i64 (8 * (k : Int) + 8))) none).run Tryz.prog W = .ok (.string (s.extract (8 * k) (8 * (k + 1)))) W := by
        intro W
        have := run_slice_text (P := Tryz.prog) 9 s .i64 .i64 _ _ q1 q2 q3 Tryz.underlying9 W
        have e1 : (8 * (k : Int)).toNat = 8 * k := by omega
        have e2 : (8 * (k : Int) + 8).toNat = 8 * (k + 1) := by omega
        rw [e1, e2] at this
        exact this
      have hsz : (s.extract (8 * k) (8 * (k + 1))).size ≤ 140737488351232 := by
        rw [← bitsOf_length, bits_extract, List.length_take, List.length_drop, bitsOf_length]; omega
      have t1 : decide (8 ≤ (s.size : Int) - 8 * (k : Int)) = true := decide_eq_true (by omega)
      have t2 : (8 ≤ (s.size : Int) - 8 * (k : Int)) = True := eq_true (by omega)
      have hlen : ((toB (bitsOf s)).take k).length ≤ 100000 := by rw [List.length_take]; omega
      have HLN := hid hlen
      clear hlen
      generalize s.extract (8 * k) (8 * (k + 1)) = z at *
      go_wp2_with fail
      with_reducible refine (rnum_calls z _ hsz).mono ?_
      rintro y w2 ⟨rfl, hb⟩
      have HY := hid (HX.out.trans (hb.mono HX.out.size))
      have HP := hid (HO.out.below (hb.mono (Nat.le_refl _)))
      have hzb : ((UInt8.ofNat (num64 (bitsOf z))).toNat : Int) = (num64 (bitsOf z) : Int) % 256 := by simp
      have HZ := hid hzb
      clear HX HO hb hzb
      go_wp2_with (at_builtin; refine app_byte rfl (.tmp 12) (.tmp 20) 70 rfl w.heap.size 5 i0 Tryz.underlying70 hi hz0 hz1 hz2 _ _ rfl HP.out (UInt8.ofNat (num64 (bitsOf z))) _ HZ.out.symm rfl (by have := HLN.out; omega) HY.out.size ?_; intro v4 w4 hown4 hgrow4)
      have hB4 : Below w.heap.size w w4 := (HP.out.alloc (.cells #[.int .u8 ((num64 (bitsOf z) : Int) % 256)] 5)).grow (HY.out.alloc HY.out.size _) hgrow4 (Nat.le_refl _) (by have := HY.out.size; simp; omega)
      refine ⟨⟨k + 1, by omega, ?_, by rw [HT.out]; exact hown4, hB4⟩, ?_⟩
      · congr 1 <;> omega
      · simp [intOf]; omega
    · obtain rfl : k = n := by omega
      have t1 : decide (8 ≤ (s.size : Int) - 8 * (k : Int)) = false := decide_eq_false (by omega)
      have t2 : (8 ≤ (s.size : Int) - 8 * (k : Int)) = False := eq_false (by omega)
      have hown := HO.out
      rw [List.take_of_length_le (by rw [toB_length, HNL.out]; exact Nat.le_refl _)] at hown
      clear HO
      go_wp2_with (with_reducible refine conv_own rfl (.tmp 22) 70 9 5 rfl Tryz.underlying70 Tryz.underlying5 Tryz.underlying9 w.heap.size 5 _ _ hown rfl ?_)
      go_ret
      exact ⟨rfl, HX.out⟩
end Go.Proofs.YtpkpnaedacefaaaGreat.RefW
