/- A frame's bits on the wire are laid. -/
import Derived.Test.YtpkpnaedacefaaaGreatCodePush
import Derived.Test.YtpkpnaedacefaaaGreatFrameC
namespace Go.Proofs.YtpkpnaedacefaaaGreat.CodeW
set_option linter.unusedVariables false
set_option linter.unusedSimpArgs false
open Go Go.RowKit Go.Proofs.YtpkpnaedacefaaaGreat.Lib Go.Proofs.YtpkpnaedacefaaaGreat.Bits Go.Proofs.YtpkpnaedacefaaaGreat.BitsW Go.Proofs.YtpkpnaedacefaaaGreat.StuffW Go.Proofs.YtpkpnaedacefaaaGreat.Frame Go.Proofs.YtpkpnaedacefaaaGreat.FrameW Go.Proofs.YtpkpnaedacefaaaGreat.Code Go.Proofs.YtpkpnaedacefaaaGreat.PrintMore
attribute [local go_sem] max2_int min2_int max_two min_two

/-- What is laid between the bits of a frame and its sum. -/
def sumL (b : List Bool) : List Bool := b ++ ofN (crcN b) 15
def codeL (e : Bool) (n : Nat) (r : Bool) (d : List UInt8) : List Bool := stuff (sumL (bodyL e n r d)) ++ List.replicate 10 true
def codeF (e : Bool) (i : Int) (r : Bool) (d : ByteArray) : ByteArray := if okF e i r d then B (codeL e i.toNat r d.data.toList) else ⟨#[]⟩
/-- The row as it is filled. -/
def halfE (l : List Bool) (k : Nat) : List Value := byteVs ((l ++ List.replicate k true).map sg) ++ List.replicate (10 - k) (.int .u8 0)
theorem halfE_len (l : List Bool) (k : Nat) (h : k ≤ 10) : (halfE l k).length = l.length + 10 := by
  simp [halfE, byteVs_length]; omega
theorem halfE_get (l : List Bool) (k : Nat) (h : k < 10) : (halfE l k)[l.length + k]? = some (.int .u8 0) := by
  unfold halfE
  rw [List.getElem?_append_right (by simp [byteVs_length])]
  simp [byteVs_length, List.getElem?_replicate]
  omega
theorem halfE_step (l : List Bool) (k : Nat) (h : k < 10) : (halfE l k).set (l.length + k) (.int .u8 49) = halfE l (k + 1) := by
  unfold halfE
  have e : 10 - k = (10 - (k + 1)) + 1 := by omega
  have hl : (byteVs ((l ++ List.replicate k true).map sg)).length = l.length + k := by simp [byteVs_length]
  rw [e, List.replicate_succ, List.set_append_right _ _ (by omega), hl, Nat.sub_self, List.set_cons_zero, List.replicate_succ']
  simp [byteVs, sg]
theorem halfE_end (l : List Bool) : halfE l 10 = byteVs ((l ++ List.replicate 10 true).map sg) := by simp [halfE]
theorem stuff_le (l : List Bool) : (stuff l).length ≤ 2 * l.length := by
  have := (stuffTo_bounds l l.length (Nat.le_refl _)).2
  rwa [stuffTo_all] at this
set_option maxRecDepth 100000 in
set_option maxHeartbeats 6400000 in
theorem encode_calls (e : Bool) (i : Int) (r : Bool) (d : ByteArray) (w : World) (b1 : 0 ≤ i ∧ i < 4294967296) :
    Calls Tryz.prog 55 #[.agg #[.bool e, .int .u32 i, .bool r, .string d]] w fun x w' => x = .returned (.string (codeF e i r d)) ∧ Below w.heap.size w w' := by
  have hF := Blk.new w [.bool e, .int .u32 i, .bool r, .string d] 35
  have hB := (Below.refl w.heap.size w).alloc (Nat.le_refl _) (.cells #[.bool e, .int .u32 i, .bool r, .string d] 35)
  obtain ⟨x0, x1, x2, x3⟩ := frame_res hF
  unfold codeF
  cases hk : okF e i r d
  · rw [if_neg (by simp)]
    go_enter Tryz.func55, Tryz.ntmps55
    go_wp2_with fail
    refine (frame_is _ _ _ _ _).mono ?_
    rintro x w1 ⟨rfl, hb⟩
    have hB := hB.trans (hb.mono hB.size)
    go_wp2_with fail
    go_ret
    exact ⟨rfl, hB⟩
  · rw [if_pos rfl]
    have hd8 := FrameEq.okF_size _ _ _ _ hk
    have hlen := bodyL_length e i.toNat r d.data.toList
    have hsl := size_list d
    have HBODY := hid (fun (W : World) => frame_body e i r d W b1)
    rw [FrameEq.bodyF_ok hk] at HBODY
    have hbl : (bodyL e i.toNat r d.data.toList).length ≤ 103 := by rw [hlen]; split <;> omega
    unfold codeL
    generalize bodyL e i.toNat r d.data.toList = bd at *
    have hsm : (sumL bd).length ≤ 118 := by unfold sumL; rw [List.length_append, ofN_length]; omega
    have hst := stuff_le (sumL bd)
    have HCRC := hid (fun (W : World) => crc_calls (B bd) W (by rw [B_size]; omega))
    have HOF := hid (fun (W : World) => of_calls (crcN bd) 15 W (by have := crcN_lt bd; omega))
    have hw15 : wid 15 = 15 := by decide
    have hcat : B bd ++ B (ofN (crcN bd) 15) = B (sumL bd) := by unfold sumL; rw [B_append]
    have hcs : (B (sumL bd)).size ≤ 10000 := by rw [B_size]; omega
    have HST := hid (fun (W : World) => stuff_calls (B (sumL bd)) hcs W)
    have hbs : (B bd).size = bd.length := B_size _
    have hos : (B (ofN (crcN bd) 15)).size = 15 := by rw [B_size, ofN_length]
    have hu64 : IntKind.u64.wrap (crcN bd : Int) = (crcN bd : Int) := wrap_u64 _ (by have := crcN_lt bd; omega)
    clear hlen hd8 hsl
    rw [hw15] at HOF
    simp only [bitsOf_B] at HCRC HST
    have hcrc := crcN_lt bd
    obtain ⟨i0, hi, hz0, hz1, hz2⟩ := info_parts info_u8
    generalize hS : stuff (sumL bd) = S at *
    have hSz : (B S).size = S.length := B_size S
    have HSL := hid (show S.length ≤ 236 by omega)
    have hle : ((bd.length : Int) + 15 ≤ 9223372036854775807) := by omega
    generalize crcN bd = cr at *
    generalize sumL bd = sm at *
    have HB := hid hB
    clear hS hst hcs hsm
    go_enter Tryz.func55, Tryz.ntmps55
    have HC := hid hcat
    have HS15 := hid hos
    have HBS := hid hbs
    have HSZ := hid hSz
    clear hcat hos hbs hSz
    go_wp2_with fail
    refine (frame_is _ _ _ _ _).mono ?_
    rintro x w1 ⟨rfl, hb1⟩
    have hF := hF.below hb1
    have hB := hB.trans (hb1.mono hB.size)
    clear x0 x1 x2 x3 hb1
    obtain ⟨x0, x1, x2, x3⟩ := frame_res hF
    go_wp2_with fail
    refine (HBODY.out _).mono ?_
    rintro x w2 ⟨rfl, hb2⟩
    have hB := hB.trans (hb2.mono hB.size)
    clear x0 x1 x2 x3 hb2 hF
    go_wp2_with fail
    refine (HCRC.out _).mono ?_
    rintro x w3 ⟨rfl, rfl⟩
    go_wp2_with fail
    refine (HOF.out _).mono ?_
    rintro x w4 ⟨rfl, hb4⟩
    have hB := hB.trans (hb4.mono hB.size)
    clear hb4
    have hcat := HC.out
    have hos := HS15.out
    have hbs := HBS.out
    go_wp2_with fail
    refine (HST.out _).mono ?_
    rintro x w5 ⟨rfl, hb5⟩
    have hB := hB.trans (hb5.mono hB.size)
    clear hb5 hcat hos hbs
    have hSz := HSZ.out
    have hsl1 : (S.length : Int) ≤ 236 := by have := HSL.out; omega
    have hsl0 : (0 : Int) ≤ (S.length : Int) := Int.natCast_nonneg _
    go_wp2_with (first
      | (at_make; refine make_blk _ rfl _ _ 70 rfl 5 i0 (.int .u8 0) Tryz.underlying70 hi hz0 hz1 rfl (S.length + 10) rfl rfl (by rw [hz2]; omega) (by unfold maxLen; omega) ?_; intro w6 g hg hbk hgrow)
      | (with_reducible refine copy_text rfl (.tmp 23) (.tmp 24) 70 9 rfl 5 Tryz.underlying70 (by rw [hi, Option.map_some, hz1]) g (S.length + 10) (S.length + 10) (B S) _ 5 rfl rfl hbk (by rw [HSZ.out]; omega) (by rw [HSZ.out]; simp) ?_; intro w7 hb7 hgrow7))
    have hBw := (hB.grown hgrow hB.size (fun k h => by cases h))
    have hBw7 := hBw.grown hgrow7 hBw.size (fun k h => by cases h; have := hB.size; omega)
    have hg0 : w.heap.size ≤ g := Nat.le_trans hB.size hg
    have hb0 : Blk w7 g 5 (halfE S 0) := by
      have e0 : byteVs (B S).data.toList ++ (List.replicate (S.length + 10) (.int .u8 0)).drop (B S).size = halfE S 0 := by
        unfold halfE
        rw [HSZ.out, B_toList]
        simp
      rw [← e0]
      exact hb7
    clear hb7 hgrow hgrow7 hbk hBw hB
    go_loopw [6] (fun i wr => ∃ k : Nat, k ≤ 10 ∧ i = .int .i64 ((S.length + k : Nat) : Int) ∧ Blk wr g 5 (halfE S k) ∧ Below w.heap.size w wr) (fun i _ => S.length + 10 - (intOf i).toNat)
    case atStart => exact ⟨0, Nat.zero_le _, rfl, hb0, hBw7⟩
    case round =>
      clear hb0 hBw7
      obtain ⟨k, hk10, rfl, hbk, hBk⟩ := hrel
      by_cases hlt : k < 10
      · have HS := hid (halfE_step S k hlt)
        have HX := hid (hbk.set (S.length + k) (.int .u8 49))
        have hf := hbk.frozen (S.length + k)
        have hc := (hbk.cell (S.length + k)).trans (halfE_get S k hlt)
        obtain ⟨m, hm⟩ : ∃ m, S.length + k = m := ⟨_, rfl⟩
        rw [hm] at HS HX hf hc ⊢
        have m0 : (0 : Int) ≤ (m : Int) := Int.natCast_nonneg _
        have m1 : (m : Int) < (S.length : Int) + 10 := by omega
        have m2 : m < S.length + 10 := by omega
        have m3 : (m : Int) ≤ 246 := by omega
        have HM := hid hm
        clear hm
        go_wp2_with fail
        go_roundw
        case rel => exact ⟨k + 1, by omega, by have := HM.out; go_num, by rw [← HS.out]; exact HX.out, hBk.setCell (by exact hg0) _⟩
        case measure => simp [intOf]; omega
      · obtain rfl : k = 10 := by omega
        have HL := hid (halfE_end S)
        go_wp2_with (with_reducible refine conv_text rfl (.tmp 35) 70 9 5 rfl Tryz.underlying70 Tryz.underlying5 Tryz.underlying9 g (S.length + 10) (S.length + 10) 5 _ ((S ++ List.replicate 10 true).map sg) rfl hbk (by rw [HL.out, List.take_of_length_le (by simp [byteVs])]) (by simp) ?_)
        go_ret
        exact ⟨(ret_text (by simp [B]) : Ending.returned (.string ⟨(List.map sg S ++ [sg true, sg true, sg true, sg true, sg true, sg true, sg true, sg true, sg true, sg true]).toArray⟩) = Ending.returned (.string (B (S ++ List.replicate 10 true)))), hBk⟩
def ackF (e : Bool) (i : Int) (r : Bool) (d : ByteArray) : ByteArray :=
  if okF e i r d then B (turnI (codeL e i.toNat r d.data.toList) ((codeL e i.toNat r d.data.toList).length - 10 + 1)) else ⟨#[]⟩
theorem codeL_len (e : Bool) (n : Nat) (r : Bool) (d : List UInt8) (hd : d.length ≤ 8) : 10 ≤ (codeL e n r d).length ∧ (codeL e n r d).length ≤ 246 := by
  have h1 := stuff_le (sumL (bodyL e n r d))
  have h2 := bodyL_length e n r d
  have h3 : (sumL (bodyL e n r d)).length ≤ 118 := by unfold sumL; rw [List.length_append, ofN_length, h2]; split <;> omega
  unfold codeL
  rw [List.length_append, List.length_replicate]
  omega
end Go.Proofs.YtpkpnaedacefaaaGreat.CodeW
