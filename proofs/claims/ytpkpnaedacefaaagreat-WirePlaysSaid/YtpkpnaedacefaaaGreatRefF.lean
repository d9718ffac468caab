/- The document's frames (package ostinatoref3), walked by hand: Is, Arb, Body, Encode. -/
import Derived.Test.YtpkpnaedacefaaaGreatRefT
import Derived.Test.YtpkpnaedacefaaaGreatRefS
namespace Go.Proofs.YtpkpnaedacefaaaGreat.RefW
set_option linter.unusedVariables false
set_option linter.unusedSimpArgs false
open Go Go.RowKit Go.Proofs.YtpkpnaedacefaaaGreat.Lib Go.Proofs.YtpkpnaedacefaaaGreat.Bits Go.Proofs.YtpkpnaedacefaaaGreat.BitsW Go.Proofs.YtpkpnaedacefaaaGreat.StuffW Go.Proofs.YtpkpnaedacefaaaGreat.Frame Go.Proofs.YtpkpnaedacefaaaGreat.FrameW Go.Proofs.YtpkpnaedacefaaaGreat.Code Go.Proofs.YtpkpnaedacefaaaGreat.CodeW Go.Proofs.YtpkpnaedacefaaaGreat.CodeL Go.Proofs.YtpkpnaedacefaaaGreat.Mac Go.Proofs.YtpkpnaedacefaaaGreat.MacW Go.Proofs.YtpkpnaedacefaaaGreat.PrintMore
attribute [local go_sem] max2_int min2_int max_two min_two
set_option maxRecDepth 100000 in
set_option maxHeartbeats 3200000 in
theorem ris_calls (e : Bool) (i : Int) (r : Bool) (d : ByteArray) (w : World) :
    Calls Tryz.prog 22 #[.agg #[.bool e, .int .u32 i, .bool r, .string d]] w fun x w' => x = .returned (.bool (okF e i r d)) ∧ Below w.heap.size w w' := by
  have hF := Blk.new w [.bool e, .int .u32 i, .bool r, .string d] 35
  have hB := (Below.refl w.heap.size w).alloc (Nat.le_refl _) (.cells #[.bool e, .int .u32 i, .bool r, .string d] 35)
  obtain ⟨x0, x1, x2, x3⟩ := frame_res hF
  have HB := hid hB
  have HV := hid (okF_val e i r d)
  clear hB hF
  generalize okF e i r d = R at *
  obtain ⟨z0, hz0⟩ : ∃ z, decide (i < (if e then 536870912 else 2048)) = z := ⟨_, rfl⟩
  obtain ⟨z8, hz8⟩ : ∃ z, decide (d.size ≤ 8) = z := ⟨_, rfl⟩
  obtain ⟨ze, hze⟩ : ∃ z, (d.size == 0) = z := ⟨_, rfl⟩
  have u2 : (d.toList == []) = ze := by
    rw [← hze, Bool.eq_iff_iff, beq_iff_eq, beq_iff_eq]
    exact FrameEq.list_nil d
  have u2' : d.toList.isEmpty = ze := by
    rw [← u2]
    cases d.toList <;> rfl
  have u8 : decide ((d.size : Int) ≤ 8) = z8 := by
    rw [← hz8, Bool.eq_iff_iff, decide_eq_true_eq, decide_eq_true_eq]; omega
  have hR : R = (z0 && (z8 && (!r || ze))) := by
    rw [HV.out]
    have h8 : decide (8 < d.size) = !z8 := by rw [← hz8, Bool.eq_iff_iff]; simp
    have h0 : (d.size != 0) = !ze := by rw [← hze]; rfl
    rw [h8, h0, ← hz0]
    cases e <;> cases z8 <;> cases ze <;> cases r <;> simp
  have HR := hid hR
  clear HV hR hz8 hze
  have u8' : ((d.size : Int) ≤ 8) = (z8 = true) := by rw [← u8]; simp
  cases e
  · have u0 : decide (i < 2048) = z0 := hz0
    have u0' : (i < 2048) = (z0 = true) := by rw [← u0]; simp
    clear hz0
    cases z0 <;> cases z8 <;> cases r <;> cases ze
    all_goals
      simp only [Bool.false_eq_true, eq_self, reduceCtorEq] at u0' u8'
      go_enter Tryz.func22, Tryz.ntmps22
      go_wp2_with fail
      go_ret
      rw [HR.out]
      exact ⟨rfl, HB.out⟩
  · have u0 : decide (i < 536870912) = z0 := hz0
    have u0' : (i < 536870912) = (z0 = true) := by rw [← u0]; simp
    clear hz0
    cases z0 <;> cases z8 <;> cases r <;> cases ze
    all_goals
      simp only [Bool.false_eq_true, eq_self, reduceCtorEq] at u0' u8'
      go_enter Tryz.func22, Tryz.ntmps22
      go_wp2_with fail
      go_ret
      rw [HR.out]
      exact ⟨rfl, HB.out⟩
theorem rof_b (i : Int) (W : Nat) (hi : 0 ≤ i ∧ i < 4294967296) (h0 : 0 < W) (hW : W ≤ 64) (w : World) :
    Calls Tryz.prog 96 #[.int .u64 i, .int .i64 (W : Int)] w fun x w' => x = .returned (.string (B (ofN i.toNat W))) ∧ Below w.heap.size w w' := by
  have h := rof_calls i.toNat W (by omega) h0 hW w
  rw [show ((i.toNat : Nat) : Int) = i by omega] at h
  exact h
set_option maxRecDepth 100000 in
set_option maxHeartbeats 6400000 in
theorem rarb_calls (e : Bool) (i : Int) (r : Bool) (d : ByteArray) (w : World) (hi : 0 ≤ i ∧ i < 4294967296) :
    Calls Tryz.prog 71 #[.agg #[.bool e, .int .u32 i, .bool r, .string d]] w fun x w' => x = .returned (.string (arbF e i r d)) ∧ Below w.heap.size w w' := by
  have hF := Blk.new w [.bool e, .int .u32 i, .bool r, .string d] 35
  have hB := (Below.refl w.heap.size w).alloc (Nat.le_refl _) (.cells #[.bool e, .int .u32 i, .bool r, .string d] 35)
  obtain ⟨x0, x1, x2, x3⟩ := frame_res hF
  have HIS := hid (fun (W : World) => ris_calls e i r d W)
  have HSG := hid (fun (W : World) => bit_calls r W)
  have HA := hid (show ∃ X, X = arbF e i r d from ⟨_, rfl⟩)
  obtain ⟨X, hX⟩ := HA.out
  rw [← hX]
  unfold arbF at hX
  cases hk : okF e i r d
  · rw [hk] at HIS
    rw [hk, if_neg (by simp)] at hX
    have HX := hid hX
    clear hX
    go_enter Tryz.func71, Tryz.ntmps71
    go_wp2_with fail
    refine (HIS.out _).mono ?_
    rintro y w1 ⟨rfl, hb⟩
    have hB := hB.trans (hb.mono hB.size)
    go_wp2_with fail
    go_ret
    rw [HX.out]
    exact ⟨rfl, hB⟩
  · rw [hk] at HIS
    rw [hk, if_pos rfl] at hX
    have HX := hid hX
    clear hX
    have uw : IntKind.u64.wrap i = i := by have := wrap_u64 i.toNat (by omega); rwa [show ((i.toNat : Nat) : Int) = i by omega] at this
    have ui0 : 0 ≤ i := hi.1
    have ui1 : i < 4294967296 := hi.2
    cases e
    · have H11 := hid (fun (W : World) => rof_b i 11 hi (by decide) (by decide) W)
      have s11 : (B (ofN i.toNat 11)).size = 11 := by rw [B_size, ofN_length]
      have sR : (B [r]).size = 1 := by rw [B_size]; rfl
      have HE := hid (show B (arbL false i.toNat r) = ⟨#[48]⟩ ++ B (ofN i.toNat 11) ++ B [r] ++ ⟨#[48]⟩ from by
        rw [show (⟨#[48]⟩ : ByteArray) = B [false] from rfl, B_append, B_append, B_append]; simp [arbL])
      generalize B (ofN i.toNat 11) = O at *
      generalize B [r] = RR at *
      go_enter Tryz.func71, Tryz.ntmps71
      go_wp2_with fail
      refine (HIS.out _).mono ?_
      rintro y w1 ⟨rfl, hb⟩
      have hB := hB.trans (hb.mono hB.size)
      have hF := hF.below hb
      obtain ⟨x0, x1, x2, x3⟩ := frame_res hF
      clear hb
      go_wp2_with fail
      refine (HSG.out _).mono ?_
      rintro y w2 ⟨rfl, hb⟩
      have hB := hB.trans (hb.mono hB.size)
      have hF := hF.below hb
      obtain ⟨x0, x1, x2, x3⟩ := frame_res hF
      clear hb
      go_wp2_with fail
      refine (H11.out _).mono ?_
      rintro y w3 ⟨rfl, hb⟩
      have hB := hB.trans (hb.mono hB.size)
      clear hb
      go_wp2_with fail
      go_ret
      rw [HX.out, HE.out]
      exact ⟨rfl, hB⟩
    · have H11 := hid (fun (W : World) => rof_b (i / 262144) 11 (by omega) (by decide) (by decide) W)
      have H18 := hid (fun (W : World) => rof_b i 18 hi (by decide) (by decide) W)
      have s11 : (B (ofN (i / 262144).toNat 11)).size = 11 := by rw [B_size, ofN_length]
      have s18 : (B (ofN i.toNat 18)).size = 18 := by rw [B_size, ofN_length]
      have sR : (B [r]).size = 1 := by rw [B_size]; rfl
      have ud : (i / 262144).toNat = i.toNat / 262144 := by omega
      have uw2 : IntKind.u64.wrap (i / 262144) = i / 262144 := by have := wrap_u64 (i / 262144).toNat (by omega); rwa [show (((i / 262144).toNat : Nat) : Int) = i / 262144 by omega] at this
      have HE := hid (show B (arbL true i.toNat r) = ⟨#[48]⟩ ++ B (ofN (i / 262144).toNat 11) ++ ⟨#[49, 49]⟩ ++ B (ofN i.toNat 18) ++ B [r] from by
        rw [show (⟨#[48]⟩ : ByteArray) = B [false] from rfl, show (⟨#[49, 49]⟩ : ByteArray) = B [true, true] from rfl]; simp only [B_append]; rw [ud]; simp [arbL])
      clear ud
      generalize B (ofN (i / 262144).toNat 11) = O at *
      generalize B (ofN i.toNat 18) = O2 at *
      generalize B [r] = RR at *
      go_enter Tryz.func71, Tryz.ntmps71
      go_wp2_with fail
      refine (HIS.out _).mono ?_
      rintro y w1 ⟨rfl, hb⟩
      have hB := hB.trans (hb.mono hB.size)
      have hF := hF.below hb
      obtain ⟨x0, x1, x2, x3⟩ := frame_res hF
      clear hb
      go_wp2_with fail
      refine (HSG.out _).mono ?_
      rintro y w2 ⟨rfl, hb⟩
      have hB := hB.trans (hb.mono hB.size)
      have hF := hF.below hb
      obtain ⟨x0, x1, x2, x3⟩ := frame_res hF
      clear hb
      go_wp2_with fail
      refine region_text (by kernel_rfl) (by kernel_rfl) (fun _ _ W => Blk W w.heap.size 35 [.bool true, .int .u32 i, .bool r, .string d] ∧ Below w.heap.size w W) ⟨hF.drew, hB.drew⟩ ?_
      clear hF hB x0 x1 x2 x3
      iterate 15 ((try simp only [Act.put, List.setIfInBounds_toArray, List.set_cons_zero, List.set_cons_succ]); first
        | (refine t_skip (fun _ => rfl) (fun b γ W h => h) ?_)
        | (refine t_call (.string O) (fun _ => rfl) (f := 96) (args := #[.int .u64 (i / 262144), .int .i64 11]) ?_ (fun b γ W h _ => (H11.out W).mono (fun e w2 h2 => ⟨h2.1, h.1.below h2.2, h.2.trans (h2.2.mono h.2.size)⟩)) ?_; · (intro b γ W h _; go_simp; done))
        | (refine t_call (.string O2) (fun _ => rfl) (f := 96) (args := #[.int .u64 i, .int .i64 18]) ?_ (fun b γ W h _ => (H18.out W).mono (fun e w2 h2 => ⟨h2.1, h.1.below h2.2, h.2.trans (h2.2.mono h.2.size)⟩)) ?_; · (intro b γ W h _; go_simp; done))
        | (refine t_pure ?_ (fun _ => rfl) (fun b γ W h => h) (fun b γ W h _ => ?_) ?_; rotate_left; · (obtain ⟨x0, x1, x2, x3⟩ := frame_res h.1; go_simp; rfl)))
      refine t_end ?_
      intro bq gq w5 hall HB
      simp only [Act.put, List.setIfInBounds_toArray, List.set_cons_zero, List.set_cons_succ]
      go_wp2_with fail
      go_ret
      rw [HX.out, HE.out]
      exact ⟨rfl, HB.2⟩
set_option maxRecDepth 100000 in
set_option maxHeartbeats 6400000 in
theorem rbody_calls (e : Bool) (i : Int) (r : Bool) (d : ByteArray) (w : World) (hi : 0 ≤ i ∧ i < 4294967296) :
    Calls Tryz.prog 95 #[.agg #[.bool e, .int .u32 i, .bool r, .string d]] w fun x w' => x = .returned (.string (bodyF e i r d)) ∧ Below w.heap.size w w' := by
  have hF := Blk.new w [.bool e, .int .u32 i, .bool r, .string d] 35
  have hB := (Below.refl w.heap.size w).alloc (Nat.le_refl _) (.cells #[.bool e, .int .u32 i, .bool r, .string d] 35)
  obtain ⟨x0, x1, x2, x3⟩ := frame_res hF
  have HIS := hid (fun (W : World) => ris_calls e i r d W)
  have HAR := hid (fun (W : World) => rarb_calls e i r d W hi)
  obtain ⟨X, hX⟩ : ∃ X, X = bodyF e i r d := ⟨_, rfl⟩
  rw [← hX]
  unfold bodyF at hX
  cases hk : okF e i r d
  · rw [hk] at HIS
    rw [hk, if_neg (by simp)] at hX
    have HX := hid hX
    clear hX
    go_enter Tryz.func95, Tryz.ntmps95
    go_wp2_with fail
    refine (HIS.out _).mono ?_
    rintro y w1 ⟨rfl, hb⟩
    have hB := hB.trans (hb.mono hB.size)
    go_wp2_with fail
    go_ret
    rw [HX.out]
    exact ⟨rfl, hB⟩
  · rw [hk] at HIS
    rw [hk, if_pos rfl] at hX
    rw [FrameEq.arbF_ok hk] at HAR
    have HX := hid hX
    have hd8 := FrameEq.okF_size e i r d hk
    have hsl := size_list d
    have HO := hid (fun (W : World) => rof_b (d.size : Int) 4 (by omega) (by decide) (by decide) W)
    have HFB := hid (fun (W : World) => rfrom_calls d W (by omega))
    rw [Int.toNat_natCast] at HO
    have sA : (B (arbL e i.toNat r)).size ≤ 33 := by rw [B_size, arbL_length]; split <;> omega
    have sO : (B (ofN d.size 4)).size = 4 := by rw [B_size, ofN_length]
    have sF : (B (fromB d.data.toList)).size ≤ 64 := by rw [B_size, fromB_length]; omega
    have uw : IntKind.u64.wrap (d.size : Int) = (d.size : Int) := wrap_u64 d.size (by omega)
    have ud : (d.size : Int) ≤ 8 := by omega
    have HE1 := hid (show B (bodyL false i.toNat r d.data.toList) = B (arbL false i.toNat r) ++ ⟨#[48]⟩ ++ B (ofN d.size 4) ++ B (fromB d.data.toList) from by
      unfold bodyL
      rw [if_neg (by simp), show (⟨#[48]⟩ : ByteArray) = B [false] from rfl]; simp only [B_append, hsl]; simp)
    have HE2 := hid (show B (bodyL true i.toNat r d.data.toList) = B (arbL true i.toNat r) ++ ⟨#[48]⟩ ++ ⟨#[48]⟩ ++ B (ofN d.size 4) ++ B (fromB d.data.toList) from by
      unfold bodyL
      rw [if_pos rfl, show (⟨#[48]⟩ : ByteArray) = B [false] from rfl]; simp only [B_append, hsl]; simp)
    clear hX
    cases e
    · clear HE2
      generalize B (arbL false i.toNat r) = AA at *
      generalize B (ofN d.size 4) = O at *
      generalize B (fromB d.data.toList) = FF at *
      have z0 : (9223372036854775807 < AA.size + 1) = False := eq_false (by omega)
      have z1 : (9223372036854775807 < AA.size + 1 + 4) = False := eq_false (by omega)
      have z2 : (9223372036854775807 < AA.size + 1 + 4 + FF.size) = False := eq_false (by omega)
      go_enter Tryz.func95, Tryz.ntmps95
      go_wp2_with fail
      refine (HIS.out _).mono ?_
      rintro y w1 ⟨rfl, hb⟩
      have hB := hB.trans (hb.mono hB.size)
      have hF := hF.below hb
      obtain ⟨x0, x1, x2, x3⟩ := frame_res hF
      clear hb
      go_wp2_with fail
      refine (HAR.out _).mono ?_
      rintro y w2 ⟨rfl, hb⟩
      have hB := hB.trans (hb.mono hB.size)
      have hF := hF.below hb
      obtain ⟨x0, x1, x2, x3⟩ := frame_res hF
      clear hb
      go_wp2_with fail
      refine region_text (by kernel_rfl) (by kernel_rfl) (fun _ _ W => Blk W w.heap.size 35 [.bool false, .int .u32 i, .bool r, .string d] ∧ Below w.heap.size w W) ⟨hF.drew, hB.drew⟩ ?_
      clear hF hB x0 x1 x2 x3
      iterate 12 ((try simp only [Act.put, List.setIfInBounds_toArray, List.set_cons_zero, List.set_cons_succ]); first
        | (refine t_skip (fun _ => rfl) (fun b γ W h => h) ?_)
        | (refine t_call (.string O) (fun _ => rfl) (f := 96) (args := #[.int .u64 (d.size : Int), .int .i64 4]) ?_ (fun b γ W h _ => (HO.out W).mono (fun e w2 h2 => ⟨h2.1, h.1.below h2.2, h.2.trans (h2.2.mono h.2.size)⟩)) ?_; · (intro b γ W h _; go_simp; done))
        | (refine t_call (.string FF) (fun _ => rfl) (f := 110) (args := #[.string d]) ?_ (fun b γ W h _ => (HFB.out W).mono (fun e w2 h2 => ⟨h2.1, h.1.below h2.2, h.2.trans (h2.2.mono h.2.size)⟩)) ?_; · (intro b γ W h _; obtain ⟨x0, x1, x2, x3⟩ := frame_res h.1; go_simp; done))
        | (refine t_pure ?_ (fun _ => rfl) (fun b γ W h => h) (fun b γ W h _ => ?_) ?_; rotate_left; · (obtain ⟨x0, x1, x2, x3⟩ := frame_res h.1; go_simp; rfl)))
      refine t_end ?_
      intro bq gq w5 hall HB
      simp only [Act.put, List.setIfInBounds_toArray, List.set_cons_zero, List.set_cons_succ]
      go_wp2_with fail
      go_ret
      rw [HX.out, HE1.out]
      exact ⟨rfl, HB.2⟩
    · clear HE1
      generalize B (arbL true i.toNat r) = AA at *
      generalize B (ofN d.size 4) = O at *
      generalize B (fromB d.data.toList) = FF at *
      have z0 : (9223372036854775807 < AA.size + 1) = False := eq_false (by omega)
      have z1 : (9223372036854775807 < AA.size + 1 + 1) = False := eq_false (by omega)
      have z2 : (9223372036854775807 < AA.size + 1 + 1 + 4) = False := eq_false (by omega)
      have z3 : (9223372036854775807 < AA.size + 1 + 1 + 4 + FF.size) = False := eq_false (by omega)
      have z4 : (9223372036854775807 < AA.size + 2) = False := eq_false (by omega)
      have z5 : (9223372036854775807 < AA.size + 2 + 4) = False := eq_false (by omega)
      have z6 : (9223372036854775807 < AA.size + 2 + 4 + FF.size) = False := eq_false (by omega)
      go_enter Tryz.func95, Tryz.ntmps95
      go_wp2_with fail
      refine (HIS.out _).mono ?_
      rintro y w1 ⟨rfl, hb⟩
      have hB := hB.trans (hb.mono hB.size)
      have hF := hF.below hb
      obtain ⟨x0, x1, x2, x3⟩ := frame_res hF
      clear hb
      go_wp2_with fail
      refine (HAR.out _).mono ?_
      rintro y w2 ⟨rfl, hb⟩
      have hB := hB.trans (hb.mono hB.size)
      have hF := hF.below hb
      obtain ⟨x0, x1, x2, x3⟩ := frame_res hF
      clear hb
      go_wp2_with fail
      refine region_text (by kernel_rfl) (by kernel_rfl) (fun _ _ W => Blk W w.heap.size 35 [.bool true, .int .u32 i, .bool r, .string d] ∧ Below w.heap.size w W) ⟨hF.drew, hB.drew⟩ ?_
      clear hF hB x0 x1 x2 x3
      iterate 12 ((try simp only [Act.put, List.setIfInBounds_toArray, List.set_cons_zero, List.set_cons_succ]); first
        | (refine t_skip (fun _ => rfl) (fun b γ W h => h) ?_)
        | (refine t_call (.string O) (fun _ => rfl) (f := 96) (args := #[.int .u64 (d.size : Int), .int .i64 4]) ?_ (fun b γ W h _ => (HO.out W).mono (fun e w2 h2 => ⟨h2.1, h.1.below h2.2, h.2.trans (h2.2.mono h.2.size)⟩)) ?_; · (intro b γ W h _; go_simp; done))
        | (refine t_call (.string FF) (fun _ => rfl) (f := 110) (args := #[.string d]) ?_ (fun b γ W h _ => (HFB.out W).mono (fun e w2 h2 => ⟨h2.1, h.1.below h2.2, h.2.trans (h2.2.mono h.2.size)⟩)) ?_; · (intro b γ W h _; obtain ⟨x0, x1, x2, x3⟩ := frame_res h.1; go_simp; done))
        | (refine t_pure ?_ (fun _ => rfl) (fun b γ W h => h) (fun b γ W h _ => ?_) ?_; rotate_left; · (obtain ⟨x0, x1, x2, x3⟩ := frame_res h.1; go_simp; rfl)))
      refine t_end ?_
      intro bq gq w5 hall HB
      simp only [Act.put, List.setIfInBounds_toArray, List.set_cons_zero, List.set_cons_succ]
      go_wp2_with fail
      go_ret
      rw [HX.out, HE2.out]
      exact ⟨rfl, HB.2⟩
end Go.Proofs.YtpkpnaedacefaaaGreat.RefW
