/- CodeBack (layer 4): what is sent is taken as it was, acknowledged or not, whatever is behind it; cut off it is too short. Conditions: none beyond the types of the arguments; longer rows and what is no frame are let pass. -/
import Derived.Test.YtkdnldoebghclaaCodeLaws
namespace Go.Proofs.Ytkdnldoebghclaa.CodeL
set_option linter.unusedVariables false
set_option linter.unusedSimpArgs false
open Go.Proofs.YtkdnldoebghclaaW.PrintWords
open Go Go.RowKit Go.Proofs.Ytkdnldoebghclaa.Lib Go.Proofs.Ytkdnldoebghclaa.Bits Go.Proofs.Ytkdnldoebghclaa.BitsW Go.Proofs.Ytkdnldoebghclaa.StuffW Go.Proofs.Ytkdnldoebghclaa.Frame Go.Proofs.Ytkdnldoebghclaa.FrameW Go.Proofs.Ytkdnldoebghclaa.Code Go.Proofs.Ytkdnldoebghclaa.CodeW Go.Proofs.YtkdnldoebghclaaW.PrintMore
attribute [local go_sem] max2_int min2_int max_two min_two
attribute [local go_sem high] eqA24

theorem back_facts {e : Bool} {i : Int} {r : Bool} {d more : ByteArray} (hk : okF e i r d = true) (hi : 0 ≤ i ∧ i < 4294967296) (hm : more.size ≤ 60) :
    ∃ S A : ByteArray, codeF e i r d = S ∧ ackF e i r d = A ∧ 34 ≤ S.size ∧ S.size ≤ 246 ∧ A.size = S.size ∧
      (∀ w, Calls Try.prog 20 #[.string (S ++ more)] w fun x w' => x = .returned (.tuple #[.agg #[.bool e, .int .u32 i, .bool r, .string d], .int .i64 S.size, .int .i64 0]) ∧ Below w.heap.size w w') ∧
      (∀ w, Calls Try.prog 20 #[.string (A ++ more)] w fun x w' => x = .returned (.tuple #[.agg #[.bool e, .int .u32 i, .bool r, .string d], .int .i64 S.size, .int .i64 0]) ∧ Below w.heap.size w w') ∧
      ∀ k : Nat, k < S.size → ∀ w, Calls Try.prog 20 #[.string (A.extract 0 k)] w fun x w' => x = .returned (.tuple #[.agg #[.bool false, .int .u32 0, .bool false, .string ⟨#[]⟩], .int .i64 k, .int .i64 10]) ∧ Below w.heap.size w w' := by
  have hn := ok_lt hk hi
  have hd := ok_len hk
  have hr := ok_rtr hk
  have hl := frame_len e i.toNat r d.data.toList hd
  have hcl := code_length e i.toNat r d.data.toList
  have hal : (ackF e i r d).size = (codeF e i r d).size := by rw [ackF_ok hk, codeF_size hk, B_size, hcl, List.length_append]; rfl
  have hsz := codeF_size hk
  refine ⟨codeF e i r d, ackF e i r d, rfl, rfl, by omega, by omega, hal, ?_, ?_, ?_⟩
  · refine dec_frame _ e i r d _ (by rw [ByteArray.size_append]; omega) hi ?_
    rw [bits_app, hsz, codeF_ok hk, bitsOf_B, code_app, List.append_assoc]
    exact dec_whole hn hd hr true (bitsOf more)
  · refine dec_frame _ e i r d _ (by rw [ByteArray.size_append]; omega) hi ?_
    rw [bits_app, hsz, ackF_ok hk, bitsOf_B, List.append_assoc]
    exact dec_whole hn hd hr false (bitsOf more)
  · intro k hk2
    refine dec_bad _ k 10 (by rw [ByteArray.size_extract]; omega) ?_
    rw [bits_extract, List.drop_zero, Nat.sub_zero, ackF_ok hk, bitsOf_B]
    exact dec_cut hn hd hr false k (by rw [← hsz]; exact hk2)
set_option maxRecDepth 100000 in
set_option maxHeartbeats 6400000 in
theorem back_calls (e1 : Bool) (i1 : Int) (r1 : Bool) (d1 more : ByteArray) (c : Int) (w : World) (b1 : 0 ≤ i1 ∧ i1 < 4294967296) (hc : 0 ≤ c ∧ c ≤ 255) :
    Calls Try.prog 6 #[.agg #[.bool e1, .int .u32 i1, .bool r1, .string d1], .string more, .int .u8 c] w fun e w' => e = .returned (.bool true) ∧ Below w.heap.size w w' := by
  have HF := One.make w e1 i1 r1 d1
  obtain ⟨hc0, hc1⟩ := hc
  have HB1 := hid b1
  clear b1
  have HLE := hid (fun (W : World) => len_calls e1 i1 r1 d1 W HB1.out)
  have HEN := hid (fun (W : World) => encode_calls e1 i1 r1 d1 W HB1.out)
  have HAC := hid (fun (W : World) => acked_calls e1 i1 r1 d1 W HB1.out)
  have HZ := hid (codeF_zero e1 i1 r1 d1)
  have HBF := hid (fun (hk : okF e1 i1 r1 d1 = true) (hm : more.size ≤ 60) => back_facts (more := more) hk HB1.out hm)
  generalize hS : codeF e1 i1 r1 d1 = S at *
  generalize hA : ackF e1 i1 r1 d1 = A at *
  clear hS hA
  go_enter Try.func6, Try.ntmps6
  go_wp2_with fail
  refine (known_calls _).mono ?_
  rintro x w1 ⟨rfl, hb⟩
  have HF := HF.later hb
  clear hb
  generalize hg : w.heap.size = g at *
  have HG := hid hg
  clear hg
  obtain ⟨x0, x1, x2, x3⟩ := frame_res HF.fst
  go_wp2_with (first
    | (go_at_call 14; with_reducible refine (few_calls _ _ _ _ _).mono ?_; rintro x w2 ⟨rfl, hb⟩; have HF' := HF.later hb; clear HF hb x0 x1 x2 x3; have HF := HF'; clear HF'; obtain ⟨x0, x1, x2, x3⟩ := frame_res HF.fst)
    | (go_at_call 18; with_reducible refine (HLE.out _).mono ?_; rintro x w2 ⟨rfl, hb⟩; have HF' := HF.later hb; clear HF hb x0 x1 x2 x3; have HF := HF'; clear HF'; obtain ⟨x0, x1, x2, x3⟩ := frame_res HF.fst))
  all_goals try (go_ret; exact ⟨rfl, HF.below⟩)
  have hok : okF e1 i1 r1 d1 = true := by
    have h := (‹(more.size : Int) ≤ 60 ∧ ((S.size : Int) == 0) = false›).2
    cases hk : okF e1 i1 r1 d1
    · have := HZ.out.2 hk
      rw [this] at h
      cases h
    · rfl
  have hm : more.size ≤ 60 := by
    have h := (‹(more.size : Int) ≤ 60 ∧ ((S.size : Int) == 0) = false›).1
    omega
  obtain ⟨S', A', rfl, rfl, s1, s2, s3, q1, q2, q3⟩ := HBF.out hok hm
  have Q1 := hid q1
  have Q2 := hid q2
  have Q3 := hid q3
  clear q1 q2 q3 hok HBF HZ HLE x0 x1 x2 x3
  refine region_text (by kernel_rfl) (by kernel_rfl) (fun _ _ W => One w W g e1 i1 r1 d1) HF.drew ?_
  clear HF
  iterate 6 ((try simp only [Act.put, List.setIfInBounds_toArray, List.set_cons_zero, List.set_cons_succ]); first
    | (refine t_skip (fun _ => rfl) (fun b γ W h => h) ?_)
    | (refine t_call (.string S) (fun _ => rfl) (f := 17) (args := #[.agg #[.bool e1, .int .u32 i1, .bool r1, .string d1]]) ?_ (fun b γ W h _ => (HEN.out W).mono (fun e w2 h2 => ⟨h2.1, h.later h2.2⟩)) ?_; · (intro b γ W h _; go_simp; done))
    | (refine t_call (.string A) (fun _ => rfl) (f := 19) (args := #[.agg #[.bool e1, .int .u32 i1, .bool r1, .string d1]]) ?_ (fun b γ W h _ => (HAC.out W).mono (fun e w2 h2 => ⟨h2.1, h.later h2.2⟩)) ?_; · (intro b γ W h _; go_simp; done))
    | (refine t_pure ?_ (fun _ => rfl) (fun b γ W h => h) (fun b γ W h _ => ?_) ?_; rotate_left; · (obtain ⟨x0, x1, x2, x3⟩ := frame_res h.fst; go_simp; rfl)))
  refine t_end ?_
  intro bq gq w5 hall HF
  simp only [Act.put, List.setIfInBounds_toArray, List.set_cons_zero, List.set_cons_succ]
  clear hall
  have H0 := HF.fst
  have HB := HF.below
  clear HF
  go_wp2_with fail
  refine (Q1.out _).mono ?_
  rintro x w6 ⟨rfl, hb⟩
  have HB := HB.trans (hb.mono HB.size)
  have HB := HB.alloc HB.size (.cells #[.bool e1, .int .u32 i1, .bool r1, .string d1] 24)
  have H9 := Blk.new w6 [.bool e1, .int .u32 i1, .bool r1, .string d1] 24
  have H0 := (H0.below hb).alloc (.cells #[.bool e1, .int .u32 i1, .bool r1, .string d1] 24)
  clear hb
  go_wp2_with fail
  refine (Q2.out _).mono ?_
  rintro x w7 ⟨rfl, hb⟩
  generalize w6.heap.size = g9 at *
  have HB := HB.trans (hb.mono HB.size)
  have HB := HB.alloc HB.size (.cells #[.bool e1, .int .u32 i1, .bool r1, .string d1] 24)
  have H12 := Blk.new w7 [.bool e1, .int .u32 i1, .bool r1, .string d1] 24
  have H9 := (H9.below hb).alloc (.cells #[.bool e1, .int .u32 i1, .bool r1, .string d1] 24)
  have H0 := (H0.below hb).alloc (.cells #[.bool e1, .int .u32 i1, .bool r1, .string d1] 24)
  clear hb
  obtain ⟨kk, hk, hkb⟩ : ∃ kk : Nat, c % (S.size : Int) = (kk : Int) ∧ kk < S.size := by
    refine ⟨(c % (S.size : Int)).toNat, ?_, ?_⟩
    · have := Int.emod_nonneg c (show (S.size : Int) ≠ 0 by omega)
      omega
    · have h1 := Int.emod_nonneg c (show (S.size : Int) ≠ 0 by omega)
      have h2 := Int.emod_lt_of_pos c (show (0 : Int) < (S.size : Int) by omega)
      omega
  have u1 : (kk : Int) ≤ (A.size : Int) := by omega
  have u2 : (0 : Int) ≤ (kk : Int) := by omega
  have u3 : (S.size : Int) ≠ 0 := by omega
  have Q4 := hid (Q3.out kk hkb)
  clear Q3 hkb
  go_wp2_with fail
  refine (Q4.out _).mono ?_
  rintro x w8 ⟨rfl, hb⟩
  generalize w7.heap.size = g12 at *
  have HB := HB.trans (hb.mono HB.size)
  have HB := HB.alloc HB.size (.cells #[.bool false, .int .u32 0, .bool false, .string ⟨#[]⟩] 24)
  have H12 := (H12.below hb).alloc (.cells #[.bool false, .int .u32 0, .bool false, .string ⟨#[]⟩] 24)
  have H9 := (H9.below hb).alloc (.cells #[.bool false, .int .u32 0, .bool false, .string ⟨#[]⟩] 24)
  have H0 := (H0.below hb).alloc (.cells #[.bool false, .int .u32 0, .bool false, .string ⟨#[]⟩] 24)
  clear hb
  obtain ⟨x0, x1, x2, x3⟩ := frame_res H0
  obtain ⟨y0, y1, y2, y3⟩ := frame_res H9
  obtain ⟨z0, z1, z2, z3⟩ := frame_res H12
  go_wp2_with fail
  go_ret
  exact ⟨rfl, HB⟩
theorem back_walk (e1 : Bool) (i1 : Int) (r1 : Bool) (d1 more : ByteArray) (c : Int) (w : World) (b1 : (Lit.int .u32 i1).wf = true) (_ : d1.size ≤ 9223372036854775807) (_ : more.size ≤ 9223372036854775807) (hc : (Lit.int .u8 c).wf = true) :
    Calls Try.prog 6 #[.agg #[.bool e1, .int .u32 i1, .bool r1, .string d1], .string more, .int .u8 c] w fun e w' => e = .returned (.bool true) ∧ Below w.heap.size w w' :=
  back_calls e1 i1 r1 d1 more c w (by have := bounds_u32 b1; omega) (by have := bounds_u8 hc; omega)
end Go.Proofs.Ytkdnldoebghclaa.CodeL
