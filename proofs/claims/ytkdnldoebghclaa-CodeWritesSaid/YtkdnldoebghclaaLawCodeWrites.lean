/- CodeWrites (layer 4): of every frame its bits on the wire are the document's, so are those of a frame that is taken. Conditions: none beyond the types of the arguments; longer texts are let pass. -/
import Derived.Test.YtkdnldoebghclaaCodeLaws
import Derived.Test.YtkdnldoebghclaaRefD
namespace Go.Proofs.Ytkdnldoebghclaa.CodeL
set_option linter.unusedVariables false
set_option linter.unusedSimpArgs false
open Go.Proofs.YtkdnldoebghclaaW.PrintWords
open Go Go.RowKit Go.Proofs.Ytkdnldoebghclaa.Lib Go.Proofs.Ytkdnldoebghclaa.Bits Go.Proofs.Ytkdnldoebghclaa.BitsW Go.Proofs.Ytkdnldoebghclaa.StuffW Go.Proofs.Ytkdnldoebghclaa.Frame Go.Proofs.Ytkdnldoebghclaa.FrameW Go.Proofs.Ytkdnldoebghclaa.Code Go.Proofs.Ytkdnldoebghclaa.CodeW Go.Proofs.Ytkdnldoebghclaa.RefW Go.Proofs.YtkdnldoebghclaaW.PrintMore
attribute [local go_sem] max2_int min2_int max_two min_two
attribute [local go_sem high] eqA24

theorem stuff_157 (e : Bool) (n : Nat) (r : Bool) (d : List UInt8) (hd : d.length ≤ 8) : (codeL e n r d).length ≤ 157 := by
  have h2 := bodyL_length e n r d
  have h3 : (sumL (bodyL e n r d)).length ≤ 118 := by unfold sumL; rw [List.length_append, ofN_length, h2]; split <;> omega
  rw [code_length]
  cases hs : sumL (bodyL e n r d) with
  | nil => simp [stuff, stuffL]
  | cons c l =>
    have e1 : runK 0 false c = 1 := by unfold runK; rw [if_neg (by omega)]
    have := stuffL_bound l 1 c (by omega) (by omega)
    unfold stuff
    rw [stuffL_cons, e1, if_neg (by omega)]
    rw [hs] at h3
    simp only [List.length_cons] at *
    omega
set_option maxRecDepth 100000 in
set_option maxHeartbeats 6400000 in
theorem writes_calls (e1 : Bool) (i1 : Int) (r1 : Bool) (d1 : ByteArray) (w : World) (b1 : 0 ≤ i1 ∧ i1 < 4294967296) :
    Calls Try.prog 3 #[.agg #[.bool e1, .int .u32 i1, .bool r1, .string d1]] w fun e w' => e = .returned (.bool true) ∧ Below w.heap.size w w' := by
  have HF := One.make w e1 i1 r1 d1
  have HLE := hid (fun (W : World) => len_calls e1 i1 r1 d1 W b1)
  have HEN := hid (fun (W : World) => encode_calls e1 i1 r1 d1 W b1)
  have HRE := hid (fun (W : World) => rencode_calls e1 i1 r1 d1 W b1)
  have HAC := hid (fun (W : World) => acked_calls e1 i1 r1 d1 W b1)
  have hTU : okF e1 i1 r1 d1 = true → (∀ w, Calls Try.prog 16 #[.string (codeF e1 i1 r1 d1), .int .i64 (((codeF e1 i1 r1 d1).size : Int) - 9)] w fun x w' => x = .returned (.string (ackF e1 i1 r1 d1)) ∧ Drawn0 w w') ∧ ((codeF e1 i1 r1 d1).toList == []) = false ∧ 44 ≤ (codeF e1 i1 r1 d1).size ∧ (codeF e1 i1 r1 d1).size ≤ 157 := by
    intro hk
    have hl := frame_len e1 i1.toNat r1 d1.data.toList (ok_len hk)
    have hcl := code_length e1 i1.toNat r1 d1.data.toList
    have hsz := codeF_size hk
    have h157 := stuff_157 e1 i1.toNat r1 d1.data.toList (ok_len hk)
    refine ⟨fun w => ?_, ?_, by omega, by omega⟩
    · refine Plug.ostinatoref1_Turn.calls _ _ _ w ?_
      unfold Plug.ostinatoref1_Turn.f
      have := code_turn e1 i1.toNat r1 d1.data.toList 1 (by decide)
      rw [if_pos (by omega), ackF_ok hk, hsz, codeF_ok hk, bitsOf_B, show ((codeL e1 i1.toNat r1 d1.data.toList).length : Int) - 9 = ((codeL e1 i1.toNat r1 d1.data.toList).length : Int) - 10 + (1 : Nat) by omega, this, ack_turn]
    · rw [codeF_ok hk, Facts.B_list, beq_eq_false_iff_ne]
      intro h
      have := List.map_eq_nil_iff.1 h
      rw [this] at hcl
      simp at hcl
  have hNO : okF e1 i1 r1 d1 = false → codeF e1 i1 r1 d1 = ⟨#[]⟩ ∧ ackF e1 i1 r1 d1 = ⟨#[]⟩ := fun hk => ⟨codeF_no hk, if_neg (by simp [hk])⟩
  have HTU := hid hTU
  have HNO := hid hNO
  clear hTU hNO b1
  generalize hS : codeF e1 i1 r1 d1 = S at *
  generalize hA : ackF e1 i1 r1 d1 = A at *
  clear hS hA
  go_enter Try.func3, Try.ntmps3
  go_wp2_with fail
  refine (known_calls _).mono ?_
  rintro x w1 ⟨rfl, hb⟩
  have HF := HF.later hb
  clear hb
  generalize hg : w.heap.size = g at *
  have HG := hid hg
  clear hg
  obtain ⟨x0, x1, x2, x3⟩ := frame_res HF.fst
  go_wp2_with fail
  refine (few_calls _ _ _ _ _).mono ?_
  rintro x w2 ⟨rfl, hb⟩
  have HF' := HF.later hb
  clear HF hb x0 x1 x2 x3
  have HF := HF'
  clear HF'
  obtain ⟨x0, x1, x2, x3⟩ := frame_res HF.fst
  go_wp2_with fail
  all_goals try (go_ret; exact ⟨rfl, HF.below⟩)
  refine (HRE.out _).mono ?_
  rintro x w3 ⟨rfl, hb⟩
  have HF' := HF.later hb
  clear HF hb x0 x1 x2 x3
  have HF := HF'
  clear HF'
  cases hk : okF e1 i1 r1 d1
  · obtain ⟨rfl, rfl⟩ := HNO.out hk
    obtain ⟨x0, x1, x2, x3⟩ := frame_res HF.fst
    clear HTU HNO
    go_wp2_with (first
      | (go_at_call 17; with_reducible refine (HEN.out _).mono ?_; rintro x w4 ⟨rfl, hb⟩; have HF' := HF.later hb; clear HF hb x0 x1 x2 x3; have HF := HF'; clear HF'; obtain ⟨x0, x1, x2, x3⟩ := frame_res HF.fst)
      | (go_at_call 18; with_reducible refine (HLE.out _).mono ?_; rintro x w4 ⟨rfl, hb⟩; have HF' := HF.later hb; clear HF hb x0 x1 x2 x3; have HF := HF'; clear HF'; obtain ⟨x0, x1, x2, x3⟩ := frame_res HF.fst)
      | (go_at_call 19; with_reducible refine (HAC.out _).mono ?_; rintro x w4 ⟨rfl, hb⟩; have HF' := HF.later hb; clear HF hb x0 x1 x2 x3; have HF := HF'; clear HF'; obtain ⟨x0, x1, x2, x3⟩ := frame_res HF.fst))
    go_ret
    exact ⟨rfl, HF.below⟩
  · obtain ⟨t1, t2, t3, t4⟩ := HTU.out hk
    have T1 := hid t1
    have t5 : (S.toList = []) = False := eq_false (beq_eq_false_iff_ne.1 t2)
    have t6 : (S.toList != []) = true := bne_iff_ne.2 (beq_eq_false_iff_ne.1 t2)
    have t7 : decide ((S.size : Int) ≤ 200) = true := decide_eq_true (by omega)
    clear t1 HTU HNO
    obtain ⟨x0, x1, x2, x3⟩ := frame_res HF.fst
    go_wp2_with (first
      | (go_at_call 16; with_reducible refine (T1.out _).mono ?_; rintro x w4 ⟨rfl, hb⟩; have HF' := HF.later hb.below; clear HF hb x0 x1 x2 x3; have HF := HF'; clear HF'; obtain ⟨x0, x1, x2, x3⟩ := frame_res HF.fst)
      | (go_at_call 17; with_reducible refine (HEN.out _).mono ?_; rintro x w4 ⟨rfl, hb⟩; have HF' := HF.later hb; clear HF hb x0 x1 x2 x3; have HF := HF'; clear HF'; obtain ⟨x0, x1, x2, x3⟩ := frame_res HF.fst)
      | (go_at_call 18; with_reducible refine (HLE.out _).mono ?_; rintro x w4 ⟨rfl, hb⟩; have HF' := HF.later hb; clear HF hb x0 x1 x2 x3; have HF := HF'; clear HF'; obtain ⟨x0, x1, x2, x3⟩ := frame_res HF.fst)
      | (go_at_call 19; with_reducible refine (HAC.out _).mono ?_; rintro x w4 ⟨rfl, hb⟩; have HF' := HF.later hb; clear HF hb x0 x1 x2 x3; have HF := HF'; clear HF'; obtain ⟨x0, x1, x2, x3⟩ := frame_res HF.fst))
    go_ret
    exact ⟨rfl, HF.below⟩
theorem writes_walk (e1 : Bool) (i1 : Int) (r1 : Bool) (d1 : ByteArray) (w : World) (b1 : (Lit.int .u32 i1).wf = true) (_ : d1.size ≤ 9223372036854775807) :
    Calls Try.prog 3 #[.agg #[.bool e1, .int .u32 i1, .bool r1, .string d1]] w fun e w' => e = .returned (.bool true) ∧ Below w.heap.size w w' :=
  writes_calls e1 i1 r1 d1 w (by have := bounds_u32 b1; omega)
end Go.Proofs.Ytkdnldoebghclaa.CodeL
