/- CodeTail (layer 4): of the bits behind the sum each must be what it is, but the second one. Conditions: none beyond the types of the arguments; what is no frame is let pass. -/
import Derived.Test.YtkdnldoebghclaaCodeLaws
namespace Go.Proofs.Ytkdnldoebghclaa.CodeL
set_option linter.unusedVariables false
set_option linter.unusedSimpArgs false
open Go.Proofs.YtkdnldoebghclaaW.PrintWords
open Go Go.RowKit Go.Proofs.Ytkdnldoebghclaa.Lib Go.Proofs.Ytkdnldoebghclaa.Bits Go.Proofs.Ytkdnldoebghclaa.BitsW Go.Proofs.Ytkdnldoebghclaa.StuffW Go.Proofs.Ytkdnldoebghclaa.Frame Go.Proofs.Ytkdnldoebghclaa.FrameW Go.Proofs.Ytkdnldoebghclaa.Code Go.Proofs.Ytkdnldoebghclaa.CodeW Go.Proofs.YtkdnldoebghclaaW.PrintMore
attribute [local go_sem] max2_int min2_int max_two min_two
attribute [local go_sem high] eqA24

theorem turn_ten : ∀ j, j < 10 → turn (List.replicate 10 true) j = (List.replicate 10 true).set j false := by decide
theorem tail_facts {e : Bool} {i : Int} {r : Bool} {d : ByteArray} (hk : okF e i r d = true) (hi : 0 ≤ i ∧ i < 4294967296) (j : Nat) (hj : j < 10) :
    ∃ S T : ByteArray, codeF e i r d = S ∧ 34 ≤ S.size ∧ S.size ≤ 246 ∧
      (∀ w, Calls Try.prog 16 #[.string S, .int .i64 ((S.size : Int) - 10 + j)] w fun x w' => x = .returned (.string T) ∧ Drawn0 w w') ∧
      (j = 1 → ∀ w, Calls Try.prog 20 #[.string T] w fun x w' => x = .returned (.tuple #[.agg #[.bool e, .int .u32 i, .bool r, .string d], .int .i64 S.size, .int .i64 0]) ∧ Below w.heap.size w w') ∧
      (j ≠ 1 → ∀ w, Calls Try.prog 20 #[.string T] w fun x w' => x = .returned (.tuple #[.agg #[.bool false, .int .u32 0, .bool false, .string ⟨#[]⟩], .int .i64 ((S.size : Int) - 10 + j), .int .i64 12]) ∧ Below w.heap.size w w') := by
  have hn := ok_lt hk hi
  have hd := ok_len hk
  have hr := ok_rtr hk
  have hl := frame_len e i.toNat r d.data.toList hd
  have hcl := code_length e i.toNat r d.data.toList
  have hsz := codeF_size hk
  have htl : (stuff (sumL (bodyL e i.toNat r d.data.toList)) ++ turn (List.replicate 10 true) j).length ≤ 1000 := by rw [List.length_append, turn_length, List.length_replicate]; omega
  refine ⟨codeF e i r d, B (stuff (sumL (bodyL e i.toNat r d.data.toList)) ++ turn (List.replicate 10 true) j), rfl, by omega, by omega, ?_, ?_, ?_⟩
  · intro w
    refine Plug.ostinatoref1_Turn.calls _ _ _ w ?_
    unfold Plug.ostinatoref1_Turn.f
    rw [if_pos (by omega), hsz, codeF_ok hk, bitsOf_B, code_turn _ _ _ _ j hj]
  · intro h1 w
    subst h1
    refine dec_frame _ e i r d _ (by rw [B_size]; exact htl) hi ?_ w
    rw [bitsOf_B, ack_turn, hsz]
    have := dec_whole hn hd hr false []
    rw [List.append_nil] at this
    exact this
  · intro h1 w
    have := dec_bad (B (stuff (sumL (bodyL e i.toNat r d.data.toList)) ++ turn (List.replicate 10 true) j)) ((stuff (sumL (bodyL e i.toNat r d.data.toList))).length + j) 12 (by rw [B_size]; exact htl) (by
      rw [bitsOf_B, dec_last hn hd hr, turn_ten j hj]
      exact tail_bad _ _ _ _ true hj h1 (fun h => by cases h)) w
    rw [show ((((stuff (sumL (bodyL e i.toNat r d.data.toList))).length + j : Nat)) : Int) = ((codeF e i r d).size : Int) - 10 + j by omega] at this
    exact this
set_option maxRecDepth 100000 in
set_option maxHeartbeats 6400000 in
theorem tail_calls (e1 : Bool) (i1 : Int) (r1 : Bool) (d1 : ByteArray) (c : Int) (w : World) (b1 : 0 ≤ i1 ∧ i1 < 4294967296) (hc : 0 ≤ c ∧ c ≤ 255) :
    Calls Try.prog 7 #[.agg #[.bool e1, .int .u32 i1, .bool r1, .string d1], .int .u8 c] w fun e w' => e = .returned (.bool true) ∧ Below w.heap.size w w' := by
  have HF := One.make w e1 i1 r1 d1
  obtain ⟨j, hj, hj10⟩ : ∃ j : Nat, c % 10 = (j : Int) ∧ j < 10 := ⟨(c % 10).toNat, by omega, by omega⟩
  obtain ⟨hc0, hc1⟩ := hc
  have HB1 := hid b1
  clear b1
  have HLE := hid (fun (W : World) => len_calls e1 i1 r1 d1 W HB1.out)
  have HEN := hid (fun (W : World) => encode_calls e1 i1 r1 d1 W HB1.out)
  have HZ := hid (codeF_zero e1 i1 r1 d1)
  have HBF := hid (fun (hk : okF e1 i1 r1 d1 = true) => tail_facts hk HB1.out j hj10)
  generalize hS : codeF e1 i1 r1 d1 = S at *
  clear hS
  go_enter Try.func7, Try.ntmps7
  go_wp2_with fail
  refine (known_calls _).mono ?_
  rintro x w1 ⟨rfl, hb⟩
  have HF := HF.later hb
  clear hb
  generalize hg : w.heap.size = g at *
  have HG := hid hg
  clear hg
  obtain ⟨x0, x1, x2, x3⟩ := frame_res HF.fst
  go_wp2_with (first
    | (go_at_call 14; with_reducible refine (few_calls _ _ _ _ _).mono ?_; rintro x w2 ⟨rfl, hb⟩; have HF' := HF.later hb; clear HF hb x0 x1 x2 x3; have HF := HF'; clear HF'; obtain ⟨x0, x1, x2, x3⟩ := frame_res HF.fst)
    | (go_at_call 18; with_reducible refine (HLE.out _).mono ?_; rintro x w2 ⟨rfl, hb⟩; have HF' := HF.later hb; clear HF hb x0 x1 x2 x3; have HF := HF'; clear HF'; obtain ⟨x0, x1, x2, x3⟩ := frame_res HF.fst)
    | (go_at_call 17; fail))
  all_goals try (go_ret; exact ⟨rfl, HF.below⟩)
  have hok : okF e1 i1 r1 d1 = true := by
    have h := ‹((S.size : Int) == 0) = false›
    cases hk : okF e1 i1 r1 d1
    · have := HZ.out.2 hk
      rw [this] at h
      cases h
    · rfl
  obtain ⟨S', T, rfl, s1, s2, q1, q2, q3⟩ := HBF.out hok
  have Q1 := hid q1
  have Q2 := hid q2
  have Q3 := hid q3
  have H0 := HF.fst
  have HB := HF.below
  clear q1 q2 q3 hok HBF HZ HLE HF
  refine (HEN.out _).mono ?_
  rintro x w5 ⟨rfl, hb⟩
  have HB := HB.trans (hb.mono HB.size)
  have H0 := H0.below hb
  clear hb x0 x1 x2 x3
  have u0 : (0 : Int) ≤ (j : Int) := by omega
  have u1 : (j : Int) ≤ 9 := by omega
  go_wp2_with fail
  refine (Q1.out _).mono ?_
  rintro x w6 ⟨rfl, hb⟩
  have HB := HB.trans (hb.below.mono HB.size)
  have H0 := H0.below hb.below
  clear hb
  by_cases hj1 : j = 1
  · subst hj1
    have Q4 := hid (Q2.out rfl)
    clear Q2 Q3
    go_wp2_with fail
    refine (Q4.out _).mono ?_
    rintro x w7 ⟨rfl, hb⟩
    have HB := HB.trans (hb.mono HB.size)
    have HB := HB.alloc HB.size (.cells #[.bool e1, .int .u32 i1, .bool r1, .string d1] 24)
    have H9 := Blk.new w7 [.bool e1, .int .u32 i1, .bool r1, .string d1] 24
    have H0 := (H0.below hb).alloc (.cells #[.bool e1, .int .u32 i1, .bool r1, .string d1] 24)
    clear hb
    obtain ⟨x0, x1, x2, x3⟩ := frame_res H0
    obtain ⟨y0, y1, y2, y3⟩ := frame_res H9
    go_wp2_with fail
    go_ret
    exact ⟨rfl, HB⟩
  · have Q4 := hid (Q3.out hj1)
    have hj2 : ((j : Int) == 1) = false := beq_eq_false_iff_ne.2 (by omega)
    have hj3 : ((j : Int) = 1) = False := eq_false (by omega)
    clear Q2 Q3
    go_wp2_with fail
    refine (Q4.out _).mono ?_
    rintro x w7 ⟨rfl, hb⟩
    have HB := HB.trans (hb.mono HB.size)
    have HB := HB.alloc HB.size (.cells #[.bool false, .int .u32 0, .bool false, .string ⟨#[]⟩] 24)
    have H9 := Blk.new w7 [.bool false, .int .u32 0, .bool false, .string ⟨#[]⟩] 24
    have H0 := (H0.below hb).alloc (.cells #[.bool false, .int .u32 0, .bool false, .string ⟨#[]⟩] 24)
    clear hb
    obtain ⟨x0, x1, x2, x3⟩ := frame_res H0
    obtain ⟨y0, y1, y2, y3⟩ := frame_res H9
    go_wp2_with fail
    go_ret
    exact ⟨rfl, HB⟩
theorem tail_walk (e1 : Bool) (i1 : Int) (r1 : Bool) (d1 : ByteArray) (c : Int) (w : World) (b1 : (Lit.int .u32 i1).wf = true) (_ : d1.size ≤ 9223372036854775807) (hc : (Lit.int .u8 c).wf = true) :
    Calls Try.prog 7 #[.agg #[.bool e1, .int .u32 i1, .bool r1, .string d1], .int .u8 c] w fun e w' => e = .returned (.bool true) ∧ Below w.heap.size w w' :=
  tail_calls e1 i1 r1 d1 c w (by have := bounds_u32 b1; omega) (by have := bounds_u8 hc; omega)
end Go.Proofs.Ytkdnldoebghclaa.CodeL
