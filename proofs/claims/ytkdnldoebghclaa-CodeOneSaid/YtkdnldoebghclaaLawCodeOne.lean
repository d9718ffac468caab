/- CodeOne (layer 4): a bit turned behind the sum's place or in it is told, but the second one behind it; whatever is told, no frame comes with an error. Conditions: none beyond the types of the arguments; what is no frame is let pass. -/
import Derived.Test.YtkdnldoebghclaaCodeLaws
namespace Go.Proofs.Ytkdnldoebghclaa.CodeL
set_option linter.unusedVariables false
set_option linter.unusedSimpArgs false
open Go.Proofs.YtkdnldoebghclaaW.PrintWords
open Go Go.RowKit Go.Proofs.Ytkdnldoebghclaa.Lib Go.Proofs.Ytkdnldoebghclaa.Bits Go.Proofs.Ytkdnldoebghclaa.BitsW Go.Proofs.Ytkdnldoebghclaa.StuffW Go.Proofs.Ytkdnldoebghclaa.Frame Go.Proofs.Ytkdnldoebghclaa.FrameW Go.Proofs.Ytkdnldoebghclaa.Code Go.Proofs.Ytkdnldoebghclaa.CodeW Go.Proofs.YtkdnldoebghclaaW.PrintMore
attribute [local go_sem] max2_int min2_int max_two min_two
attribute [local go_sem high] eqA24

theorem ack_ten : ∀ j, j < 10 → j ≠ 1 → turn ackT j = ackT.set j false := by decide
theorem ack_back : turn ackT 1 = List.replicate 10 true := by decide
theorem one_facts {e : Bool} {i : Int} {r : Bool} {d : ByteArray} (hk : okF e i r d = true) (hi : 0 ≤ i ∧ i < 4294967296) (c : Int) (hc : 0 ≤ c ∧ c ≤ 255) :
    ∃ (S A T : ByteArray) (k : Nat), codeF e i r d = S ∧ ackF e i r d = A ∧ 44 ≤ S.size ∧ S.size ≤ 246 ∧ A.size = S.size ∧ c % (S.size : Int) = (k : Int) ∧ k < S.size ∧
      (∀ w, Calls Try.prog 16 #[.string A, .int .i64 (k : Int)] w fun x w' => x = .returned (.string T) ∧ Drawn0 w w') ∧
      ((k + 9 = S.size ∧ ∀ w, Calls Try.prog 20 #[.string T] w fun x w' => x = .returned (.tuple #[.agg #[.bool e, .int .u32 i, .bool r, .string d], .int .i64 S.size, .int .i64 0]) ∧ Below w.heap.size w w') ∨
        (∃ m x : Nat, x ≠ 0 ∧ k ≤ m ∧ m ≤ S.size ∧ ∀ w, Calls Try.prog 20 #[.string T] w fun y w' => y = .returned (.tuple #[.agg #[.bool false, .int .u32 0, .bool false, .string ⟨#[]⟩], .int .i64 m, .int .i64 x]) ∧ Below w.heap.size w w') ∨
        (k + 10 < S.size ∧ ∃ (e' : Bool) (n' : Nat) (r' : Bool) (d' : ByteArray) (m : Nat), ∀ w, Calls Try.prog 20 #[.string T] w fun y w' => y = .returned (.tuple #[.agg #[.bool e', .int .u32 n', .bool r', .string d'], .int .i64 m, .int .i64 0]) ∧ Below w.heap.size w w')) := by
  have hn := ok_lt hk hi
  have hd := ok_len hk
  have hr := ok_rtr hk
  have hl := frame_len e i.toNat r d.data.toList hd
  have hcl := code_length e i.toNat r d.data.toList
  have hsz := codeF_size hk
  have hal : (ackF e i r d).size = (codeF e i r d).size := by rw [ackF_ok hk, codeF_size hk, B_size, hcl, List.length_append]; rfl
  obtain ⟨k, hk1, hk2⟩ : ∃ k : Nat, c % ((codeF e i r d).size : Int) = (k : Int) ∧ k < (codeF e i r d).size := by
    have h1 := Int.emod_nonneg c (show ((codeF e i r d).size : Int) ≠ 0 by omega)
    have h2 := Int.emod_lt_of_pos c (show (0 : Int) < ((codeF e i r d).size : Int) by omega)
    exact ⟨(c % ((codeF e i r d).size : Int)).toNat, by omega, by omega⟩
  have hAL : (stuff (sumL (bodyL e i.toNat r d.data.toList)) ++ ackT).length = (codeL e i.toNat r d.data.toList).length := by rw [hcl, List.length_append]; rfl
  have htl : (turn (stuff (sumL (bodyL e i.toNat r d.data.toList)) ++ ackT) k).length = (codeF e i r d).size := by rw [turn_length, hAL, hsz]
  refine ⟨codeF e i r d, ackF e i r d, B (turn (stuff (sumL (bodyL e i.toNat r d.data.toList)) ++ ackT) k), k, rfl, rfl, by omega, by omega, hal, hk1, hk2, ?_, ?_⟩
  · intro w
    refine Plug.ostinatoref1_Turn.calls _ _ _ w ?_
    unfold Plug.ostinatoref1_Turn.f turnI
    rw [if_pos (by omega), ackF_ok hk, bitsOf_B, if_pos (by rw [hAL]; omega), Int.toNat_natCast]
  · by_cases hx : (decodeL Rd.zero 0 (turn (stuff (sumL (bodyL e i.toNat r d.data.toList)) ++ ackT) k)).2.2 = 0
    · by_cases h10 : k + 10 < (codeF e i r d).size
      · right; right
        refine ⟨h10, ?_⟩
        have hq := fun w => dec_of (B (turn (stuff (sumL (bodyL e i.toNat r d.data.toList)) ++ ackT) k)) _ _ _ _ _ _ (by rw [B_size]; omega) rfl w
        rw [bitsOf_B, hx] at hq
        exact ⟨_, _, _, _, _, hq⟩
      · obtain ⟨j, rfl⟩ : ∃ j, k = (stuff (sumL (bodyL e i.toNat r d.data.toList))).length + j := ⟨k - (stuff (sumL (bodyL e i.toNat r d.data.toList))).length, by omega⟩
        rw [turn_right, dec_last hn hd hr] at hx
        by_cases h1 : j = 1
        · left
          subst h1
          refine ⟨by omega, ?_⟩
          refine dec_frame _ e i r d _ (by rw [B_size]; omega) hi ?_
          rw [bitsOf_B, turn_right, ack_back, hsz]
          have := dec_whole hn hd hr true []
          rw [List.append_nil] at this
          exact this
        · exfalso
          rw [ack_ten j (by omega) h1] at hx
          have := tail_bad (e, i.toNat, r, d.data.toList) false (stuff (sumL (bodyL e i.toNat r d.data.toList))).length j false (by omega) h1 (fun h => by cases h)
          rw [show (ackT.set j false) = (true :: false :: List.replicate 8 true).set j false from rfl, this] at hx
          cases hx
    · right; left
      have hfine : Rd.zero.fine ((turn (stuff (sumL (bodyL e i.toNat r d.data.toList)) ++ ackT) k).take k) := by
        rw [turn_take _ _ _ (Nat.le_refl _)]
        have h := dec_whole hn hd hr false []
        rw [List.append_nil] at h
        have h2 := dec_ok (stuff (sumL (bodyL e i.toNat r d.data.toList)) ++ (true :: false :: List.replicate 8 true)) Rd.zero 0 (by rw [h])
        rw [h] at h2
        exact h2.2.2 k (by show 0 + k < (codeL e i.toNat r d.data.toList).length; omega)
      have e0 := dec_fine _ ((turn (stuff (sumL (bodyL e i.toNat r d.data.toList)) ++ ackT) k).drop k) Rd.zero 0 hfine
      rw [List.take_append_drop, Nat.zero_add, List.length_take, Nat.min_eq_left (by omega)] at e0
      rw [e0] at hx
      obtain ⟨g1, g2, g3⟩ := dec_err _ _ _ hx
      rw [List.length_drop] at g3
      refine ⟨_, _, hx, g2, by omega, fun w => ?_⟩
      refine dec_bad _ _ _ (by rw [B_size]; omega) ?_ w
      rw [bitsOf_B, e0]
      exact Prod.ext g1 rfl
set_option maxRecDepth 100000 in
set_option maxHeartbeats 6400000 in
theorem one_calls (e1 : Bool) (i1 : Int) (r1 : Bool) (d1 : ByteArray) (c : Int) (w : World) (b1 : 0 ≤ i1 ∧ i1 < 4294967296) (hc : 0 ≤ c ∧ c ≤ 255) :
    Calls Try.prog 11 #[.agg #[.bool e1, .int .u32 i1, .bool r1, .string d1], .int .u8 c] w fun e w' => e = .returned (.bool true) ∧ Below w.heap.size w w' := by
  have HF := One.make w e1 i1 r1 d1
  have HC := hid hc
  obtain ⟨hc0, hc1⟩ := hc
  have HB1 := hid b1
  clear b1
  have HLE := hid (fun (W : World) => len_calls e1 i1 r1 d1 W HB1.out)
  have HAC := hid (fun (W : World) => acked_calls e1 i1 r1 d1 W HB1.out)
  have HZ := hid (codeF_zero e1 i1 r1 d1)
  have HBF := hid (fun (hk : okF e1 i1 r1 d1 = true) => one_facts hk HB1.out c HC.out)
  generalize hS : codeF e1 i1 r1 d1 = S at *
  generalize hA : ackF e1 i1 r1 d1 = A at *
  clear hS hA
  go_enter Try.func11, Try.ntmps11
  go_wp2_with fail
  refine (known_calls _).mono ?_
  rintro x w1 ⟨rfl, hb⟩
  have HF := HF.later hb
  clear hb
  generalize hg : w.heap.size = g at *
  have HG := hid hg
  clear hg
  obtain ⟨x0, x1, x2, x3⟩ := frame_res HF.fst
  go_wp2_with (first
    | (go_at_call 14; with_reducible refine (few_calls _ _ _ _ _).mono ?_; rintro x w2 ⟨rfl, hb⟩; have HF' := HF.later hb; clear HF hb x0 x1 x2 x3; have HF := HF'; clear HF'; obtain ⟨x0, x1, x2, x3⟩ := frame_res HF.fst)
    | (go_at_call 18; with_reducible refine (HLE.out _).mono ?_; rintro x w2 ⟨rfl, hb⟩; have HF' := HF.later hb; clear HF hb x0 x1 x2 x3; have HF := HF'; clear HF'; obtain ⟨x0, x1, x2, x3⟩ := frame_res HF.fst))
  all_goals try (go_ret; exact ⟨rfl, HF.below⟩)
  have hok : okF e1 i1 r1 d1 = true := by
    have h := ‹((S.size : Int) == 0) = false›
    cases hk : okF e1 i1 r1 d1
    · have := HZ.out.2 hk
      rw [this] at h
      cases h
    · rfl
  obtain ⟨S', A', T, k, rfl, rfl, s1, s2, s3, s4, s5, q1, q2⟩ := HBF.out hok
  have Q1 := hid q1
  have Q2 := hid q2
  have H0 := HF.fst
  have HB := HF.below
  clear q1 q2 hok HBF HZ HLE HF HC
  refine (HAC.out _).mono ?_
  rintro x w5 ⟨rfl, hb⟩
  have HB := HB.trans (hb.mono HB.size)
  have H0 := H0.below hb
  clear hb x0 x1 x2 x3
  have u0 : (0 : Int) ≤ (k : Int) := by omega
  have u1 : (k : Int) ≤ (S.size : Int) := by omega
  have u2 : (S.size : Int) ≠ 0 := by omega
  have u3 : (k : Int) ≤ 246 := by omega
  go_wp2_with fail
  refine (Q1.out _).mono ?_
  rintro x w6 ⟨rfl, hb⟩
  have HB := HB.trans (hb.below.mono HB.size)
  have H0 := H0.below hb.below
  clear hb
  rcases Q2.out with ⟨v, q⟩ | ⟨m, x, v0, v1, v2, q⟩ | ⟨v, e', n', r', d', m, q⟩
  · have Q := hid q
    clear q Q1 Q2
    go_wp2_with fail
    refine (Q.out _).mono ?_
    rintro y w7 ⟨rfl, hb⟩
    have HB := HB.trans (hb.mono HB.size)
    have HB := HB.alloc HB.size (.cells #[.bool e1, .int .u32 i1, .bool r1, .string d1] 24)
    have H9 := Blk.new w7 [.bool e1, .int .u32 i1, .bool r1, .string d1] 24
    have H0 := (H0.below hb).alloc (.cells #[.bool e1, .int .u32 i1, .bool r1, .string d1] 24)
    clear hb
    obtain ⟨x0, x1, x2, x3⟩ := frame_res H0
    obtain ⟨y0, y1, y2, y3⟩ := frame_res H9
    have v1 : ((k : Int) == (S.size : Int) - 9) = true := beq_iff_eq.2 (by omega)
    have v2 : ((k : Int) = (S.size : Int) - 9) = True := eq_true (by omega)
    go_wp2_with fail
    go_ret
    exact ⟨rfl, HB⟩
  · have Q := hid q
    clear q Q1 Q2
    go_wp2_with fail
    refine (Q.out _).mono ?_
    rintro y w7 ⟨rfl, hb⟩
    have HB := HB.trans (hb.mono HB.size)
    have HB := HB.alloc HB.size (.cells #[.bool false, .int .u32 0, .bool false, .string ⟨#[]⟩] 24)
    have H9 := Blk.new w7 [.bool false, .int .u32 0, .bool false, .string ⟨#[]⟩] 24
    have H0 := (H0.below hb).alloc (.cells #[.bool false, .int .u32 0, .bool false, .string ⟨#[]⟩] 24)
    clear hb
    obtain ⟨x0, x1, x2, x3⟩ := frame_res H0
    obtain ⟨y0, y1, y2, y3⟩ := frame_res H9
    have v3 : ((x : Int) == 0) = false := beq_eq_false_iff_ne.2 (by omega)
    have v4 : ((x : Int) = 0) = False := eq_false (by omega)
    have v5 : decide ((k : Int) - 6 ≤ (m : Int)) = true := decide_eq_true (by omega)
    have v6 : ((k : Int) - 6 ≤ (m : Int)) = True := eq_true (by omega)
    have v7 : decide ((m : Int) ≤ (S.size : Int)) = true := decide_eq_true (by omega)
    have v8 : ((m : Int) ≤ (S.size : Int)) = True := eq_true (by omega)
    go_wp2_with fail
    go_ret
    exact ⟨rfl, HB⟩
  · have Q := hid q
    clear q Q1 Q2
    go_wp2_with fail
    refine (Q.out _).mono ?_
    rintro y w7 ⟨rfl, hb⟩
    have HB := HB.trans (hb.mono HB.size)
    have HB := HB.alloc HB.size (.cells #[.bool e', .int .u32 n', .bool r', .string d'] 24)
    have H9 := Blk.new w7 [.bool e', .int .u32 n', .bool r', .string d'] 24
    have H0 := (H0.below hb).alloc (.cells #[.bool e', .int .u32 n', .bool r', .string d'] 24)
    clear hb
    obtain ⟨x0, x1, x2, x3⟩ := frame_res H0
    obtain ⟨y0, y1, y2, y3⟩ := frame_res H9
    have v1 : ((k : Int) == (S.size : Int) - 9) = false := beq_eq_false_iff_ne.2 (by omega)
    have v2 : ((k : Int) = (S.size : Int) - 9) = False := eq_false (by omega)
    have v3 : decide ((k : Int) < (S.size : Int) - 10) = true := decide_eq_true (by omega)
    have v4 : ((k : Int) < (S.size : Int) - 10) = True := eq_true (by omega)
    go_wp2_with fail
    go_ret
    exact ⟨rfl, HB⟩
theorem one_walk (e1 : Bool) (i1 : Int) (r1 : Bool) (d1 : ByteArray) (c : Int) (w : World) (b1 : (Lit.int .u32 i1).wf = true) (_ : d1.size ≤ 9223372036854775807) (hc : (Lit.int .u8 c).wf = true) :
    Calls Try.prog 11 #[.agg #[.bool e1, .int .u32 i1, .bool r1, .string d1], .int .u8 c] w fun e w' => e = .returned (.bool true) ∧ Below w.heap.size w w' :=
  one_calls e1 i1 r1 d1 c w (by have := bounds_u32 b1; omega) (by have := bounds_u8 hc; omega)
end Go.Proofs.Ytkdnldoebghclaa.CodeL
