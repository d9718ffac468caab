/- CodeSums (layer 4): with another sum, its bits laid as they must be, it is told at the third bit behind. Conditions: none beyond the types of the arguments; what is no frame is let pass. -/
import Derived.Test.YtkdnldoebghclaaCodeLaws
import Derived.Test.YtkdnldoebghclaaRefD
namespace Go.Proofs.Ytkdnldoebghclaa.CodeL
set_option linter.unusedVariables false
set_option linter.unusedSimpArgs false
open Go.Proofs.YtkdnldoebghclaaW.PrintWords
open Go Go.RowKit Go.Proofs.Ytkdnldoebghclaa.Lib Go.Proofs.Ytkdnldoebghclaa.Bits Go.Proofs.Ytkdnldoebghclaa.BitsW Go.Proofs.Ytkdnldoebghclaa.StuffW Go.Proofs.Ytkdnldoebghclaa.Frame Go.Proofs.Ytkdnldoebghclaa.FrameW Go.Proofs.Ytkdnldoebghclaa.Code Go.Proofs.Ytkdnldoebghclaa.CodeW Go.Proofs.Ytkdnldoebghclaa.RefW Go.Proofs.YtkdnldoebghclaaW.PrintMore
attribute [local go_sem] max2_int min2_int max_two min_two
attribute [local go_sem high] eqA24

theorem sums_facts {e : Bool} {i : Int} {r : Bool} {d : ByteArray} (hk : okF e i r d = true) (hi : 0 ≤ i ∧ i < 4294967296) (D : Nat) (hD : D < 32768) (hD0 : D ≠ 0) :
    ∃ (P O SS : ByteArray) (C : Nat), P.size ≤ 103 ∧ O.size = 15 ∧ SS.size ≤ 300 ∧ C < 32768 ∧
      (∀ w, Calls Try.prog 23 #[.agg #[.bool e, .int .u32 i, .bool r, .string d]] w fun x w' => x = .returned (.string P) ∧ Below w.heap.size w w') ∧
      (∀ w, Calls Try.prog 26 #[.string P] w fun x w' => x = .returned (.int .u16 (C : Int)) ∧ Below w.heap.size w w') ∧
      (∀ w, Calls Try.prog 25 #[.int .u64 ((C ^^^ D : Nat) : Int), .int .i64 15] w fun x w' => x = .returned (.string O) ∧ Below w.heap.size w w') ∧
      (∀ w, Calls Try.prog 24 #[.string (P ++ O)] w fun x w' => x = .returned (.string SS) ∧ Below w.heap.size w w') ∧
      (∀ w, Calls Try.prog 20 #[.string (SS ++ ⟨#[49, 48, 49, 49, 49, 49, 49, 49, 49, 49]⟩)] w fun x w' => x = .returned (.tuple #[.agg #[.bool false, .int .u32 0, .bool false, .string ⟨#[]⟩], .int .i64 ((SS.size : Int) + 2), .int .i64 40]) ∧ Below w.heap.size w w') := by
  have hd := ok_len hk
  have hr := ok_rtr hk
  have hbl := bodyL_length e i.toNat r d.data.toList
  have hbl2 : (bodyL e i.toNat r d.data.toList).length ≤ 103 := by rw [hbl]; split <;> omega
  have hF := fr_body e i.toNat r d.data.toList (ofN (crcN (bodyL e i.toNat r d.data.toList) ^^^ D) 15) (ofN_length _ _) hd hr
  have hcl := crcN_lt (bodyL e i.toNat r d.data.toList)
  have hx : crcN (bodyL e i.toNat r d.data.toList) ^^^ D < 2 ^ 15 := Nat.xor_lt_two_pow (n := 15) hcl hD
  have hcrc : crcN (bodyL e i.toNat r d.data.toList ++ ofN (crcN (bodyL e i.toNat r d.data.toList) ^^^ D) 15) ≠ 0 := by
    intro h
    have := (crc_split _ _ (ofN_length _ _)).1 h
    rw [numN_ofN, Nat.mod_eq_of_lt hx] at this
    have h2 := congrArg (fun z => crcN (bodyL e i.toNat r d.data.toList) ^^^ z) this
    simp only [xor_cancel, Nat.xor_self] at h2
    exact hD0 h2
  have hB : Plug.ostinatoref3_Body.f e i r d = some (B (bodyL e i.toNat r d.data.toList)) := by unfold Plug.ostinatoref3_Body.f bodyF; rw [if_pos hi, if_pos hk]
  have hst := Facts.stuff_len (bodyL e i.toNat r d.data.toList ++ ofN (crcN (bodyL e i.toNat r d.data.toList) ^^^ D) 15)
  rw [List.length_append, ofN_length] at hst
  refine ⟨B (bodyL e i.toNat r d.data.toList), B (ofN (crcN (bodyL e i.toNat r d.data.toList) ^^^ D) 15), B (stuff (bodyL e i.toNat r d.data.toList ++ ofN (crcN (bodyL e i.toNat r d.data.toList) ^^^ D) 15)), crcN (bodyL e i.toNat r d.data.toList), by rw [B_size]; exact hbl2, by rw [B_size, ofN_length], by rw [B_size]; omega, hcl, ?_, ?_, ?_, ?_, ?_⟩
  · intro w; exact Plug.ostinatoref3_Body.calls e i r d _ w hB
  · intro w
    have h := Plug.ostinatoref1_CRC.calls (B (bodyL e i.toNat r d.data.toList)) _ w (by unfold Plug.ostinatoref1_CRC.f; rw [if_pos (by rw [B_size]; omega)])
    rw [bitsOf_B] at h
    exact h.mono fun x w' ⟨h1, h2⟩ => ⟨h1, h2.below⟩
  · intro w
    exact Plug.ostinatoref1_Of.calls _ _ _ w (by
      unfold Plug.ostinatoref1_Of.f
      rw [if_pos ⟨by omega, by have : crcN (bodyL e i.toNat r d.data.toList) ^^^ D < 32768 := hx; omega⟩, Int.toNat_natCast]
      rfl)
  · intro w
    have h := rstuff_calls (B (bodyL e i.toNat r d.data.toList) ++ B (ofN (crcN (bodyL e i.toNat r d.data.toList) ^^^ D) 15)) (by rw [ByteArray.size_append, B_size, B_size, ofN_length]; omega) w
    rw [B_append, bitsOf_B] at h
    rw [B_append]
    exact h
  · intro w
    have h := dec_bad (B (stuff (bodyL e i.toNat r d.data.toList ++ ofN (crcN (bodyL e i.toNat r d.data.toList) ^^^ D) 15)) ++ ⟨#[49, 48, 49, 49, 49, 49, 49, 49, 49, 49]⟩) ((stuff (bodyL e i.toNat r d.data.toList ++ ofN (crcN (bodyL e i.toNat r d.data.toList) ^^^ D) 15)).length + 2) 40 (by rw [ByteArray.size_append, B_size]; show _ + 10 ≤ 1000; omega) (by
      rw [bits_app, bitsOf_B, dec_stuff hF, show decide (crcN (bodyL e i.toNat r d.data.toList ++ ofN (crcN (bodyL e i.toNat r d.data.toList) ^^^ D) 15) ≠ 0) = true from decide_eq_true hcrc]
      exact tail_sum _ _ false _) w
    rw [B_size]
    exact h
theorem and_low (x : Int) (h : 0 ≤ x ∧ x < 65536) : ∃ D : Nat, Go.bits .and .u16 x 32767 = (D : Int) ∧ D < 32768 := by
  have := (u16_ops x.toNat 32767 (by omega) (by decide)).1
  rw [show ((x.toNat : Nat) : Int) = x by omega] at this
  refine ⟨x.toNat &&& 32767, this, ?_⟩
  have := Nat.and_le_right (n := x.toNat) (m := 32767)
  omega
set_option maxRecDepth 100000 in
set_option maxHeartbeats 6400000 in
theorem sums_calls (e1 : Bool) (i1 : Int) (r1 : Bool) (d1 : ByteArray) (by_ : Int) (w : World) (b1 : 0 ≤ i1 ∧ i1 < 4294967296) (b2 : 0 ≤ by_ ∧ by_ < 65536) :
    Calls Try.prog 8 #[.agg #[.bool e1, .int .u32 i1, .bool r1, .string d1], .int .u16 by_] w fun e w' => e = .returned (.bool true) ∧ Below w.heap.size w w' := by
  have HF := One.make w e1 i1 r1 d1
  obtain ⟨D, hD, hDl⟩ := and_low by_ b2
  have HIS := hid (fun (W : World) => Plug.ostinatoref3_Is.calls e1 i1 r1 d1 _ W rfl)
  have HSF := hid (fun (hk : okF e1 i1 r1 d1 = true) (h0 : D ≠ 0) => sums_facts hk b1 D hDl h0)
  clear b1 b2
  go_enter Try.func8, Try.ntmps8
  go_wp2_with fail
  refine (known_calls _).mono ?_
  rintro x w1 ⟨rfl, hb⟩
  have HF := HF.later hb
  clear hb
  generalize hg : w.heap.size = g at *
  have HG := hid hg
  clear hg
  obtain ⟨x0, x1, x2, x3⟩ := frame_res HF.fst
  by_cases hD0 : D = 0
  · subst hD0
    go_wp2_with (first
      | (go_at_call 14; with_reducible refine (few_calls _ _ _ _ _).mono ?_; rintro x w2 ⟨rfl, hb⟩; have HF' := HF.later hb; clear HF hb x0 x1 x2 x3; have HF := HF'; clear HF'; obtain ⟨x0, x1, x2, x3⟩ := frame_res HF.fst)
      | (go_at_call 22; with_reducible refine (HIS.out _).mono ?_; rintro x w2 ⟨rfl, hb⟩; have HF' := HF.later hb; clear HF hb x0 x1 x2 x3; have HF := HF'; clear HF'; obtain ⟨x0, x1, x2, x3⟩ := frame_res HF.fst))
    all_goals (go_ret; exact ⟨rfl, HF.below⟩)
  · have d1' : ((D : Int) == 0) = false := beq_eq_false_iff_ne.2 (by omega)
    have d2' : (D = 0) = False := eq_false hD0
    cases hk : okF e1 i1 r1 d1
    · rw [hk] at HIS
      go_wp2_with (first
        | (go_at_call 14; with_reducible refine (few_calls _ _ _ _ _).mono ?_; rintro x w2 ⟨rfl, hb⟩; have HF' := HF.later hb; clear HF hb x0 x1 x2 x3; have HF := HF'; clear HF'; obtain ⟨x0, x1, x2, x3⟩ := frame_res HF.fst)
        | (go_at_call 22; with_reducible refine (HIS.out _).mono ?_; rintro x w2 ⟨rfl, hb⟩; have HF' := HF.later hb; clear HF hb x0 x1 x2 x3; have HF := HF'; clear HF'; obtain ⟨x0, x1, x2, x3⟩ := frame_res HF.fst))
      all_goals (go_ret; exact ⟨rfl, HF.below⟩)
    · rw [hk] at HIS
      have hd8 := FrameEq.okF_size _ _ _ _ hk
      have hd20 : ((d1.size : Int) ≤ 20) = True := eq_true (by omega)
      have hd21 : decide ((d1.size : Int) ≤ 20) = true := decide_eq_true (by omega)
      obtain ⟨P, O, SS, C, p1, p2, p3, p4, q1, q2, q3, q4, q5⟩ := HSF.out hk hD0
      have Q1 := hid q1
      have Q2 := hid q2
      have Q3 := hid q3
      have Q4 := hid q4
      have Q5 := hid q5
      have hx : C ^^^ D < 2 ^ 15 := Nat.xor_lt_two_pow (n := 15) p4 hDl
      have hxor : Go.bits .xor .u16 (C : Int) (D : Int) = ((C ^^^ D : Nat) : Int) := (u16_ops C D (by omega) (by omega)).2.2
      have hw64 : IntKind.u64.wrap ((C ^^^ D : Nat) : Int) = ((C ^^^ D : Nat) : Int) := wrap_u64 _ (by omega)
      have z1 : (9223372036854775807 < P.size + O.size) = False := eq_false (by omega)
      have z2 : (9223372036854775807 < SS.size + 10) = False := eq_false (by omega)
      have z3 : (9223372036854775807 < P.size + 15) = False := eq_false (by omega)
      clear q1 q2 q3 q4 q5 HSF hk hd8
      generalize C ^^^ D = X at *
      go_wp2_with (first
        | (go_at_call 14; with_reducible refine (few_calls _ _ _ _ _).mono ?_; rintro x w2 ⟨rfl, hb⟩; have HF' := HF.later hb; clear HF hb x0 x1 x2 x3; have HF := HF'; clear HF'; obtain ⟨x0, x1, x2, x3⟩ := frame_res HF.fst)
        | (go_at_call 22; with_reducible refine (HIS.out _).mono ?_; rintro x w2 ⟨rfl, hb⟩; have HF' := HF.later hb; clear HF hb x0 x1 x2 x3; have HF := HF'; clear HF'; obtain ⟨x0, x1, x2, x3⟩ := frame_res HF.fst)
        | (go_at_call 23; with_reducible refine (Q1.out _).mono ?_; rintro x w2 ⟨rfl, hb⟩; have HF' := HF.later hb; clear HF hb x0 x1 x2 x3; have HF := HF'; clear HF'; obtain ⟨x0, x1, x2, x3⟩ := frame_res HF.fst)
        | (go_at_call 26; with_reducible refine (Q2.out _).mono ?_; rintro x w2 ⟨rfl, hb⟩; have HF' := HF.later hb; clear HF hb x0 x1 x2 x3; have HF := HF'; clear HF'; obtain ⟨x0, x1, x2, x3⟩ := frame_res HF.fst)
        | (go_at_call 25; with_reducible refine (Q3.out _).mono ?_; rintro x w2 ⟨rfl, hb⟩; have HF' := HF.later hb; clear HF hb x0 x1 x2 x3; have HF := HF'; clear HF'; obtain ⟨x0, x1, x2, x3⟩ := frame_res HF.fst)
        | (go_at_call 24; with_reducible refine (Q4.out _).mono ?_; rintro x w2 ⟨rfl, hb⟩; have HF' := HF.later hb; clear HF hb x0 x1 x2 x3; have HF := HF'; clear HF'; obtain ⟨x0, x1, x2, x3⟩ := frame_res HF.fst))
      refine (Q5.out _).mono ?_
      rintro y w7 ⟨rfl, hb⟩
      have HB := HF.below.trans (hb.mono HF.below.size)
      have HB := HB.alloc HB.size (.cells #[.bool false, .int .u32 0, .bool false, .string ⟨#[]⟩] 24)
      clear hb
      go_wp2_with fail
      go_ret
      exact ⟨rfl, HB⟩
theorem sums_walk (e1 : Bool) (i1 : Int) (r1 : Bool) (d1 : ByteArray) (by_ : Int) (w : World) (b1 : (Lit.int .u32 i1).wf = true) (_ : d1.size ≤ 9223372036854775807) (b2 : (Lit.int .u16 by_).wf = true) :
    Calls Try.prog 8 #[.agg #[.bool e1, .int .u32 i1, .bool r1, .string d1], .int .u16 by_] w fun e w' => e = .returned (.bool true) ∧ Below w.heap.size w w' :=
  sums_calls e1 i1 r1 d1 by_ w (by have := bounds_u32 b1; omega) (by have := bounds_u16 b2; omega)
end Go.Proofs.Ytkdnldoebghclaa.CodeL
