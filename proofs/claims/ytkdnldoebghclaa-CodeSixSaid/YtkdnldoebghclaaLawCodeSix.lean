/- CodeSix (layer 4): six bits alike within a frame, up to its sum, are told at the sixth. Conditions: none beyond the types of the arguments; what is no frame is let pass. -/
import Derived.Test.YtkdnldoebghclaaCodeLaws
namespace Go.Proofs.Ytkdnldoebghclaa.CodeL
set_option linter.unusedVariables false
set_option linter.unusedSimpArgs false
open Go.Proofs.YtkdnldoebghclaaW.PrintWords
open Go Go.RowKit Go.Proofs.Ytkdnldoebghclaa.Lib Go.Proofs.Ytkdnldoebghclaa.Bits Go.Proofs.Ytkdnldoebghclaa.BitsW Go.Proofs.Ytkdnldoebghclaa.StuffW Go.Proofs.Ytkdnldoebghclaa.Frame Go.Proofs.Ytkdnldoebghclaa.FrameW Go.Proofs.Ytkdnldoebghclaa.Code Go.Proofs.Ytkdnldoebghclaa.CodeW Go.Proofs.YtkdnldoebghclaaW.PrintMore
attribute [local go_sem] max2_int min2_int max_two min_two
attribute [local go_sem high] eqA24

theorem six_facts {e : Bool} {i : Int} {r : Bool} {d : ByteArray} (hk : okF e i r d = true) (hi : 0 ≤ i ∧ i < 4294967296) (c : Int) (hc : 0 ≤ c ∧ c ≤ 255) :
    ∃ (S P L : ByteArray) (kk : Nat) (b : Bool), codeF e i r d = S ∧ 44 ≤ S.size ∧ S.size ≤ 246 ∧ c % ((S.size : Int) - 16) = (kk : Int) ∧ kk + 16 < S.size ∧ S.extract 0 (kk + 1) = P ∧ P.size = kk + 1 ∧
      S.extract kk (kk + 1) = L ∧ L.toList = [sg b] ∧
      (b = true → ∃ m x : Nat, (∀ w, Calls Try.prog 20 #[.string (P ++ ⟨#[48]⟩ ++ ⟨#[48]⟩ ++ ⟨#[48]⟩ ++ ⟨#[48]⟩ ++ ⟨#[48]⟩ ++ ⟨#[48]⟩)] w fun y w' => y = .returned (.tuple #[.agg #[.bool false, .int .u32 0, .bool false, .string ⟨#[]⟩], .int .i64 m, .int .i64 x]) ∧ Below w.heap.size w w') ∧
        (x = 20 ∧ m = kk + 6 ∨ x = 12 ∧ m ≤ kk + 6)) ∧
      (b = false → ∃ m x : Nat, (∀ w, Calls Try.prog 20 #[.string (P ++ ⟨#[49]⟩ ++ ⟨#[49]⟩ ++ ⟨#[49]⟩ ++ ⟨#[49]⟩ ++ ⟨#[49]⟩ ++ ⟨#[49]⟩)] w fun y w' => y = .returned (.tuple #[.agg #[.bool false, .int .u32 0, .bool false, .string ⟨#[]⟩], .int .i64 m, .int .i64 x]) ∧ Below w.heap.size w w') ∧
        (x = 20 ∧ m = kk + 6 ∨ x = 12 ∧ m ≤ kk + 6)) := by
  have hn := ok_lt hk hi
  have hd := ok_len hk
  have hr := ok_rtr hk
  have hl := frame_len e i.toNat r d.data.toList hd
  have hcl := code_length e i.toNat r d.data.toList
  have hsz := codeF_size hk
  obtain ⟨kk, hk1, hk2⟩ : ∃ kk : Nat, c % (((codeF e i r d).size : Int) - 16) = (kk : Int) ∧ kk + 16 < (codeF e i r d).size := by
    have h1 := Int.emod_nonneg c (show (((codeF e i r d).size : Int) - 16) ≠ 0 by omega)
    have h2 := Int.emod_lt_of_pos c (show (0 : Int) < (((codeF e i r d).size : Int) - 16) by omega)
    exact ⟨(c % (((codeF e i r d).size : Int) - 16)).toNat, by omega, by omega⟩
  have hkk : kk < (stuff (sumL (bodyL e i.toNat r d.data.toList))).length := by omega
  have hF := sumL_fr e i.toNat r d.data.toList hd hr
  generalize hW : stuff (sumL (bodyL e i.toNat r d.data.toList)) = W at *
  have hpre : (codeF e i r d).extract 0 (kk + 1) = B (W.take (kk + 1)) := by
    rw [codeF_ok hk, Facts.B_extract, List.drop_zero, Nat.sub_zero, code_app, hW, List.take_append_of_le_length (by omega)]
  have hone : (codeF e i r d).extract kk (kk + 1) = B [W[kk]] := by
    rw [codeF_ok hk, Facts.B_extract, code_app, hW, Nat.add_sub_cancel_left, List.drop_append_of_le_length (by omega), List.drop_eq_getElem_cons hkk]
    rfl
  have hps : (B (W.take (kk + 1))).size = kk + 1 := by rw [B_size, List.length_take]; omega
  have key : ∀ o : Bool, W[kk] = (!o) → ∃ m x : Nat, decodeL Rd.zero 0 (W.take (kk + 1) ++ List.replicate 6 o) = ((false, 0, false, []), m, x) ∧ (x = 20 ∧ m = kk + 6 ∨ x = 12 ∧ m ≤ kk + 6) := by
    intro o ho
    have hc6 : W[kk + 1 - 1]? = some (!o) := by rw [Nat.add_sub_cancel, List.getElem?_eq_getElem hkk, ho]
    rw [← hW] at hc6
    obtain ⟨m, hm, h⟩ := dec_six hF (kk + 1) (by omega) (by rw [hW]; omega) o hc6
    rw [hW] at h
    rcases h with h | h
    · exact ⟨_, _, h, .inl ⟨rfl, by omega⟩⟩
    · exact ⟨_, _, h, .inr ⟨rfl, by omega⟩⟩
  refine ⟨codeF e i r d, B (W.take (kk + 1)), B [W[kk]], kk, W[kk], rfl, by omega, by omega, hk1, hk2, hpre, hps, hone, by rw [Facts.B_list]; rfl, ?_, ?_⟩
  · intro hb
    obtain ⟨m, x, h1, h2⟩ := key false (by rw [hb]; rfl)
    refine ⟨m, x, fun w => ?_, h2⟩
    have e6 : B (W.take (kk + 1)) ++ ⟨#[48]⟩ ++ ⟨#[48]⟩ ++ ⟨#[48]⟩ ++ ⟨#[48]⟩ ++ ⟨#[48]⟩ ++ ⟨#[48]⟩ = B (W.take (kk + 1) ++ List.replicate 6 false) := by
      rw [show (⟨#[48]⟩ : ByteArray) = B [false] from rfl]
      simp only [B_append, List.append_assoc]
      rfl
    rw [e6]
    exact dec_bad _ m x (by rw [B_size, List.length_append, List.length_take, List.length_replicate]; omega) (by rw [bitsOf_B]; exact h1) w
  · intro hb
    obtain ⟨m, x, h1, h2⟩ := key true (by rw [hb]; rfl)
    refine ⟨m, x, fun w => ?_, h2⟩
    have e6 : B (W.take (kk + 1)) ++ ⟨#[49]⟩ ++ ⟨#[49]⟩ ++ ⟨#[49]⟩ ++ ⟨#[49]⟩ ++ ⟨#[49]⟩ ++ ⟨#[49]⟩ = B (W.take (kk + 1) ++ List.replicate 6 true) := by
      rw [show (⟨#[49]⟩ : ByteArray) = B [true] from rfl]
      simp only [B_append, List.append_assoc]
      rfl
    rw [e6]
    exact dec_bad _ m x (by rw [B_size, List.length_append, List.length_take, List.length_replicate]; omega) (by rw [bitsOf_B]; exact h1) w
set_option maxRecDepth 100000 in
set_option maxHeartbeats 6400000 in
theorem six_calls (e1 : Bool) (i1 : Int) (r1 : Bool) (d1 : ByteArray) (c : Int) (one : Bool) (w : World) (b1 : 0 ≤ i1 ∧ i1 < 4294967296) (hc : 0 ≤ c ∧ c ≤ 255) :
    Calls Try.prog 10 #[.agg #[.bool e1, .int .u32 i1, .bool r1, .string d1], .int .u8 c, .bool one] w fun e w' => e = .returned (.bool true) ∧ Below w.heap.size w w' := by
  have HF := One.make w e1 i1 r1 d1
  have HC := hid hc
  obtain ⟨hc0, hc1⟩ := hc
  have HB1 := hid b1
  clear b1
  have HLE := hid (fun (W : World) => len_calls e1 i1 r1 d1 W HB1.out)
  have HEN := hid (fun (W : World) => encode_calls e1 i1 r1 d1 W HB1.out)
  have HZ := hid (codeF_zero e1 i1 r1 d1)
  have HBF := hid (fun (hk : okF e1 i1 r1 d1 = true) => six_facts hk HB1.out c HC.out)
  generalize hS : codeF e1 i1 r1 d1 = S at *
  clear hS
  go_enter Try.func10, Try.ntmps10
  go_wp2_with fail
  refine (known_calls _).mono ?_
  rintro x w1 ⟨rfl, hb⟩
  have HF := HF.later hb
  clear hb
  generalize hg : w.heap.size = g at *
  have HG := hid hg
  clear hg
  obtain ⟨x0, x1, x2, x3⟩ := frame_res HF.fst
  go_wp2_with (first
    | (go_at_call 14; with_reducible refine (few_calls _ _ _ _ _).mono ?_; rintro x w2 ⟨rfl, hb⟩; have HF' := HF.later hb; clear HF hb x0 x1 x2 x3; have HF := HF'; clear HF'; obtain ⟨x0, x1, x2, x3⟩ := frame_res HF.fst)
    | (go_at_call 18; with_reducible refine (HLE.out _).mono ?_; rintro x w2 ⟨rfl, hb⟩; have HF' := HF.later hb; clear HF hb x0 x1 x2 x3; have HF := HF'; clear HF'; obtain ⟨x0, x1, x2, x3⟩ := frame_res HF.fst))
  all_goals try (go_ret; exact ⟨rfl, HF.below⟩)
  have hok : okF e1 i1 r1 d1 = true := by
    have h := ‹((S.size : Int) == 0) = false›
    cases hk : okF e1 i1 r1 d1
    · have := HZ.out.2 hk
      rw [this] at h
      cases h
    · rfl
  obtain ⟨S', P, L, kk, b, rfl, s1, s2, s3, s4, s5, s6, s7, s8, q1, q2⟩ := HBF.out hok
  have Q1 := hid q1
  have Q2 := hid q2
  have H0 := HF.fst
  have HB := HF.below
  clear q1 q2 hok HBF HZ HLE HF HC
  refine (HEN.out _).mono ?_
  rintro x w5 ⟨rfl, hb⟩
  have HB := HB.trans (hb.mono HB.size)
  clear hb x0 x1 x2 x3 H0
  have u0 : (0 : Int) ≤ (kk : Int) := by omega
  have u1 : (kk : Int) + 1 ≤ (S.size : Int) := by omega
  have u2 : (S.size : Int) - 16 ≠ 0 := by omega
  have u3 : (kk : Int) ≤ 246 := by omega
  have u4 : (P.size : Int) ≤ 246 := by omega
  have u5 : (0 : Int) ≤ (kk : Int) + 1 := by omega
  have u6 : (kk : Int) ≤ (kk : Int) + 1 := by omega
  cases one <;> cases b
  · clear Q1 Q2
    go_wp2_with fail
    go_ret
    exact ⟨rfl, HB⟩
  · obtain ⟨m, x, q, hm⟩ := Q1.out rfl
    have Q := hid q
    clear q Q1 Q2
    have HM := hid hm
    clear hm
    go_wp2_with fail
    refine (Q.out _).mono ?_
    rintro y w7 ⟨rfl, hb⟩
    have HB := HB.trans (hb.mono HB.size)
    have HB := HB.alloc HB.size (.cells #[.bool false, .int .u32 0, .bool false, .string ⟨#[]⟩] 24)
    clear hb
    rcases HM.out with ⟨rfl, rfl⟩ | ⟨rfl, hm⟩
    · go_wp2_with fail
      go_ret
      exact ⟨rfl, HB⟩
    · have v1 : (m : Int) ≤ (kk : Int) + 6 := by omega
      have v2 : (0 : Int) ≤ (m : Int) := by omega
      have v3 : decide ((m : Int) ≤ (kk : Int) + 1 + 5) = true := decide_eq_true (by omega)
      go_wp2_with fail
      go_ret
      exact ⟨rfl, HB⟩
  · obtain ⟨m, x, q, hm⟩ := Q2.out rfl
    have Q := hid q
    clear q Q1 Q2
    have HM := hid hm
    clear hm
    go_wp2_with fail
    refine (Q.out _).mono ?_
    rintro y w7 ⟨rfl, hb⟩
    have HB := HB.trans (hb.mono HB.size)
    have HB := HB.alloc HB.size (.cells #[.bool false, .int .u32 0, .bool false, .string ⟨#[]⟩] 24)
    clear hb
    rcases HM.out with ⟨rfl, rfl⟩ | ⟨rfl, hm⟩
    · go_wp2_with fail
      go_ret
      exact ⟨rfl, HB⟩
    · have v1 : (m : Int) ≤ (kk : Int) + 6 := by omega
      have v2 : (0 : Int) ≤ (m : Int) := by omega
      have v3 : decide ((m : Int) ≤ (kk : Int) + 1 + 5) = true := decide_eq_true (by omega)
      go_wp2_with fail
      go_ret
      exact ⟨rfl, HB⟩
  · clear Q1 Q2
    go_wp2_with fail
    go_ret
    exact ⟨rfl, HB⟩
theorem six_walk (e1 : Bool) (i1 : Int) (r1 : Bool) (d1 : ByteArray) (c : Int) (one : Bool) (w : World) (b1 : (Lit.int .u32 i1).wf = true) (_ : d1.size ≤ 9223372036854775807) (hc : (Lit.int .u8 c).wf = true) :
    Calls Try.prog 10 #[.agg #[.bool e1, .int .u32 i1, .bool r1, .string d1], .int .u8 c, .bool one] w fun e w' => e = .returned (.bool true) ∧ Below w.heap.size w w' :=
  six_calls e1 i1 r1 d1 c one w (by have := bounds_u32 b1; omega) (by have := bounds_u8 hc; omega)
end Go.Proofs.Ytkdnldoebghclaa.CodeL
