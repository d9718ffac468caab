/- CodeFront (layer 4): frames alike up to some field have the same first bits on the wire, and the same bits only if they are the same. Conditions: none beyond the types of the arguments; what is no frame is let pass. -/
import Derived.Test.YtkdnldoebghclaaCodeLaws
import Derived.Test.YtkdnldoebghclaaRefS
namespace Go.Proofs.Ytkdnldoebghclaa.CodeL
set_option linter.unusedVariables false
set_option linter.unusedSimpArgs false
open Go.Proofs.YtkdnldoebghclaaW.PrintWords
open Go Go.RowKit Go.Proofs.Ytkdnldoebghclaa.Lib Go.Proofs.Ytkdnldoebghclaa.Bits Go.Proofs.Ytkdnldoebghclaa.BitsW Go.Proofs.Ytkdnldoebghclaa.StuffW Go.Proofs.Ytkdnldoebghclaa.Frame Go.Proofs.Ytkdnldoebghclaa.FrameW Go.Proofs.Ytkdnldoebghclaa.Code Go.Proofs.Ytkdnldoebghclaa.CodeW Go.Proofs.Ytkdnldoebghclaa.RefW Go.Proofs.YtkdnldoebghclaaW.PrintMore
attribute [local go_sem] max2_int min2_int max_two min_two
attribute [local go_sem high] eqA24

theorem stuff_front (a x : List Bool) : ∃ y, stuff (a ++ x) = stuff a ++ y := ⟨_, stuffL_append a x 0 false⟩
theorem front_facts {e : Bool} {i : Int} {r : Bool} {d d' : ByteArray} (hk : okF e i r d = true) (hk' : okF e i r d' = true) (hi : 0 ≤ i ∧ i < 4294967296) :
    ∃ (S S' P Q Z Y : ByteArray), codeF e i r d = S ∧ codeF e i r d' = S' ∧ arbF e i r d = Z ∧ Z.size ≤ 33 ∧ Y.size ≤ 66 ∧ Y.size ≤ S.size ∧ Y.size ≤ S'.size ∧ 44 ≤ S.size ∧ S.size ≤ 246 ∧ 44 ≤ S'.size ∧ S'.size ≤ 246 ∧
      (∀ w, Calls Try.prog 24 #[.string Z] w fun x w' => x = .returned (.string Y) ∧ Below w.heap.size w w') ∧
      S.extract 0 Y.size = P ∧ S'.extract 0 Y.size = P ∧ S.extract (S.size - 10) S.size = Q ∧ S'.extract (S'.size - 10) S'.size = Q ∧ (S.toList == S'.toList) = (d.toList == d'.toList) := by
  have hd := ok_len hk
  have hd' := ok_len hk'
  have hl := frame_len e i.toNat r d.data.toList hd
  have hl' := frame_len e i.toNat r d'.data.toList hd'
  have hcl := code_length e i.toNat r d.data.toList
  have hcl' := code_length e i.toNat r d'.data.toList
  have hsz := codeF_size hk
  have hsz' := codeF_size hk'
  have hal := arbL_length e i.toNat r
  have hst := Facts.stuff_len (arbL e i.toNat r)
  obtain ⟨y, hy⟩ := stuff_front (arbL e i.toNat r) (((if e then [false, false] else [false]) ++ (ofN d.data.toList.length 4 ++ fromB d.data.toList)) ++ ofN (crcN (bodyL e i.toNat r d.data.toList)) 15)
  obtain ⟨y', hy'⟩ := stuff_front (arbL e i.toNat r) (((if e then [false, false] else [false]) ++ (ofN d'.data.toList.length 4 ++ fromB d'.data.toList)) ++ ofN (crcN (bodyL e i.toNat r d'.data.toList)) 15)
  have hs : stuff (sumL (bodyL e i.toNat r d.data.toList)) = stuff (arbL e i.toNat r) ++ y := by
    rw [← hy]; unfold sumL; rw [show bodyL e i.toNat r d.data.toList = arbL e i.toNat r ++ ((if e then [false, false] else [false]) ++ (ofN d.data.toList.length 4 ++ fromB d.data.toList)) from rfl, List.append_assoc]
  have hs' : stuff (sumL (bodyL e i.toNat r d'.data.toList)) = stuff (arbL e i.toNat r) ++ y' := by
    rw [← hy']; unfold sumL; rw [show bodyL e i.toNat r d'.data.toList = arbL e i.toNat r ++ ((if e then [false, false] else [false]) ++ (ofN d'.data.toList.length 4 ++ fromB d'.data.toList)) from rfl, List.append_assoc]
  have hYs : (B (stuff (arbL e i.toNat r))).size = (stuff (arbL e i.toNat r)).length := B_size _
  have hle : (stuff (arbL e i.toNat r)).length ≤ (codeL e i.toNat r d.data.toList).length := by rw [hcl, hs, List.length_append]; omega
  have hle' : (stuff (arbL e i.toNat r)).length ≤ (codeL e i.toNat r d'.data.toList).length := by rw [hcl', hs', List.length_append]; omega
  have hcut : ∀ (x : List UInt8) (z : List Bool), stuff (sumL (bodyL e i.toNat r x)) = stuff (arbL e i.toNat r) ++ z → (B (codeL e i.toNat r x)).extract 0 (stuff (arbL e i.toNat r)).length = B (stuff (arbL e i.toNat r)) := by
    intro x z hz
    rw [Facts.B_extract, List.drop_zero, Nat.sub_zero, code_app, hz, List.append_assoc, List.take_left]
  have hten : ∀ (x : List UInt8), (B (codeL e i.toNat r x)).extract ((codeL e i.toNat r x).length - 10) (codeL e i.toNat r x).length = B (List.replicate 10 true) := by
    intro x
    have hcx := code_length e i.toNat r x
    rw [Facts.B_extract, show (codeL e i.toNat r x).length - 10 = (stuff (sumL (bodyL e i.toNat r x))).length by omega, code_app, List.drop_left, List.take_of_length_le (by rw [List.length_append, List.length_replicate]; omega)]
  refine ⟨codeF e i r d, codeF e i r d', B (stuff (arbL e i.toNat r)), B (List.replicate 10 true), B (arbL e i.toNat r), B (stuff (arbL e i.toNat r)), rfl, rfl, FrameEq.arbF_ok hk, ?_, ?_, ?_, ?_, by omega, by omega, by omega, by omega, ?_, ?_, ?_, ?_, ?_, ?_⟩
  · rw [B_size, hal]; split <;> omega
  · rw [hYs]; rw [hal] at hst; split at hst <;> omega
  · rw [hYs, hsz]; exact hle
  · rw [hYs, hsz']; exact hle'
  · intro w
    have h := rstuff_calls (B (arbL e i.toNat r)) (by rw [B_size, hal]; split <;> omega) w
    rw [bitsOf_B] at h
    exact h
  · rw [hYs, codeF_ok hk]; exact hcut _ _ hs
  · rw [hYs, codeF_ok hk']; exact hcut _ _ hs'
  · rw [hsz, codeF_ok hk]; exact hten _
  · rw [hsz', codeF_ok hk']; exact hten _
  · rw [codeF_ok hk, codeF_ok hk', Facts.B_list, Facts.B_list, Bool.eq_iff_iff, beq_iff_eq, beq_iff_eq, Facts.map_sg_inj]
    constructor
    · intro h
      have h1 := dec_whole (ok_lt hk hi) hd (ok_rtr hk) true []
      have h2 := dec_whole (ok_lt hk' hi) hd' (ok_rtr hk') true []
      rw [List.append_nil] at h1 h2
      have e1 : stuff (sumL (bodyL e i.toNat r d.data.toList)) ++ (true :: true :: List.replicate 8 true) = codeL e i.toNat r d.data.toList := rfl
      have e2 : stuff (sumL (bodyL e i.toNat r d'.data.toList)) ++ (true :: true :: List.replicate 8 true) = codeL e i.toNat r d'.data.toList := rfl
      rw [e1, h, ← e2, h2] at h1
      have h3 := congrArg (fun z => z.1.2.2.2) h1
      simp only at h3
      rw [Go.ByteArray.toList_eq, Go.ByteArray.toList_eq, h3]
    · intro h
      rw [Go.ByteArray.toList_eq, Go.ByteArray.toList_eq] at h
      rw [h]
/-- Two frames in memory. -/
structure Pair (w0 w : World) (g g1 : Nat) (e1 : Bool) (i1 : Int) (r1 : Bool) (d1 d2 : ByteArray) : Prop where
  fst : Blk w g 24 [.bool e1, .int .u32 i1, .bool r1, .string d1]
  snd : Blk w g1 24 [.bool e1, .int .u32 i1, .bool r1, .string d2]
  below : Below w0.heap.size w0 w
theorem Pair.later {w0 w w' : World} {g g1 : Nat} {e1 : Bool} {i1 : Int} {r1 : Bool} {d1 d2 : ByteArray} (h : Pair w0 w g g1 e1 i1 r1 d1 d2) (hb : Below w.heap.size w w') : Pair w0 w' g g1 e1 i1 r1 d1 d2 :=
  ⟨h.fst.below hb, h.snd.below hb, h.below.trans (hb.mono h.below.size)⟩
theorem Pair.drew {w0 w : World} {g g1 : Nat} {e1 : Bool} {i1 : Int} {r1 : Bool} {d1 d2 : ByteArray} (h : Pair w0 w g g1 e1 i1 r1 d1 d2) : Pair w0 w.drew g g1 e1 i1 r1 d1 d2 := ⟨h.fst.drew, h.snd.drew, h.below.drew⟩
set_option maxRecDepth 100000 in
set_option maxHeartbeats 6400000 in
theorem front_calls (e1 : Bool) (i1 : Int) (r1 : Bool) (d1 d2 : ByteArray) (w : World) (b1 : 0 ≤ i1 ∧ i1 < 4294967296) :
    Calls Try.prog 12 #[.agg #[.bool e1, .int .u32 i1, .bool r1, .string d1], .string d2] w fun e w' => e = .returned (.bool true) ∧ Below w.heap.size w w' := by
  have HF := One.make w e1 i1 r1 d1
  have HI1 := hid (fun (W : World) => Plug.ostinatoref3_Is.calls e1 i1 r1 d1 _ W rfl)
  have HI2 := hid (fun (W : World) => Plug.ostinatoref3_Is.calls e1 i1 r1 d2 _ W rfl)
  have HE1 := hid (fun (W : World) => encode_calls e1 i1 r1 d1 W b1)
  have HE2 := hid (fun (W : World) => encode_calls e1 i1 r1 d2 W b1)
  have HAR := hid (fun (W : World) => Plug.ostinatoref3_Arb.calls e1 i1 r1 d1 _ W (by unfold Plug.ostinatoref3_Arb.f; rw [if_pos b1]))
  have HFF := hid (fun (hk : okF e1 i1 r1 d1 = true) (hk' : okF e1 i1 r1 d2 = true) => front_facts hk hk' b1)
  clear b1
  go_enter Try.func12, Try.ntmps12
  go_wp2_with fail
  refine (known_calls _).mono ?_
  rintro x w1 ⟨rfl, hb⟩
  have HF := HF.later hb
  clear hb
  generalize hg : w.heap.size = g at *
  have HG := hid hg
  clear hg
  obtain ⟨x0, x1, x2, x3⟩ := frame_res HF.fst
  have hP : Pair w (w1.alloc (.cells #[.bool e1, .int .u32 i1, .bool r1, .string d2] 24)) g w1.heap.size e1 i1 r1 d1 d2 :=
    ⟨HF.fst.alloc _, Blk.new w1 _ _, HF.below.alloc HF.below.size _⟩
  obtain ⟨y0, y1, y2, y3⟩ := frame_res hP.snd
  obtain ⟨x0, x1, x2, x3⟩ := frame_res hP.fst
  have HP := hid hP
  clear hP HF
  go_wp2_with (first
    | (go_at_call 14; with_reducible refine (few_calls _ _ _ _ _).mono ?_; rintro x w2 ⟨rfl, hb⟩; have HP' := hid (HP.out.later hb); clear HP hb x0 x1 x2 x3 y0 y1 y2 y3; have HP := HP'; clear HP'; obtain ⟨y0, y1, y2, y3⟩ := frame_res HP.out.snd; obtain ⟨x0, x1, x2, x3⟩ := frame_res HP.out.fst)
    | (go_at_call 22; (first | with_reducible refine (HI1.out _).mono ?_ | with_reducible refine (HI2.out _).mono ?_); rintro x w2 ⟨rfl, hb⟩; have HP' := hid (HP.out.later hb); clear HP hb x0 x1 x2 x3 y0 y1 y2 y3; have HP := HP'; clear HP'; obtain ⟨y0, y1, y2, y3⟩ := frame_res HP.out.snd; obtain ⟨x0, x1, x2, x3⟩ := frame_res HP.out.fst))
  all_goals try (go_ret; exact ⟨rfl, HP.out.below⟩)
  have k1 : okF e1 i1 r1 d1 = true := by
    cases hk : okF e1 i1 r1 d1
    · simp_all
    · rfl
  have k2 : okF e1 i1 r1 d2 = true := by
    cases hk : okF e1 i1 r1 d2
    · simp_all
    · rfl
  obtain ⟨S, S', P, Q, Z, Y, q1, q2, q3, z1, z2, z3, z4, z5, z6, z7, z8, z9, p1, p2, p3, p4, p5⟩ := HFF.out k1 k2
  rw [q1] at HE1
  rw [q2] at HE2
  rw [q3] at HAR
  have ZS := hid z9
  have HPP := HP.out
  generalize hg1 : w1.heap.size = g1 at *
  clear q1 q2 q3 z9 HFF HI1 HI2 k1 k2 HP x0 x1 x2 x3 y0 y1 y2 y3 hg1
  refine (HAR.out _).mono ?_
  rintro x w3 ⟨rfl, hb⟩
  have HP1 := HPP.later hb
  clear HPP hb HAR
  go_wp2_with fail
  refine (ZS.out _).mono ?_
  rintro x w4 ⟨rfl, hb⟩
  have HP2 := HP1.later hb
  clear HP1 hb ZS
  go_wp2_with fail
  refine region_text (by kernel_rfl) (by kernel_rfl) (fun _ _ W => Pair w W g g1 e1 i1 r1 d1 d2) HP2.drew ?_
  clear HP2
  iterate 6 ((try simp only [Act.put, List.setIfInBounds_toArray, List.set_cons_zero, List.set_cons_succ]); first
    | (refine t_skip (fun _ => rfl) (fun b γ W h => h) ?_)
    | (refine t_call (.string S) (fun _ => rfl) (f := 17) (args := #[.agg #[.bool e1, .int .u32 i1, .bool r1, .string d1]]) ?_ (fun b γ W h _ => (HE1.out W).mono (fun e w2 h2 => ⟨h2.1, h.later h2.2⟩)) ?_; · (intro b γ W h _; go_simp; done))
    | (refine t_call (.string S') (fun _ => rfl) (f := 17) (args := #[.agg #[.bool e1, .int .u32 i1, .bool r1, .string d2]]) ?_ (fun b γ W h _ => (HE2.out W).mono (fun e w2 h2 => ⟨h2.1, h.later h2.2⟩)) ?_; · (intro b γ W h _; go_simp; done))
    | (refine t_pure ?_ (fun _ => rfl) (fun b γ W h => h) (fun b γ W h _ => ?_) ?_; rotate_left; · (obtain ⟨x0, x1, x2, x3⟩ := frame_res h.fst; obtain ⟨y0, y1, y2, y3⟩ := frame_res h.snd; go_simp; rfl)))
  refine t_end ?_
  intro bq gq w5 hall HP
  simp only [Act.put, List.setIfInBounds_toArray, List.set_cons_zero, List.set_cons_succ]
  clear hall
  have u1 : (Y.size : Int) ≤ (S.size : Int) := by omega
  have u2 : (Y.size : Int) ≤ (S'.size : Int) := by omega
  have u3 : (0 : Int) ≤ (Y.size : Int) := by omega
  have u4 : (0 : Int) ≤ (S.size : Int) - 10 := by omega
  have u5 : (0 : Int) ≤ (S'.size : Int) - 10 := by omega
  have u6 : (S.size : Int) - 10 ≤ (S.size : Int) := by omega
  have u7 : (S'.size : Int) - 10 ≤ (S'.size : Int) := by omega
  have u8 : ((S.size : Int) - 10).toNat = S.size - 10 := by omega
  have u9 : ((S'.size : Int) - 10).toNat = S'.size - 10 := by omega
  have u10 : (S.size : Int) ≤ 246 := by omega
  have u11 : (S'.size : Int) ≤ 246 := by omega
  have u12 : Y.size ≤ S.size := by omega
  have u16 : ((10 : Int) ≤ (S.size : Int)) = True := eq_true (by omega)
  have u17 : ((10 : Int) ≤ (S'.size : Int)) = True := eq_true (by omega)
  have u14 : IntKind.i64.wrap ((S.size : Int) - 10) = (S.size : Int) - 10 := by rw [IntKind.wrap_i64]; omega
  have u15 : IntKind.i64.wrap ((S'.size : Int) - 10) = (S'.size : Int) - 10 := by rw [IntKind.wrap_i64]; omega
  have u13 : Y.size ≤ S'.size := by omega
  obtain ⟨b, hb⟩ : ∃ b, b = (d1.toList == d2.toList) := ⟨_, rfl⟩
  rw [← hb] at p5
  have HB := hid hb
  have hb2 : (d1.toList == d2.toList) = b := hb.symm
  clear hb
  go_wp2_with fail
  refine region_text (by kernel_rfl) (by kernel_rfl) (fun _ _ W => Pair w W g g1 e1 i1 r1 d1 d2) HP.drew ?_
  clear HP
  iterate 30 ((try simp only [Act.put, List.setIfInBounds_toArray, List.set_cons_zero, List.set_cons_succ]); first
    | (refine t_skip (fun _ => rfl) (fun b γ W h => h) ?_)
    | (refine t_pure ?_ (fun _ => rfl) (fun b γ W h => h) (fun b γ W h _ => ?_) ?_; rotate_left; · (obtain ⟨x0, x1, x2, x3⟩ := frame_res h.fst; obtain ⟨y0, y1, y2, y3⟩ := frame_res h.snd; go_simp; rfl)))
  refine t_end ?_
  intro bq gq w6 hall HP
  simp only [Act.put, List.setIfInBounds_toArray, List.set_cons_zero, List.set_cons_succ]
  clear hall
  go_wp2_with fail
  go_ret
  exact ⟨rfl, HP.below⟩
theorem front_walk (e1 : Bool) (i1 : Int) (r1 : Bool) (d1 d2 : ByteArray) (w : World) (b1 : (Lit.int .u32 i1).wf = true) (_ : d1.size ≤ 9223372036854775807) (_ : d2.size ≤ 9223372036854775807) :
    Calls Try.prog 12 #[.agg #[.bool e1, .int .u32 i1, .bool r1, .string d1], .string d2] w fun e w' => e = .returned (.bool true) ∧ Below w.heap.size w w' :=
  front_calls e1 i1 r1 d1 d2 w (by have := bounds_u32 b1; omega)
end Go.Proofs.Ytkdnldoebghclaa.CodeL
