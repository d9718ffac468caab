/- CodeLong (layer 4): a frame has no more bits than it may, and as many as its fields at least; no six of them alike. Conditions: none beyond the types of the arguments; what is no frame is let pass. -/
import Derived.Test.YtkdnldoebghclaaCodeLaws
namespace Go.Proofs.Ytkdnldoebghclaa.CodeL
set_option linter.unusedVariables false
set_option linter.unusedSimpArgs false
open Go.Proofs.YtkdnldoebghclaaW.PrintWords
open Go Go.RowKit Go.Proofs.Ytkdnldoebghclaa.Lib Go.Proofs.Ytkdnldoebghclaa.Bits Go.Proofs.Ytkdnldoebghclaa.BitsW Go.Proofs.Ytkdnldoebghclaa.StuffW Go.Proofs.Ytkdnldoebghclaa.Frame Go.Proofs.Ytkdnldoebghclaa.FrameW Go.Proofs.Ytkdnldoebghclaa.Code Go.Proofs.Ytkdnldoebghclaa.CodeW Go.Proofs.YtkdnldoebghclaaW.PrintMore
attribute [local go_sem] max2_int min2_int max_two min_two
attribute [local go_sem high] eqA24

theorem B_at (l s : List Bool) (j : Nat) (hj : j < l.length) (h : j < (B (l ++ s)).size) : (((B (l ++ s))[j]'h).toNat : Int) = ((sg (l[j]'hj)).toNat : Int) := by
  have h2 : j < (B (l ++ s)).data.toList.length := by rw [size_list]; exact h
  have e : (B (l ++ s))[j]'h = (B (l ++ s)).data.toList[j]'h2 := by rw [Array.getElem_toList]; rfl
  rw [e]
  simp only [B_toList, List.getElem_map]
  rw [List.getElem_append_left hj]
theorem at_of {S T : ByteArray} (h : S = T) {j : Nat} {x : Int} (hs : j < S.size) (ht : ∀ ht : j < T.size, ((T[j]'ht).toNat : Int) = x) : ((S[j]'hs).toNat : Int) = x := by
  subst h; exact ht hs
theorem body_first (e : Bool) (n : Nat) (r : Bool) (d : List UInt8) : ∃ q, bodyL e n r d = false :: q := by
  unfold bodyL arbL
  cases e <;> exact ⟨_, rfl⟩
theorem stuff_len1 (c : Bool) (l : List Bool) : ∃ q, stuff (c :: l) = c :: q ∧ q.length ≤ l.length + l.length / 4 := by
  have e1 : runK 0 false c = 1 := by unfold runK; rw [if_neg (by omega)]
  refine ⟨stuffL 1 c l, ?_, ?_⟩
  · unfold stuff
    rw [stuffL_cons, e1, if_neg (by omega)]
  · have := stuffL_bound l 1 c (by omega) (by omega)
    simpa using this
theorem long_facts {e : Bool} {i : Int} {r : Bool} {d : ByteArray} (hk : okF e i r d = true) :
    ∃ (S : ByteArray) (R : Nat → Nat) (K : Int), codeF e i r d = S ∧ 44 ≤ S.size ∧ S.size ≤ 246 ∧ d.size ≤ 8 ∧ K = (if e then 64 else 44) + 8 * (d.size : Int) ∧ K ≤ (S.size : Int) ∧ (S.size : Int) ≤ K + (K - 11) / 4 ∧
      (∀ h : 0 < S.size, ((S[0]'h).toNat : Int) = 48) ∧ R 0 = 0 ∧ (∀ j, R j ≤ 5) ∧
      ∀ j, j + 10 < S.size → ∀ h : j < S.size, (j = 0 → R (j + 1) = 1) ∧
        (0 < j → ∀ h2 : j - 1 < S.size, ∃ a b : Bool, ((S[j]'h).toNat : Int) = ((sg a).toNat : Int) ∧ ((S[j - 1]'h2).toNat : Int) = ((sg b).toNat : Int) ∧ R (j + 1) = if a = b then R j + 1 else 1) := by
  have hd := ok_len hk
  have hl := frame_len e i.toNat r d.data.toList hd
  have hcl := code_length e i.toNat r d.data.toList
  have hsz := codeF_size hk
  have hbl := bodyL_length e i.toNat r d.data.toList
  have hds := size_list d
  obtain ⟨q, hq⟩ := body_first e i.toNat r d.data.toList
  have hqs : ∃ q2, sumL (bodyL e i.toNat r d.data.toList) = false :: q2 ∧ q2.length + 1 = (bodyL e i.toNat r d.data.toList).length + 15 := by
    refine ⟨q ++ ofN (crcN (bodyL e i.toNat r d.data.toList)) 15, ?_, ?_⟩
    · unfold sumL; rw [hq]; rfl
    · rw [List.length_append, ofN_length, hq]; simp
  obtain ⟨q2, hq2, hq2l⟩ := hqs
  obtain ⟨q3, hq3, hq3l⟩ := stuff_len1 false q2
  rw [← hq2] at hq3
  have h5 := fun k => stuffed_run (sumL (bodyL e i.toNat r d.data.toList)) k
  have hge := stuffL_le (sumL (bodyL e i.toNat r d.data.toList)) 0 false
  have hsl : (sumL (bodyL e i.toNat r d.data.toList)).length = q2.length + 1 := by rw [hq2]; rfl
  rw [show stuffL 0 false (sumL (bodyL e i.toNat r d.data.toList)) = stuff (sumL (bodyL e i.toNat r d.data.toList)) from rfl] at hge
  have hS : codeF e i r d = B (stuff (sumL (bodyL e i.toNat r d.data.toList)) ++ List.replicate 10 true) := by rw [codeF_ok hk, code_app]
  have hWl : (stuff (sumL (bodyL e i.toNat r d.data.toList))).length = q3.length + 1 := by rw [hq3]; rfl
  generalize hW : stuff (sumL (bodyL e i.toNat r d.data.toList)) = W at *
  have hb2 : (if e = true then 39 else 19) + 8 * d.size = q2.length + 1 - 15 ∧ 15 ≤ q2.length + 1 := by rw [← hds]; omega
  refine ⟨codeF e i r d, fun j => (runL 0 false (W.take j)).1, (if e then 64 else 44) + 8 * (d.size : Int), rfl, by omega, by omega, by omega, rfl, ?_, ?_, ?_, by simp [runL], h5, ?_⟩
  · rw [hsz, hcl]; cases e <;> simp at hb2 ⊢ <;> omega
  · rw [hsz, hcl]; cases e <;> simp at hb2 ⊢ <;> omega
  · intro h
    have h0 : 0 < W.length := by omega
    refine at_of hS h (fun h => ?_)
    rw [B_at W _ 0 h0]
    simp [hq3, sg]
  · intro j hj h
    have hjW : j < W.length := by omega
    have ht := runL_take W j hjW
    refine ⟨fun h0 => ?_, fun h0 h2 => ⟨W[j], W[j - 1], ?_, ?_, ?_⟩⟩
    · subst h0
      show (runL 0 false (W.take (0 + 1))).1 = 1
      rw [ht]
      simp [runL, runK]
    · exact at_of hS h (fun h => B_at W _ j hjW h)
    · exact at_of hS h2 (fun h => B_at W _ (j - 1) (by omega) h)
    · obtain ⟨j, rfl⟩ : ∃ m, j = m + 1 := ⟨j - 1, by omega⟩
      show (runL 0 false (W.take (j + 1 + 1))).1 = if W[j + 1] = W[j + 1 - 1] then (runL 0 false (W.take (j + 1))).1 + 1 else 1
      rw [ht]
      have ht2 := runL_take W j (by omega)
      have hpos : (runL 0 false (W.take (j + 1))).1 ≠ 0 := by rw [ht2]; exact runK_pos _ _ _
      have hlast : (runL 0 false (W.take (j + 1))).2 = W[j] := by rw [ht2]
      show runK _ _ _ = _
      rw [hlast]
      unfold runK
      simp only [Nat.add_sub_cancel]
      by_cases hc : W[j + 1] = W[j]
      · rw [if_pos ⟨by omega, hc.symm⟩, if_pos hc]
      · rw [if_neg (fun x => hc x.2.symm), if_neg hc]
set_option maxRecDepth 100000 in
set_option maxHeartbeats 6400000 in
theorem long_calls (e1 : Bool) (i1 : Int) (r1 : Bool) (d1 : ByteArray) (w : World) (b1 : 0 ≤ i1 ∧ i1 < 4294967296) :
    Calls Try.prog 9 #[.agg #[.bool e1, .int .u32 i1, .bool r1, .string d1]] w fun e w' => e = .returned (.bool true) ∧ Below w.heap.size w w' := by
  have HF := One.make w e1 i1 r1 d1
  have HB1 := hid b1
  clear b1
  have HLE := hid (fun (W : World) => len_calls e1 i1 r1 d1 W HB1.out)
  have HEN := hid (fun (W : World) => encode_calls e1 i1 r1 d1 W HB1.out)
  have HZ := hid (codeF_zero e1 i1 r1 d1)
  have HBF := hid (fun (hk : okF e1 i1 r1 d1 = true) => long_facts hk)
  generalize hS : codeF e1 i1 r1 d1 = S at *
  clear hS
  cases e1
  all_goals
    go_enter Try.func9, Try.ntmps9
    go_wp2_with fail
    refine (known_calls _).mono ?_
    rintro x w1 ⟨rfl, hb⟩
    have HF := HF.later hb
    clear hb
    generalize hg : w.heap.size = g at *
    have HG := hid hg
    clear hg
    obtain ⟨x0, x1, x2, x3⟩ := frame_res HF.fst
    go_wp2_with (first
      | (go_at_call 18; with_reducible refine (HLE.out _).mono ?_; rintro x w2 ⟨rfl, hb⟩; have HF' := HF.later hb; clear HF hb x0 x1 x2 x3; have HF := HF'; clear HF'; obtain ⟨x0, x1, x2, x3⟩ := frame_res HF.fst))
    refine (few_calls _ _ _ _ _).mono ?_
    rintro x w2 ⟨rfl, hb⟩
    have HF' := HF.later hb
    clear HF hb x0 x1 x2 x3
    have HF := HF'
    clear HF'
    obtain ⟨x0, x1, x2, x3⟩ := frame_res HF.fst
    cases hok : okF _ i1 r1 d1
    · have z := HZ.out.2 hok
      have z1 : (S.size : Int) = 0 := by omega
      go_wp2_with fail
      all_goals (go_ret; exact ⟨rfl, HF.below⟩)
    · obtain ⟨S', R, K, rfl, s1, s2, s3, s4, s5, s6, q0, r0, r5, q⟩ := HBF.out hok
      simp only [if_true, Bool.false_eq_true, if_false] at s4
      have Q := hid q
      have R5 := hid r5
      have R0 := hid r0
      have Q0 := hid q0
      have S4 := hid s4
      have s7 : (d1.size : Int) ≤ 8 := by omega
      have s8 : ((S.size : Int) == 0) = false := beq_eq_false_iff_ne.2 (by omega)
      have s9 : ((d1.size : Int) ≤ 20) = True := eq_true (by omega)
      have HG2 := hid HG.out
      clear q r5 r0 q0 s4 hok HBF HZ HLE s3
      go_wp2_with fail
      refine (HEN.out _).mono ?_
      rintro x w5 ⟨rfl, hb⟩
      have HB := HF.below.trans (hb.mono HF.below.size)
      clear hb x0 x1 x2 x3 HF HEN
      go_wp2_with fail
      go_loopw [5, 7] (fun rn i wr => ∃ j : Nat, j + 10 ≤ S.size ∧ i = .int .i64 j ∧ rn = .int .i64 (R j) ∧ Below w.heap.size w wr) (fun _ i _ => S.size - (intOf i).toNat)
      case atStart => exact ⟨0, by omega, rfl, by rw [R0.out]; rfl, HB⟩
      case round =>
        clear HB
        obtain ⟨j, hj, rfl, rfl, HB⟩ := hrel
        by_cases hlt : j + 10 < S.size
        · have hsz : j < S.size := by omega
          have u1 : ((j : Int) < (S.size : Int) - 10) = True := eq_true (by omega)
          have u2 : (j : Int) ≤ 246 := by omega
          have u3 : (0 : Int) ≤ (j : Int) := by omega
          obtain ⟨q1, q2⟩ := Q.out j hlt hsz
          cases j with
          | zero =>
            have e1 := hid (q1 rfl)
            clear q1 q2
            go_wp2_with fail
            refine region_text (by kernel_rfl) (by kernel_rfl) (fun _ _ W => Below w.heap.size w W) HB.drew ?_
            clear HB
            iterate 12 ((try simp only [Act.put, List.setIfInBounds_toArray, List.set_cons_zero, List.set_cons_succ]); first
              | (refine t_skip (fun _ => rfl) (fun b γ W h => h) ?_)
              | (refine t_pure ?_ (fun _ => rfl) (fun b γ W h => h) (fun b γ W h _ => ?_) ?_; rotate_left; · (go_simp; rfl)))
            refine t_end ?_
            intro bq gq w9 hall HB
            clear hall
            (try simp only [Act.put, List.setIfInBounds_toArray, List.set_cons_zero, List.set_cons_succ])
            go_wp2_with fail
            go_roundw
            case rel => exact ⟨1, by omega, rfl, by rw [e1.out]; rfl, HB⟩
            case measure => simp [intOf]; omega
          | succ j =>
            obtain ⟨a, b, v1, v2, v3⟩ := q2 (by omega) (by omega)
            have V3 := hid v3
            have r5 := R5.out (j + 1)
            have r50 : (0 : Int) ≤ (R (j + 1) : Int) := by omega
            have r51 : (R (j + 1) : Int) ≤ 5 := by omega
            have r52 := R5.out (j + 1 + 1)
            have r53 : (R (j + 1 + 1) : Int) ≤ 5 := by omega
            simp only [Nat.add_sub_cancel] at v2
            have w1 : j < S.size := by omega
            have w2 : (0 : Int) ≤ (j : Int) + 1 := by omega
            have w3 : (j : Int) + 1 < (S.size : Int) := by omega
            have w4 : (j : Int) < (S.size : Int) := by omega
            have w5 : (0 : Int) ≤ (j : Int) := by omega
            have w6 : ((0 : Int) < (j : Int) + 1) = True := eq_true (by omega)
            have w7 : (j : Int) ≤ 246 := by omega
            have w8 : IntKind.i64.wrap (j : Int) = (j : Int) := by rw [IntKind.wrap_i64]; omega
            clear q1 q2 v3
            cases a <;> cases b
            all_goals
              simp only [sg, if_true, Bool.false_eq_true, if_false] at v1 v2
              go_wp2_with fail
              refine region_text (by kernel_rfl) (by kernel_rfl) (fun _ _ W => Below w.heap.size w W) HB.drew ?_
              clear HB
              iterate 12 ((try simp only [Act.put, List.setIfInBounds_toArray, List.set_cons_zero, List.set_cons_succ]); first
                | (refine t_skip (fun _ => rfl) (fun b γ W h => h) ?_)
                | (refine t_pure ?_ (fun _ => rfl) (fun b γ W h => h) (fun b γ W h _ => ?_) ?_; rotate_left; · (go_simp; rfl)))
              refine t_end ?_
              intro bq gq w9 hall HB
              clear hall
              (try simp only [Act.put, List.setIfInBounds_toArray, List.set_cons_zero, List.set_cons_succ])
              have e3 := V3.out
              simp only [if_true, Bool.false_eq_true, if_false, Bool.true_eq_false, reduceIte, reduceCtorEq] at e3
              have E3 := hid e3
              try have g2 : ((5 : Int) < (R (j + 1) : Int) + 1) = False := eq_false (by omega)
              clear e3
              go_wp2_with fail
              go_roundw
              case rel => exact ⟨j + 1 + 1, by omega, by go_num, by rw [E3.out]; rfl, HB⟩
              case measure => simp [intOf]; omega
        · obtain rfl : j = S.size - 10 := by omega
          have u1 : (((S.size - 10 : Nat) : Int) < (S.size : Int) - 10) = False := eq_false (by omega)
          have k1 := S4.out
          have k2 := Q0.out (by omega)
          have k3 : 0 < S.size := by omega
          have k4 : (0 : Int) < (S.size : Int) := by omega
          generalize hKK : K + (K - 11) / 4 = KK at *
          go_wp2_with fail
          go_ret
          exact ⟨rfl, HB⟩
theorem long_walk (e1 : Bool) (i1 : Int) (r1 : Bool) (d1 : ByteArray) (w : World) (b1 : (Lit.int .u32 i1).wf = true) (_ : d1.size ≤ 9223372036854775807) :
    Calls Try.prog 9 #[.agg #[.bool e1, .int .u32 i1, .bool r1, .string d1]] w fun e w' => e = .returned (.bool true) ∧ Below w.heap.size w w' :=
  long_calls e1 i1 r1 d1 w (by have := bounds_u32 b1; omega)
end Go.Proofs.Ytkdnldoebghclaa.CodeL
