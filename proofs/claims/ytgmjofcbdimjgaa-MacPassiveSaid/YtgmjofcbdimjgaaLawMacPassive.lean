/- MacPassive (layer 7): who has sent badly sixteen times flags by 1: the others don't see it. Conditions: none beyond the types of the arguments; what is no frame is let pass. -/
import Derived.Test.YtgmjofcbdimjgaaMacKnown
import Derived.Test.YtgmjofcbdimjgaaMacIdle
import Derived.Test.YtgmjofcbdimjgaaMacOwn2
namespace Go.Proofs.Ytgmjofcbdimjgaa.MacL
set_option linter.unusedVariables false
set_option linter.unusedSimpArgs false
open Go Go.RowKit Go.Proofs.Ytgmjofcbdimjgaa.Lib Go.Proofs.Ytgmjofcbdimjgaa.Bits Go.Proofs.Ytgmjofcbdimjgaa.BitsW Go.Proofs.Ytgmjofcbdimjgaa.StuffW Go.Proofs.Ytgmjofcbdimjgaa.Frame Go.Proofs.Ytgmjofcbdimjgaa.FrameW Go.Proofs.Ytgmjofcbdimjgaa.Code Go.Proofs.Ytgmjofcbdimjgaa.CodeW Go.Proofs.Ytgmjofcbdimjgaa.CodeL Go.Proofs.Ytgmjofcbdimjgaa.Mac Go.Proofs.Ytgmjofcbdimjgaa.MacW Go.Proofs.Ytgmjofcbdimjgaa.PrintMore
attribute [local go_sem] max2_int min2_int max_two min_two
attribute [local go_sem] field_got field_sent
attribute [local go_sem high] eqA24
theorem code_any {f : Fm} (h : f.ok = true) : (((codeF f.e f.i f.r f.d).size : Int) == 0) = false ∧ (((codeF f.e f.i f.r f.d).size : Int) = 0) = False ∧ ((codeF f.e f.i f.r f.d).size = 0) = False := by
  have h1 : (codeF f.e f.i f.r f.d).size ≠ 0 := by
    intro h2
    have := (codeF_zero f.e f.i f.r f.d).1 h2
    rw [show okF f.e f.i f.r f.d = f.ok from rfl, h] at this
    cases this
  exact ⟨beq_eq_false_iff_ne.2 (by omega), eq_false (by omega), eq_false h1⟩
theorem code_nil {f : Fm} (h : f.ok = false) : ((codeF f.e f.i f.r f.d).size : Int) = 0 := by
  have := (codeF_zero f.e f.i f.r f.d).2 h
  omega
set_option maxRecDepth 100000 in
set_option maxHeartbeats 6400000 in
theorem passive_calls (f : Fm) (w : World) (hw : f.wf) : Calls Try.prog 10 #[.agg #[.bool f.e, .int .u32 f.i, .bool f.r, .string f.d]] w fun e w' => e = .returned (.bool true) ∧ Below w.heap.size w w' := by
  have HB := hid (BX.make w f)
  go_enter Try.func10, Try.ntmps10
  go_wp2_with fail
  with_reducible refine (known_calls _).mono ?_
  rintro y w1 ⟨rfl, hb⟩
  have HC := hid (HB.out.later hb)
  clear HB hb
  generalize hp : w.heap.size = p at HC ⊢
  obtain ⟨x0, x1, x2, x3⟩ := HC.out.fr
  by_cases h20 : f.d.size ≤ 20
  · go_wp2_with fail
    have hq := len_calls f.e f.i f.r f.d w1 hw
    with_reducible refine hq.mono ?_
    clear hq
    rintro y w2 ⟨rfl, hb⟩
    have HD := hid (HC.out.later hb)
    clear HC hb x0 x1 x2 x3
    obtain ⟨x0, x1, x2, x3⟩ := HD.out.fr
    cases hok : f.ok
    · rw [code_nil hok]
      go_wp2_with fail
      go_ret
      exact ⟨rfl, by subst hp; exact HD.out.below⟩
    · have hg : f.Good := ⟨hok, hw⟩
      obtain ⟨c1, c2, c3⟩ := code_any hok
      go_wp2_with fail
      have hq := nf_new HD.out.below
      with_reducible refine hq.mono ?_
      clear hq
      rintro y w3 ⟨rfl, h3, hb3⟩
      have H3 := hid (HD.out.nb h3 (Nat.le_refl _) hb3)
      clear h3 hb3 HD x0 x1 x2 x3 c1 c2 c3 h20
      generalize w2.heap.size = g at H3 ⊢
      go_wp2_with fail
      go_loopw [4, 6] (fun o i wr => ∃ (n : Nat) (m : M) (F : Nat), Pass f n m F ∧ i = .int .i64 n ∧ o = .int .i64 F ∧ NB w wr g p m f) (fun _ i _ => 6000 - (intOf i).toNat)
      case atStart => exact ⟨0, M.new, 0, pass_start f, rfl, rfl, H3.out⟩
      case round =>
        clear H3
        obtain ⟨n, m, F, hal, rfl, rfl, HX⟩ := hrel
        have H4 := hid HX
        clear HX
        obtain ⟨hn, hF⟩ := pass_le hg hal
        have u0 : ((n : Int) < 6000) = True := eq_true (by omega)
        have u1 : decide ((n : Int) < 6000) = true := decide_eq_true (by omega)
        have u2 : IntKind.i64.wrap ((n : Int) + 1) = ((n + 1 : Nat) : Int) := by rw [IntKind.wrap_i64]; omega
        have u3 : (n < 6000) = True := eq_true (by omega)
        have u4 : IntKind.i64.wrap ((F : Int) + 1) = ((F + 1 : Nat) : Int) := by rw [IntKind.wrap_i64]; omega
        by_cases hF20 : F < 20
        · have u5 : ((F : Int) < 20) = True := eq_true (by omega)
          have u6 : decide ((F : Int) < 20) = true := decide_eq_true (by omega)
          have u7 : (F < 20) = True := eq_true hF20
          obtain ⟨_, hc⟩ := pass_round hg hal hF20
          clear hal
          rcases hc with ⟨hst, m1, hask, hdr, m2, hsm, hnx⟩ | ⟨hst, m2, hsm, hnx⟩ | ⟨hst, q, hq, hsm, hnx⟩
          · have HN := hid hnx
            have HA := hid hask
            have HD := hid hdr
            have HS := hid hsm
            have HT := hid hst
            clear hnx hask hdr hsm hst
            obtain ⟨x0, x1, x2, x3⟩ := H4.out.fr
            go_wp2_with fail
            with_reducible refine (nf_idle H4.out.nf).mono ?_
            rintro y w5 ⟨rfl, rfl⟩
            rw [HT.out]
            go_wp2_with fail
            have hq := nf_ask H4.out.nf f hw
            rw [fv_eq, HA.out] at hq
            with_reducible refine hq.mono ?_
            clear hq
            rintro y w5 ⟨rfl, h5, hgr⟩
            have H5 := hid (H4.out.at h5 hgr)
            clear H4 h5 hgr x0 x1 x2 x3
            simp only
            go_wp2_with fail
            with_reducible refine (nf_drive H5.out.nf).mono ?_
            rintro y w6 ⟨rfl, h6, hgr⟩
            rw [HD.out, show ((sg false).toNat : Int) = 48 from rfl]
            have H6 := hid (H5.out.at h6 hgr)
            clear H5 h6 hgr
            go_wp2_with fail
            with_reducible refine (nf_sample H6.out.nf false 48 rfl).mono ?_
            rintro y w7 ⟨v, rfl, h7, hev, hgr⟩
            rw [HS.out] at h7 hev
            have H7 := hid (H6.out.at h7 hgr)
            obtain ⟨q, cap, rfl, _⟩ := evs_one hev
            have HE := hid (show E1 w7 q ⟨6, Fm.zero, 0⟩ from ⟨_, cap, hev⟩)
            obtain ⟨y0, y1, y2, y3, y4, y5⟩ := HE.out.get
            simp only at y0 y1 y2 y3 y4 y5
            clear H6 h7 hgr hev
            go_wp2_with fail
            go_roundw
            case rel => exact ⟨n + 1, m2, F, HN.out, by go_num, rfl, H7.out⟩
            case measure => simp [intOf]; omega
          · have HN := hid hnx
            have HS := hid hsm
            have HT := hid hst
            clear hnx hsm hst
            go_wp2_with fail
            with_reducible refine (nf_idle H4.out.nf).mono ?_
            rintro y w5 ⟨rfl, rfl⟩
            rw [HT.out]
            go_wp2_with fail
            with_reducible refine (nf_drive H4.out.nf).mono ?_
            rintro y w6 ⟨rfl, h6, hgr⟩
            have H6 := hid (H4.out.at h6 hgr)
            clear H4 h6 hgr
            go_wp2_with fail
            with_reducible refine (nf_sample H6.out.nf m.drive _ (sg_48b _)).mono ?_
            rintro y w7 ⟨v, rfl, h7, hev, hgr⟩
            rw [HS.out] at h7 hev
            have H7 := hid (H6.out.at h7 hgr)
            obtain ⟨a, cap, rfl, _⟩ := evs_slice hev
            clear H6 h7 hgr hev
            go_wp2_with fail
            go_roundw
            case rel => exact ⟨n + 1, m2, F, HN.out, by go_num, rfl, H7.out⟩
            case measure => simp [intOf]; omega
          · by_cases hb : 16 ≤ F + 1
            · have HN := hid hnx
              have HS := hid hsm
              have HT := hid hst
              clear hnx hsm hst
              go_wp2_with fail
              with_reducible refine (nf_idle H4.out.nf).mono ?_
              rintro y w5 ⟨rfl, rfl⟩
              rw [HT.out]
              go_wp2_with fail
              with_reducible refine (nf_drive H4.out.nf).mono ?_
              rintro y w6 ⟨rfl, h6, hgr⟩
              have H6 := hid (H4.out.at h6 hgr)
              clear H4 h6 hgr
              go_wp2_with fail
              with_reducible refine (nf_sample H6.out.nf m.drive _ (sg_48b _)).mono ?_
              rintro y w7 ⟨v, rfl, h7, hev, hgr⟩
              rw [HS.out] at h7 hev
              have H7 := hid (H6.out.at h7 hgr)
              obtain ⟨q9, cap, rfl, _⟩ := evs_one hev
              have HE := hid (show E1 w7 q9 ⟨4, f, 71⟩ from ⟨_, cap, hev⟩)
              obtain ⟨y0, y1, y2, y3, y4, y5⟩ := HE.out.get
              simp only at y0 y1 y2 y3 y4 y5
              have HQ := hid (fun i (hi : i < 6) => pass_flags hq f hF20 hi)
              clear H6 h7 hgr hev hq
              go_wp2_with fail
              go_loopw [5, 8] (fun o k wr => ∃ j : Nat, j ≤ 6 ∧ k = .int .i64 j ∧ o = .int .i64 (0) ∧ NB w wr g p (flagM (nxM q f) j) f) (fun _ k _ => 6 - (intOf k).toNat)
              case atStart => exact ⟨0, by omega, rfl, rfl, H7.out⟩
              case round =>
                clear H7 HE y0 y1 y2 y3 y4 y5
                obtain ⟨j, hj, rfl, rfl, HX⟩ := hrel
                have H9 := hid HX
                clear HX
                by_cases hlt : j < 6
                · have w0 : ((j : Int) < 6) = True := eq_true (by omega)
                  have w1 : decide ((j : Int) < 6) = true := decide_eq_true (by omega)
                  have w2 : IntKind.i64.wrap ((j : Int) + 1) = ((j + 1 : Nat) : Int) := by rw [IntKind.wrap_i64]; omega
                  have w3 : (j < 6) = True := eq_true hlt
                  obtain ⟨q1, q2⟩ := HQ.out j hlt
                  rw [decide_eq_true (by omega)] at q1
                  have Q1 := hid q1
                  have Q2 := hid q2
                  clear q1 q2
                  go_wp2_with fail
                  with_reducible refine (nf_drive H9.out.nf).mono ?_
                  rintro y w10 ⟨rfl, h10, hgr⟩
                  have H10 := hid (H9.out.at h10 hgr)
                  rw [Q1.out, show ((sg true).toNat : Int) = 49 from rfl]
                  clear H9 h10 hgr
                  go_wp2_with fail
                  with_reducible refine (nf_drive H10.out.nf).mono ?_
                  rintro y w11 ⟨rfl, h11, hgr⟩
                  have H11 := hid (H10.out.at h11 hgr)
                  rw [Q1.out, show ((sg true).toNat : Int) = 49 from rfl]
                  clear H10 h11 hgr
                  go_wp2_with fail
                  with_reducible refine (nf_sample H11.out.nf true 49 rfl).mono ?_
                  rintro y w12 ⟨v, rfl, h12, hev, hgr⟩
                  have hs := Q2.out
                  rw [Q1.out] at hs
                  rw [hs] at h12 hev
                  obtain ⟨a, cap, rfl, _⟩ := evs_slice hev
                  have H12 := hid (H11.out.at h12 hgr)
                  clear H11 h12 hgr hev hs
                  go_wp2_with fail
                  go_roundw
                  case rel => exact ⟨j + 1, by omega, by go_num, by go_num, H12.out⟩
                  case measure => simp [intOf]; omega
                · obtain rfl : j = 6 := by omega
                  have z0 : ((F : Int) + 1 < 16) = False := eq_false (by omega)
                  have z1 : decide ((F : Int) + 1 < 16) = false := decide_eq_false (by omega)
                  go_wp2_with fail
                  go_roundw
                  case rel => exact ⟨n + 1, _, F + 1, HN.out, by go_num, by go_num, H9.out⟩
                  case measure => simp [intOf]; omega
            · have HN := hid hnx
              have HS := hid hsm
              have HT := hid hst
              clear hnx hsm hst
              go_wp2_with fail
              with_reducible refine (nf_idle H4.out.nf).mono ?_
              rintro y w5 ⟨rfl, rfl⟩
              rw [HT.out]
              go_wp2_with fail
              with_reducible refine (nf_drive H4.out.nf).mono ?_
              rintro y w6 ⟨rfl, h6, hgr⟩
              have H6 := hid (H4.out.at h6 hgr)
              clear H4 h6 hgr
              go_wp2_with fail
              with_reducible refine (nf_sample H6.out.nf m.drive _ (sg_48b _)).mono ?_
              rintro y w7 ⟨v, rfl, h7, hev, hgr⟩
              rw [HS.out] at h7 hev
              have H7 := hid (H6.out.at h7 hgr)
              obtain ⟨q9, cap, rfl, _⟩ := evs_one hev
              have HE := hid (show E1 w7 q9 ⟨4, f, 71⟩ from ⟨_, cap, hev⟩)
              obtain ⟨y0, y1, y2, y3, y4, y5⟩ := HE.out.get
              simp only at y0 y1 y2 y3 y4 y5
              have HQ := hid (fun i (hi : i < 6) => pass_flags hq f hF20 hi)
              clear H6 h7 hgr hev hq
              go_wp2_with fail
              go_loopw [5, 8] (fun o k wr => ∃ j : Nat, j ≤ 6 ∧ k = .int .i64 j ∧ o = .int .i64 ((j : Int)) ∧ NB w wr g p (flagM (nxM q f) j) f) (fun _ k _ => 6 - (intOf k).toNat)
              case atStart => exact ⟨0, by omega, rfl, rfl, H7.out⟩
              case round =>
                clear H7 HE y0 y1 y2 y3 y4 y5
                obtain ⟨j, hj, rfl, rfl, HX⟩ := hrel
                have H9 := hid HX
                clear HX
                by_cases hlt : j < 6
                · have w0 : ((j : Int) < 6) = True := eq_true (by omega)
                  have w1 : decide ((j : Int) < 6) = true := decide_eq_true (by omega)
                  have w2 : IntKind.i64.wrap ((j : Int) + 1) = ((j + 1 : Nat) : Int) := by rw [IntKind.wrap_i64]; omega
                  have w3 : (j < 6) = True := eq_true hlt
                  obtain ⟨q1, q2⟩ := HQ.out j hlt
                  rw [decide_eq_false (by omega)] at q1
                  have Q1 := hid q1
                  have Q2 := hid q2
                  clear q1 q2
                  go_wp2_with fail
                  with_reducible refine (nf_drive H9.out.nf).mono ?_
                  rintro y w10 ⟨rfl, h10, hgr⟩
                  have H10 := hid (H9.out.at h10 hgr)
                  rw [Q1.out, show ((sg false).toNat : Int) = 48 from rfl]
                  clear H9 h10 hgr
                  go_wp2_with fail
                  with_reducible refine (nf_drive H10.out.nf).mono ?_
                  rintro y w11 ⟨rfl, h11, hgr⟩
                  have H11 := hid (H10.out.at h11 hgr)
                  rw [Q1.out, show ((sg false).toNat : Int) = 48 from rfl]
                  clear H10 h11 hgr
                  go_wp2_with fail
                  with_reducible refine (nf_sample H11.out.nf false 48 rfl).mono ?_
                  rintro y w12 ⟨v, rfl, h12, hev, hgr⟩
                  have hs := Q2.out
                  rw [Q1.out] at hs
                  rw [hs] at h12 hev
                  obtain ⟨a, cap, rfl, _⟩ := evs_slice hev
                  have H12 := hid (H11.out.at h12 hgr)
                  clear H11 h12 hgr hev hs
                  go_wp2_with fail
                  go_roundw
                  case rel => exact ⟨j + 1, by omega, by go_num, by go_num, H12.out⟩
                  case measure => simp [intOf]; omega
                · obtain rfl : j = 6 := by omega
                  have z0 : ((F : Int) + 1 < 16) = True := eq_true (by omega)
                  have z1 : decide ((F : Int) + 1 < 16) = true := decide_eq_true (by omega)
                  go_wp2_with fail
                  go_roundw
                  case rel => exact ⟨n + 1, _, F + 1, HN.out, by go_num, by go_num, H9.out⟩
                  case measure => simp [intOf]; omega
        · obtain rfl : F = 20 := by omega
          go_wp2_with fail
          go_ret
          exact ⟨rfl, by subst hp; exact H4.out.nf.nd.below⟩
  · go_wp2_with fail
    go_ret
    exact ⟨rfl, by subst hp; exact HC.out.below⟩
theorem passive_walk (e : Bool) (i : Int) (r : Bool) (d : ByteArray) (w : World) (h : (Lit.int .u32 i).wf = true) (_ : d.size ≤ 9223372036854775807) :
    Calls Try.prog 10 #[.agg #[.bool e, .int .u32 i, .bool r, .string d]] w fun e w' => e = .returned (.bool true) ∧ Below w.heap.size w w' :=
  passive_calls ⟨e, i, r, d⟩ w (by have := bounds_u32 h; unfold Fm.wf; simp only; omega)
end Go.Proofs.Ytgmjofcbdimjgaa.MacL
