/- MacAlone (layer 7): alone on the wire nobody takes its frame: it fails so often until it is off, and says nothing more. Conditions: none beyond the types of the arguments; what is no frame is let pass. -/
import Derived.Test.YtgmjofcbdimjgaaMacKnown
import Derived.Test.YtgmjofcbdimjgaaMacIdle
import Derived.Test.YtgmjofcbdimjgaaMacOwn
namespace Go.Proofs.Ytgmjofcbdimjgaa.MacL
set_option linter.unusedVariables false
set_option linter.unusedSimpArgs false
open Go Go.RowKit Go.Proofs.Ytgmjofcbdimjgaa.Lib Go.Proofs.Ytgmjofcbdimjgaa.Bits Go.Proofs.Ytgmjofcbdimjgaa.BitsW Go.Proofs.Ytgmjofcbdimjgaa.StuffW Go.Proofs.Ytgmjofcbdimjgaa.Frame Go.Proofs.Ytgmjofcbdimjgaa.FrameW Go.Proofs.Ytgmjofcbdimjgaa.Code Go.Proofs.Ytgmjofcbdimjgaa.CodeW Go.Proofs.Ytgmjofcbdimjgaa.CodeL Go.Proofs.Ytgmjofcbdimjgaa.Mac Go.Proofs.Ytgmjofcbdimjgaa.MacW Go.Proofs.Ytgmjofcbdimjgaa.PrintMore
attribute [local go_sem] max2_int min2_int max_two min_two
attribute [local go_sem] field_got field_sent
attribute [local go_sem high] eqA24
theorem code_any {f : Fm} (h : f.ok = true) : (((codeF f.e f.i f.r f.d).size : Int) == 0) = false ∧ (((codeF f.e f.i f.r f.d).size : Int) = 0) = False ∧ ((codeF f.e f.i f.r f.d).size = 0) = False := by
  have h1 : (codeF f.e f.i f.r f.d).size ≠ 0 := by
    intro h2
    have := (codeF_zero f.e f.i f.r f.d).1 h2
    rw [show okF f.e f.i f.r f.d = f.ok from rfl, h] at this
    cases this
  exact ⟨beq_eq_false_iff_ne.2 (by omega), eq_false (by omega), eq_false h1⟩
theorem code_nil {f : Fm} (h : f.ok = false) : ((codeF f.e f.i f.r f.d).size : Int) = 0 := by
  have := (codeF_zero f.e f.i f.r f.d).2 h
  omega
theorem off_ask {z : M} (h : z.st = 7) (f : Fm) : z.ask f = (z, 73) := by
  unfold M.ask; rw [if_pos h]
theorem off_drive {z : M} (h : z.st = 7) : z.drive = true := drive_other (by omega) (by omega) (by omega)
theorem off_sample {z : M} (h : z.st = 7) (c : Bool) : z.sample c = (z, []) := by
  unfold M.sample
  rw [if_neg (by omega), if_neg (by omega), if_neg (by omega), if_neg (by omega), if_neg (by omega), if_neg (by omega), if_neg (by omega)]
set_option maxRecDepth 100000 in
set_option maxHeartbeats 6400000 in
theorem alone_calls (f : Fm) (w : World) (hw : f.wf) : Calls Try.prog 9 #[.agg #[.bool f.e, .int .u32 f.i, .bool f.r, .string f.d]] w fun e w' => e = .returned (.bool true) ∧ Below w.heap.size w w' := by
  have HB := hid (BX.make w f)
  go_enter Try.func9, Try.ntmps9
  go_wp2_with fail
  with_reducible refine (known_calls _).mono ?_
  rintro y w1 ⟨rfl, hb⟩
  have HC := hid (HB.out.later hb)
  clear HB hb
  generalize hp : w.heap.size = p at HC ⊢
  obtain ⟨x0, x1, x2, x3⟩ := HC.out.fr
  by_cases h20 : f.d.size ≤ 20
  · go_wp2_with fail
    have hq := len_calls f.e f.i f.r f.d w1 hw
    with_reducible refine hq.mono ?_
    clear hq
    rintro y w2 ⟨rfl, hb⟩
    have HD := hid (HC.out.later hb)
    clear HC hb x0 x1 x2 x3
    obtain ⟨x0, x1, x2, x3⟩ := HD.out.fr
    cases hok : f.ok
    · rw [code_nil hok]
      go_wp2_with fail
      go_ret
      exact ⟨rfl, by subst hp; exact HD.out.below⟩
    · have hg : f.Good := ⟨hok, hw⟩
      obtain ⟨c1, c2, c3⟩ := code_any hok
      go_wp2_with fail
      have hq := nf_new HD.out.below
      with_reducible refine hq.mono ?_
      clear hq
      rintro y w3 ⟨rfl, h3, hb3⟩
      have H3 := hid (HD.out.nb h3 (Nat.le_refl _) hb3)
      clear h3 hb3 HD x0 x1 x2 x3 c1 c2 c3 h20
      generalize w2.heap.size = g at H3 ⊢
      go_wp2_with fail
      go_loopw [4, 5] (fun o i wr => ∃ (n : Nat) (m : M) (F : Nat), Alone f n m F ∧ i = .int .i64 n ∧ o = .int .i64 F ∧ NB w wr g p m f) (fun _ i _ => 9000 - (intOf i).toNat)
      case atStart => exact ⟨0, M.new, 0, alone_start f, rfl, rfl, H3.out⟩
      case round =>
        clear H3
        obtain ⟨n, m, F, hal, rfl, rfl, HX⟩ := hrel
        have H4 := hid HX
        clear HX
        obtain ⟨hn, hF, hc⟩ := alone_round hg hal
        clear hal
        have u0 : ((n : Int) < 9000) = True := eq_true (by omega)
        have u1 : decide ((n : Int) < 9000) = true := decide_eq_true (by omega)
        have u2 : IntKind.i64.wrap ((n : Int) + 1) = ((n + 1 : Nat) : Int) := by rw [IntKind.wrap_i64]; omega
        have u3 : (n < 9000) = True := eq_true (by omega)
        have u4 : IntKind.i64.wrap ((F : Int) + 1) = ((F + 1 : Nat) : Int) := by rw [IntKind.wrap_i64]; omega
        rcases hc with ⟨hst, hwt, m1, hask, hdr, m2, hsm, hnx⟩ | ⟨hst, m2, hsm, hnx⟩ | ⟨hst, m2, hsm, hnx⟩ | ⟨hst, hF31, z, hsm, hz7, hzs⟩
        · have HN := hid hnx
          have HA := hid hask
          have HD := hid hdr
          have HS := hid hsm
          have HW := hid hwt
          have HT := hid hst
          clear hnx hask hdr hsm hwt hst
          obtain ⟨x0, x1, x2, x3⟩ := H4.out.fr
          go_wp2_with fail
          with_reducible refine (nf_idle H4.out.nf).mono ?_
          rintro y w5 ⟨rfl, rfl⟩
          rw [HT.out]
          go_wp2_with fail
          with_reducible refine (nf_busy H4.out.nf).mono ?_
          rintro y w5 ⟨rfl, rfl⟩
          rw [HW.out]
          go_wp2_with fail
          have hq := nf_ask H4.out.nf f hw
          rw [fv_eq, HA.out] at hq
          with_reducible refine hq.mono ?_
          clear hq
          rintro y w5 ⟨rfl, h5, hgr⟩
          have H5 := hid (H4.out.at h5 hgr)
          clear H4 h5 hgr x0 x1 x2 x3
          simp only
          go_wp2_with fail
          with_reducible refine (nf_drive H5.out.nf).mono ?_
          rintro y w6 ⟨rfl, h6, hgr⟩
          rw [HD.out, show ((sg false).toNat : Int) = 48 from rfl]
          have H6 := hid (H5.out.at h6 hgr)
          clear H5 h6 hgr
          go_wp2_with fail
          with_reducible refine (nf_sample H6.out.nf false 48 rfl).mono ?_
          rintro y w7 ⟨v, rfl, h7, hev, hgr⟩
          rw [HS.out] at h7 hev
          have H7 := hid (H6.out.at h7 hgr)
          obtain ⟨q, cap, rfl, _⟩ := evs_one hev
          have HE := hid (show E1 w7 q ⟨6, Fm.zero, 0⟩ from ⟨_, cap, hev⟩)
          clear H6 h7 hgr hev
          go_wp2_with fail
          go_loopw [4, 7] (fun o k wr => ∃ j : Nat, j ≤ 1 ∧ k = .int .i64 j ∧ o = .int .i64 F ∧ NB w wr g p m2 f ∧ E1 wr q ⟨6, Fm.zero, 0⟩) (fun _ k _ => 1 - (intOf k).toNat)
          case atStart => exact ⟨0, by omega, rfl, rfl, H7.out, HE.out⟩
          case round =>
            clear H7 HE
            obtain ⟨j, hj, rfl, rfl, HX⟩ := hrel
            have H9 := hid HX
            clear HX
            rcases (show j = 0 ∨ j = 1 by omega) with rfl | rfl
            · obtain ⟨y0, y1, y2, y3, y4, y5⟩ := H9.out.2.get
              simp only at y0 y1 y2 y3 y4 y5
              go_wp2_with fail
              go_roundw
              case rel => exact ⟨1, by omega, by go_num, rfl, H9.out⟩
              case measure => simp [intOf]
            · go_wp2_with fail
              go_roundw
              case rel => exact ⟨n + 1, m2, F, HN.out, by go_num, rfl, H9.out.1⟩
              case measure => simp [intOf]; omega
        · have HN := hid hnx
          have HS := hid hsm
          have HT := hid hst
          clear hnx hsm hst
          go_wp2_with fail
          with_reducible refine (nf_idle H4.out.nf).mono ?_
          rintro y w5 ⟨rfl, rfl⟩
          rw [HT.out]
          go_wp2_with fail
          with_reducible refine (nf_drive H4.out.nf).mono ?_
          rintro y w6 ⟨rfl, h6, hgr⟩
          have H6 := hid (H4.out.at h6 hgr)
          clear H4 h6 hgr
          go_wp2_with fail
          with_reducible refine (nf_sample H6.out.nf m.drive _ (sg_48b _)).mono ?_
          rintro y w7 ⟨v, rfl, h7, hev, hgr⟩
          rw [HS.out] at h7 hev
          have H7 := hid (H6.out.at h7 hgr)
          obtain ⟨a, cap, rfl, _⟩ := evs_slice hev
          clear H6 h7 hgr hev
          go_wp2_with fail
          go_loopw [4, 7] (fun o k wr => k = .int .i64 0 ∧ o = .int .i64 F ∧ NB w wr g p m2 f) (fun _ _ _ => 0)
          case atStart => exact ⟨rfl, rfl, H7.out⟩
          case round =>
            clear H7
            obtain ⟨rfl, rfl, HX⟩ := hrel
            have H9 := hid HX
            clear HX
            go_wp2_with fail
            go_roundw
            case rel => exact ⟨n + 1, m2, F, HN.out, by go_num, rfl, H9.out⟩
            case measure => simp [intOf]; omega
        · have HN := hid hnx
          have HS := hid hsm
          have HT := hid hst
          clear hnx hsm hst
          go_wp2_with fail
          with_reducible refine (nf_idle H4.out.nf).mono ?_
          rintro y w5 ⟨rfl, rfl⟩
          rw [HT.out]
          go_wp2_with fail
          with_reducible refine (nf_drive H4.out.nf).mono ?_
          rintro y w6 ⟨rfl, h6, hgr⟩
          have H6 := hid (H4.out.at h6 hgr)
          clear H4 h6 hgr
          go_wp2_with fail
          with_reducible refine (nf_sample H6.out.nf m.drive _ (sg_48b _)).mono ?_
          rintro y w7 ⟨v, rfl, h7, hev, hgr⟩
          rw [HS.out] at h7 hev
          have H7 := hid (H6.out.at h7 hgr)
          obtain ⟨q, cap, rfl, _⟩ := evs_one hev
          have HE := hid (show E1 w7 q ⟨4, f, 71⟩ from ⟨_, cap, hev⟩)
          clear H6 h7 hgr hev
          go_wp2_with fail
          go_loopw [4, 7] (fun o k wr => ∃ j : Nat, j ≤ 1 ∧ k = .int .i64 j ∧ o = .int .i64 ((F + j : Nat) : Int) ∧ NB w wr g p m2 f ∧ E1 wr q ⟨4, f, 71⟩) (fun _ k _ => 1 - (intOf k).toNat)
          case atStart => exact ⟨0, by omega, rfl, rfl, H7.out, HE.out⟩
          case round =>
            clear H7 HE
            obtain ⟨j, hj, rfl, rfl, HX⟩ := hrel
            have H9 := hid HX
            clear HX
            rcases (show j = 0 ∨ j = 1 by omega) with rfl | rfl
            · obtain ⟨y0, y1, y2, y3, y4, y5⟩ := H9.out.2.get
              simp only at y0 y1 y2 y3 y4 y5
              go_wp2_with fail
              refine region_text (by kernel_rfl) (by kernel_rfl) (fun _ _ W => NB w W g p m2 f ∧ E1 W q ⟨4, f, 71⟩) ⟨H9.out.1.drew, H9.out.2.drew⟩ ?_
              clear H9
              iterate 15 ((try simp only [Act.put, List.setIfInBounds_toArray, List.set_cons_zero, List.set_cons_succ]); first
                | (refine t_skip (fun _ => rfl) (fun b γ W h => h) ?_)
                | (refine t_pure ?_ (fun _ => rfl) (fun b γ W h => h) (fun b γ W h _ => ?_) ?_; rotate_left; · (obtain ⟨y0, y1, y2, y3, y4, y5⟩ := h.2.get; obtain ⟨x0, x1, x2, x3⟩ := h.1.fr; simp only at y0 y1 y2 y3 y4 y5 x0 x1 x2 x3; go_simp; first | rfl | (simp; done))))
              refine t_end ?_
              intro bq gq w11 hall HX
              clear hall
              have H9 := hid HX
              clear HX
              (try simp only [Act.put, List.setIfInBounds_toArray, List.set_cons_zero, List.set_cons_succ])
              obtain ⟨y0, y1, y2, y3, y4, y5⟩ := H9.out.2.get
              simp only at y0 y1 y2 y3 y4 y5
              go_wp2_with fail
              go_roundw
              case rel => exact ⟨1, by omega, by go_num, by go_num, H9.out⟩
              case measure => simp [intOf]
            · go_wp2_with fail
              go_roundw
              case rel => exact ⟨n + 1, m2, F + 1, HN.out, by go_num, by go_num, H9.out.1⟩
              case measure => simp [intOf]; omega
        · have HS := hid hsm
          have HT := hid hst
          clear hsm hst
          go_wp2_with fail
          with_reducible refine (nf_idle H4.out.nf).mono ?_
          rintro y w5 ⟨rfl, rfl⟩
          rw [HT.out]
          go_wp2_with fail
          with_reducible refine (nf_drive H4.out.nf).mono ?_
          rintro y w6 ⟨rfl, h6, hgr⟩
          have H6 := hid (H4.out.at h6 hgr)
          clear H4 h6 hgr
          go_wp2_with fail
          with_reducible refine (nf_sample H6.out.nf m.drive _ (sg_48b _)).mono ?_
          rintro y w7 ⟨v, rfl, h7, hev, hgr⟩
          rw [HS.out] at h7 hev
          have H7 := hid (H6.out.at h7 hgr)
          subst hF31
          obtain ⟨q, cap, rfl, he2⟩ := evs_two hev
          have HE := hid he2
          have HZ := hid hz7
          have HZS := hid hzs
          clear H6 h7 hgr hev he2 hz7 hzs
          go_wp2_with fail
          go_loopw [4, 7] (fun o k wr => ∃ j : Nat, j ≤ 1 ∧ k = .int .i64 j ∧ o = .int .i64 ((31 + j : Nat) : Int) ∧ NB w wr g p z f ∧ E2 wr q ⟨4, f, 71⟩ ⟨7, Fm.zero, 0⟩) (fun _ k _ => 1 - (intOf k).toNat)
          case atStart => exact ⟨0, by omega, rfl, rfl, H7.out, HE.out⟩
          case round =>
            clear H7 HE
            obtain ⟨j, hj, rfl, rfl, HX⟩ := hrel
            have H9 := hid HX
            clear HX
            obtain ⟨y0, y1, y2, y3, y4, y5, y6⟩ := H9.out.2.get
            simp only at y0 y1 y2 y3 y4 y5 y6
            rcases (show j = 0 ∨ j = 1 by omega) with rfl | rfl
            · go_wp2_with fail
              clear y0 y1 y2 y3 y4 y5 y6
              refine region_text (by kernel_rfl) (by kernel_rfl) (fun _ _ W => NB w W g p z f ∧ E2 W q ⟨4, f, 71⟩ ⟨7, Fm.zero, 0⟩) ⟨H9.out.1.drew, H9.out.2.drew⟩ ?_
              clear H9
              iterate 15 ((try simp only [Act.put, List.setIfInBounds_toArray, List.set_cons_zero, List.set_cons_succ]); first
                | (refine t_skip (fun _ => rfl) (fun b γ W h => h) ?_)
                | (refine t_pure ?_ (fun _ => rfl) (fun b γ W h => h) (fun b γ W h _ => ?_) ?_; rotate_left; · (obtain ⟨y0, y1, y2, y3, y4, y5, y6⟩ := h.2.get; obtain ⟨x0, x1, x2, x3⟩ := h.1.fr; simp only at y0 y1 y2 y3 y4 y5 x0 x1 x2 x3; go_simp; first | rfl | (simp; done))))
              refine t_end ?_
              intro bq gq w11 hall HX
              clear hall
              have H9 := hid HX
              clear HX
              (try simp only [Act.put, List.setIfInBounds_toArray, List.set_cons_zero, List.set_cons_succ])
              obtain ⟨y0, y1, y2, y3, y4, y5, y6⟩ := H9.out.2.get
              simp only at y0 y1 y2 y3 y4 y5
              go_wp2_with fail
              go_roundw
              case rel => exact ⟨1, by omega, by go_num, by go_num, H9.out⟩
              case measure => simp [intOf]
            · obtain ⟨x0, x1, x2, x3⟩ := H9.out.1.fr
              go_wp2_with fail
              have hq := nf_ask H9.out.1.nf f hw
              rw [fv_eq, off_ask HZ.out] at hq
              with_reducible refine hq.mono ?_
              clear hq
              rintro y w10 ⟨rfl, h10, hgr⟩
              have H10 := hid (H9.out.1.at h10 hgr)
              clear H9 h10 hgr x0 x1 x2 x3 y0 y1 y2 y3 y4 y5 y6
              simp only
              go_wp2_with fail
              with_reducible refine (nf_drive H10.out.nf).mono ?_
              rintro y w11 ⟨rfl, h11, hgr⟩
              rw [off_drive HZ.out, show ((sg true).toNat : Int) = 49 from rfl]
              have H11 := hid (H10.out.at h11 hgr)
              clear H10 h11 hgr
              go_wp2_with fail
              with_reducible refine (nf_sample H11.out.nf false 48 rfl).mono ?_
              rintro y w12 ⟨v, rfl, h12, hev, hgr⟩
              rw [off_sample HZ.out] at h12 hev
              obtain ⟨a, cap, rfl, _⟩ := evs_slice hev
              have H12 := hid (H11.out.at h12 hgr)
              clear H11 h12 hgr hev
              go_wp2_with fail
              with_reducible refine (nf_counts H12.out.nf).mono ?_
              rintro y w13 ⟨rfl, h13, hb13⟩
              rw [HZS.out]
              have H13 := hid (H12.out.later hb13)
              clear H12 h13 hb13
              go_wp2_with fail
              go_ret
              exact ⟨rfl, by subst hp; exact H13.out.nf.nd.below⟩
  · go_wp2_with fail
    go_ret
    exact ⟨rfl, by subst hp; exact HC.out.below⟩
theorem alone_walk (e : Bool) (i : Int) (r : Bool) (d : ByteArray) (w : World) (h : (Lit.int .u32 i).wf = true) (_ : d.size ≤ 9223372036854775807) :
    Calls Try.prog 9 #[.agg #[.bool e, .int .u32 i, .bool r, .string d]] w fun e w' => e = .returned (.bool true) ∧ Below w.heap.size w w' :=
  alone_calls ⟨e, i, r, d⟩ w (by have := bounds_u32 h; unfold Fm.wf; simp only; omega)
end Go.Proofs.Ytgmjofcbdimjgaa.MacL
