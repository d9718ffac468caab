/- MacCancels (layer 7): what waits can be cancelled, what is being sent can't; cancelled it isn't sent. Conditions: none beyond the types of the arguments; what is no frame is let pass. -/
import Derived.Test.YtgmjofcbdimjgaaMacKnown
import Derived.Test.YtgmjofcbdimjgaaMacIdle
import Derived.Test.YtgmjofcbdimjgaaRefT
namespace Go.Proofs.Ytgmjofcbdimjgaa.MacL
set_option linter.unusedVariables false
set_option linter.unusedSimpArgs false
open Go Go.RowKit Go.Proofs.Ytgmjofcbdimjgaa.Lib Go.Proofs.Ytgmjofcbdimjgaa.Bits Go.Proofs.Ytgmjofcbdimjgaa.BitsW Go.Proofs.Ytgmjofcbdimjgaa.StuffW Go.Proofs.Ytgmjofcbdimjgaa.Frame Go.Proofs.Ytgmjofcbdimjgaa.FrameW Go.Proofs.Ytgmjofcbdimjgaa.Code Go.Proofs.Ytgmjofcbdimjgaa.CodeW Go.Proofs.Ytgmjofcbdimjgaa.CodeL Go.Proofs.Ytgmjofcbdimjgaa.Mac Go.Proofs.Ytgmjofcbdimjgaa.MacW Go.Proofs.Ytgmjofcbdimjgaa.RefW Go.Proofs.Ytgmjofcbdimjgaa.PrintMore
attribute [local go_sem] max2_int min2_int max_two min_two
attribute [local go_sem] field_got field_sent
attribute [local go_sem high] eqA24
/-- A new node that was asked, j bits later. -/
def caM (f : Fm) (j : Nat) : M := if j < 3 then { nw j with waits := true, f := f } else sdM f (j - 3)
structure CaF (f : Fm) (m : Nat → M) : Prop where
  first : M.new.ask f = (m 0, 0)
  step : ∀ j, j < 7 → ∃ ev, (m j).sample (m j).drive = (m (j + 1), ev)
  yes : ∀ j, j < 4 → (m j).cancel = (nw j, true)
  no : ∀ j, 4 ≤ j → (m j).cancel = (m j, false)
  busy : ∀ j, (m j).waits = true
theorem ca_lo {f : Fm} {j : Nat} (h : j < 3) : caM f j = { nw j with waits := true, f := f } := if_pos h
theorem ca_hi {f : Fm} {j : Nat} (h : 3 ≤ j) : caM f j = sdM f (j - 3) := if_neg (by omega)
theorem ca_facts {f : Fm} (h : f.Good) : CaF f (caM f) := by
  have hl := ack_long h
  have hok := h.ok
  refine ⟨?_, fun j hj => ?_, fun j hj => ?_, fun j hj => ?_, fun j => ?_⟩
  · unfold M.ask
    rw [if_neg (by decide), if_neg (by rw [hok]; decide), if_neg (by decide)]
    rfl
  · by_cases h3 : j < 3
    · match j, h3 with
      | 0, _ => exact ⟨_, rfl⟩
      | 1, _ => exact ⟨_, rfl⟩
      | 2, _ => exact ⟨_, rfl⟩
    · rw [ca_hi (by omega), ca_hi (show 3 ≤ j + 1 by omega), show j + 1 - 3 = (j - 3) + 1 by omega]
      have hd : (sdM f (j - 3)).drive = f.ack[j - 3]'(by omega) := by
        by_cases h0 : j - 3 = 0
        · simp only [h0]
          rw [ack_get f (by omega)]
          rfl
        · have e : sdM f (j - 3) = sendM { idleM with waits := true, f := f } f (j - 3) := if_neg h0
          rw [e, drive_send h (m := sendM { idleM with waits := true, f := f } f (j - 3)) (j := j - 3) rfl rfl rfl rfl (by omega), if_neg (by omega)]
      rw [hd]
      exact ⟨_, sd_step h (by omega)⟩
  · match j, hj with
    | 0, _ => rfl
    | 1, _ => rfl
    | 2, _ => rfl
    | 3, _ => rfl
  · rw [ca_hi (by omega)]
    have e : sdM f (j - 3) = sendM { idleM with waits := true, f := f } f (j - 3) := if_neg (by omega)
    rw [e]
    unfold M.cancel
    rw [if_pos (.inr rfl)]
  · by_cases h3 : j < 3
    · rw [ca_lo h3]
    · rw [ca_hi (by omega)]
      unfold sdM
      split
      · rfl
      · rfl
theorem code_some {f : Fm} (h : f.ok = true) : (((codeF f.e f.i f.r f.d).size : Int) == 0) = false ∧ (((codeF f.e f.i f.r f.d).size : Int) = 0) = False ∧ ((codeF f.e f.i f.r f.d).size = 0) = False := by
  have h1 : (codeF f.e f.i f.r f.d).size ≠ 0 := by
    intro h2
    have := (codeF_zero f.e f.i f.r f.d).1 h2
    rw [show okF f.e f.i f.r f.d = f.ok from rfl, h] at this
    cases this
  exact ⟨beq_eq_false_iff_ne.2 (by omega), eq_false (by omega), eq_false h1⟩
theorem code_none {f : Fm} (h : f.ok = false) : ((codeF f.e f.i f.r f.d).size : Int) = 0 := by
  have := (codeF_zero f.e f.i f.r f.d).2 h
  omega
set_option maxRecDepth 100000 in
set_option maxHeartbeats 6400000 in
theorem cancels_calls (f : Fm) (a : Int) (w : World) (hw : f.wf) (ha : 0 ≤ a ∧ a < 256) : Calls Try.prog 11 #[.agg #[.bool f.e, .int .u32 f.i, .bool f.r, .string f.d], .int .u8 a] w fun e w' => e = .returned (.bool true) ∧ Below w.heap.size w w' := by
  have HB := hid (BX.make w f)
  have HA := hid ha
  clear ha
  go_enter Try.func11, Try.ntmps11
  go_wp2_with fail
  with_reducible refine (known_calls _).mono ?_
  rintro y w1 ⟨rfl, hb⟩
  have HC := hid (HB.out.later hb)
  clear HB hb
  generalize hp : w.heap.size = p at HC ⊢
  obtain ⟨x0, x1, x2, x3⟩ := HC.out.fr
  by_cases h20 : f.d.size ≤ 20
  · go_wp2_with fail
    have hq := len_calls f.e f.i f.r f.d w1 hw
    with_reducible refine hq.mono ?_
    clear hq
    rintro y w2 ⟨rfl, hb⟩
    have HD := hid (HC.out.later hb)
    clear HC hb x0 x1 x2 x3
    obtain ⟨x0, x1, x2, x3⟩ := HD.out.fr
    cases hok : f.ok
    · rw [code_none hok]
      go_wp2_with fail
      go_ret
      exact ⟨rfl, by subst hp; exact HD.out.below⟩
    · have hg : f.Good := ⟨hok, hw⟩
      obtain ⟨c1, c2, c3⟩ := code_some hok
      go_wp2_with fail
      have hq := nf_new HD.out.below
      with_reducible refine hq.mono ?_
      clear hq
      rintro y w3 ⟨rfl, h3, hb3⟩
      have H3 := hid (HD.out.nb h3 (Nat.le_refl _) hb3)
      clear h3 hb3 HD x0 x1 x2 x3 c1 c2 c3 h20
      generalize w2.heap.size = g at H3 ⊢
      obtain ⟨k, hk, hk2⟩ : ∃ k : Nat, a.tmod 8 = (k : Int) ∧ k < 8 := by
        have e : a.tmod 8 = a % 8 := Int.tmod_eq_emod_of_nonneg HA.out.1
        exact ⟨(a % 8).toNat, by rw [e]; omega, by omega⟩
      have ha1 := HA.out.1
      have ha2 := HA.out.2
      obtain ⟨x0, x1, x2, x3⟩ := H3.out.fr
      go_wp2_with fail
      have hF := ca_facts hg
      have hq := nf_ask H3.out.nf f hw
      rw [fv_eq, hF.first] at hq
      with_reducible refine hq.mono ?_
      clear hq
      rintro y w4 ⟨rfl, h4, hgr⟩
      have H4 := hid (H3.out.at h4 hgr)
      clear H3 h4 hgr x0 x1 x2 x3 hk ha1 ha2
      generalize caM f = m at hF H4
      have HF := hid hF
      clear hF
      simp only
      go_wp2_with fail
      go_loopw [7] (fun i wr => ∃ j : Nat, j ≤ k ∧ i = .int .i64 j ∧ NB w wr g p (m j) f) (fun i _ => k - (intOf i).toNat)
      case atStart => exact ⟨0, Nat.zero_le _, rfl, H4.out⟩
      case round =>
        clear H4
        obtain ⟨j, hj, rfl, HX⟩ := hrel
        have H4 := hid HX
        clear HX
        by_cases hlt : j < k
        · have u0 : ((j : Int) < (k : Int)) = True := eq_true (by omega)
          have u1 : decide ((j : Int) < (k : Int)) = true := decide_eq_true (by omega)
          have u2 : IntKind.i64.wrap ((j : Int) + 1) = ((j + 1 : Nat) : Int) := by rw [IntKind.wrap_i64]; omega
          have u3 : (j < k) = True := eq_true hlt
          go_wp2_with fail
          with_reducible refine (nf_drive H4.out.nf).mono ?_
          rintro y w5 ⟨rfl, h5, hgr⟩
          have H5 := hid (H4.out.at h5 hgr)
          clear H4 h5 hgr
          go_wp2_with fail
          with_reducible refine (nf_sample H5.out.nf (m j).drive _ (sg_48b _)).mono ?_
          rintro y w6 ⟨v, rfl, h6, _, hgr⟩
          obtain ⟨ev, hs⟩ := HF.out.step j (by omega)
          rw [hs] at h6
          have H6 := hid (H5.out.at h6 hgr)
          clear H5 h6 hgr hs
          go_wp2_with fail
          go_roundw
          case rel => exact ⟨j + 1, by omega, by go_num, H6.out⟩
          case measure => simp [intOf]; omega
        · obtain rfl : j = k := by omega
          go_wp2_with fail
          have hq := nf_cancel H4.out.nf
          by_cases h4 : j < 4
          · rw [HF.out.yes j h4] at hq
            with_reducible refine hq.mono ?_
            clear hq
            rintro y w5 ⟨rfl, h5, hgr⟩
            have H5 := hid (H4.out.at h5 hgr)
            clear H4 h5 hgr
            have v1 : decide ((j : Int) < 4) = true := decide_eq_true (by omega)
            have v2 : ((j : Int) < 4) = True := eq_true (by omega)
            have v3 : (j < 4) = True := eq_true h4
            simp only
            go_wp2_with fail
            go_loopw [9] (fun i wr => ∃ l : Nat, l ≤ 20 ∧ i = .int .i64 l ∧ NB w wr g p (nw (j + l)) f) (fun i _ => 20 - (intOf i).toNat)
            case atStart => exact ⟨0, Nat.zero_le _, rfl, H5.out⟩
            case round =>
              clear H5
              obtain ⟨l, hl, rfl, HX⟩ := hrel
              have H6 := hid HX
              clear HX
              by_cases hlt : l < 20
              · have u0 : ((l : Int) < 20) = True := eq_true (by omega)
                have u1 : decide ((l : Int) < 20) = true := decide_eq_true (by omega)
                have u2 : IntKind.i64.wrap ((l : Int) + 1) = ((l + 1 : Nat) : Int) := by rw [IntKind.wrap_i64]; omega
                have u3 : (l < 20) = True := eq_true hlt
                go_wp2_with fail
                with_reducible refine (nf_drive H6.out.nf).mono ?_
                rintro y w7 ⟨rfl, h7, hgr⟩
                rw [nw_drive, show ((sg true).toNat : Int) = 49 from rfl]
                have H7 := hid (H6.out.at h7 hgr)
                clear H6 h7 hgr
                go_wp2_with fail
                with_reducible refine (nf_sample H7.out.nf true 49 rfl).mono ?_
                rintro y w8 ⟨v, rfl, h8, hev, hgr⟩
                rw [nw_step] at h8 hev
                obtain ⟨b, cap, rfl, _⟩ := evs_slice hev
                have H8 := hid (H7.out.at h8 hgr)
                clear H7 h8 hgr hev
                go_wp2_with fail
                go_roundw
                case rel => exact ⟨l + 1, by omega, by go_num, H8.out⟩
                case measure => simp [intOf]; omega
              · obtain rfl : l = 20 := by omega
                have hb : (nw (j + 20)).waits = false := by rw [nw_idle (by omega)]; rfl
                have HBU := hid hb
                clear hb
                go_wp2_with fail
                with_reducible refine (nf_busy H6.out.nf).mono ?_
                rintro y w7 ⟨rfl, rfl⟩
                rw [HBU.out]
                go_wp2_with fail
                with_reducible refine (is01_calls _).mono ?_
                rintro y w8 ⟨rfl, hb⟩
                have H8 := hid (H6.out.later hb)
                clear H6 hb
                go_wp2_with fail
                go_ret
                exact ⟨rfl, by subst hp; exact H8.out.nf.nd.below⟩
          · rw [HF.out.no j (by omega)] at hq
            with_reducible refine hq.mono ?_
            clear hq
            rintro y w5 ⟨rfl, h5, hgr⟩
            have H5 := hid (H4.out.at h5 hgr)
            clear H4 h5 hgr
            have v1 : decide ((j : Int) < 4) = false := decide_eq_false (by omega)
            have v2 : ((j : Int) < 4) = False := eq_false (by omega)
            have v3 : (j < 4) = False := eq_false h4
            simp only
            go_wp2_with fail
            go_loopw [9] (fun i wr => i = .int .i64 0 ∧ NB w wr g p (m j) f) (fun i _ => 0)
            case atStart => exact ⟨rfl, H5.out⟩
            case round =>
              clear H5
              obtain ⟨rfl, HX⟩ := hrel
              have H6 := hid HX
              clear HX
              go_wp2_with fail
              with_reducible refine (nf_busy H6.out.nf).mono ?_
              rintro y w7 ⟨rfl, rfl⟩
              rw [HF.out.busy j]
              go_wp2_with fail
              with_reducible refine (is01_calls _).mono ?_
              rintro y w8 ⟨rfl, hb⟩
              have H8 := hid (H6.out.later hb)
              clear H6 hb
              go_wp2_with fail
              go_ret
              exact ⟨rfl, by subst hp; exact H8.out.nf.nd.below⟩
  · go_wp2_with fail
    go_ret
    exact ⟨rfl, by subst hp; exact HC.out.below⟩
theorem cancels_walk (e : Bool) (i : Int) (r : Bool) (d : ByteArray) (a : Int) (w : World) (h : (Lit.int .u32 i).wf = true) (_ : d.size ≤ 9223372036854775807) (h3 : (Lit.int .u8 a).wf = true) :
    Calls Try.prog 11 #[.agg #[.bool e, .int .u32 i, .bool r, .string d], .int .u8 a] w fun e w' => e = .returned (.bool true) ∧ Below w.heap.size w w' :=
  cancels_calls ⟨e, i, r, d⟩ a w (by have := bounds_u32 h; unfold Fm.wf; simp only; omega) (by have := bounds_u8 h3; omega)
end Go.Proofs.Ytgmjofcbdimjgaa.MacL
