/- MacBit (layer 7): a sender that sees another bit than its own, but within its arbitration, fails at once. Conditions: none beyond the types of the arguments; what is no frame is let pass. -/
import Derived.Test.YtgmjofcbdimjgaaMacKnown
import Derived.Test.YtgmjofcbdimjgaaMacIdle
import Derived.Test.YtgmjofcbdimjgaaMacArb
import Derived.Test.YtgmjofcbdimjgaaRefT
namespace Go.Proofs.Ytgmjofcbdimjgaa.MacL
set_option linter.unusedVariables false
set_option linter.unusedSimpArgs false
open Go Go.RowKit Go.Proofs.Ytgmjofcbdimjgaa.Lib Go.Proofs.Ytgmjofcbdimjgaa.Bits Go.Proofs.Ytgmjofcbdimjgaa.BitsW Go.Proofs.Ytgmjofcbdimjgaa.StuffW Go.Proofs.Ytgmjofcbdimjgaa.Frame Go.Proofs.Ytgmjofcbdimjgaa.FrameW Go.Proofs.Ytgmjofcbdimjgaa.Code Go.Proofs.Ytgmjofcbdimjgaa.CodeW Go.Proofs.Ytgmjofcbdimjgaa.CodeL Go.Proofs.Ytgmjofcbdimjgaa.Mac Go.Proofs.Ytgmjofcbdimjgaa.MacW Go.Proofs.Ytgmjofcbdimjgaa.RefW Go.Proofs.Ytgmjofcbdimjgaa.PrintMore
attribute [local go_sem] max2_int min2_int max_two min_two
attribute [local go_sem] field_got field_sent
attribute [local go_sem high] eqA24
structure BiF (f : Fm) (A : List Bool) (n : Nat) (m e : Nat → M) : Prop where
  len : A.length = n
  lo : 44 ≤ n
  hi : n ≤ 246
  first : idleM.ask f = (m 0, 0)
  step : ∀ j, j + 1 < n → ∃ ev, (m j).sample (bitAt A j) = (m (j + 1), ev)
  hit : ∀ k, 40 ≤ k → k < n → k + 9 ≠ n → (m k).sample (!(bitAt A k)) = (e k, [⟨4, f, 70⟩])
  sent : ∀ k, (e k).sent = 8
  busy : ∀ k, (e k).waits = false
def biE (f : Fm) (k : Nat) : M := { (sendM { idleM with waits := true, f := f } f k).done with sent := 8, st := 3, left := 6 }
theorem send_on {m : M} {f : Fm} {j : Nat} (h0 : 0 < j) (hj : j < f.ack.length) : OnOk (sendM m f j) := ⟨rfl, rfl, rfl, rfl, h0, hj, rfl⟩
theorem bi_facts {f : Fm} (h : f.Good) : BiF f f.ack f.ack.length (sdM f) (biE f) := by
  have hl := ack_long h
  have har : f.arb ≤ 40 := by
    unfold Fm.arb
    rw [if_pos h.ok]
    exact arb_short40 _ _ _
  refine ⟨rfl, hl.1, hl.2, idle_asked h, fun j hj => ?_, fun k h40 hk h9 => ?_, fun k => rfl, fun k => rfl⟩
  · rw [bitAt_eq _ _ (by omega)]
    exact ⟨_, sd_step h hj⟩
  · rw [bitAt_eq _ _ hk]
    have e : sdM f k = sendM { idleM with waits := true, f := f } f k := if_neg (by omega)
    rw [e]
    have o : OnOk (sendM { idleM with waits := true, f := f } f k) := send_on (by omega) hk
    have hs : (sendM { idleM with waits := true, f := f } f k).sample (!(f.ack[k])) = (sendM { idleM with waits := true, f := f } f k).sends (!(f.ack[k])) := by
      unfold M.sample
      rw [if_neg (by show ¬ (1 : Int) = 0; decide), if_pos (by show (1 : Int) = 1; rfl), if_pos (by show true = true; rfl)]
    rw [hs]
    have hp : (sendM { idleM with waits := true, f := f } f k).pos = k := rfl
    have hf : (sendM { idleM with waits := true, f := f } f k).f = f := rfl
    have hx : ∀ (c : Bool), (!c) ≠ c := by decide
    rcases on_cases (m := sendM { idleM with waits := true, f := f } f k) h o (!(f.ack[k])) with ⟨⟨_, _, q⟩, _⟩ | ⟨q, _⟩ | ⟨_, _, _, q⟩ | ⟨q, _⟩ | ⟨q, _⟩
    · rw [hp, hf] at q; omega
    · rw [hp, hf] at q; exact absurd q h9
    · rw [q]
      rfl
    · exact absurd q (hx _)
    · exact absurd q (hx _)
set_option maxRecDepth 100000 in
set_option maxHeartbeats 6400000 in
theorem bit_law (f : Fm) (a : Int) (w : World) (hw : f.wf) (ha : 0 ≤ a ∧ a < 256) : Calls Try.prog 6 #[.agg #[.bool f.e, .int .u32 f.i, .bool f.r, .string f.d], .int .u8 a] w fun e w' => e = .returned (.bool true) ∧ Below w.heap.size w w' := by
  have HB := hid (BX.make w f)
  have HA := hid ha
  clear ha
  go_enter Try.func6, Try.ntmps6
  go_wp2_with fail
  with_reducible refine (known_calls _).mono ?_
  rintro y w1 ⟨rfl, hb⟩
  have HC := hid (HB.out.later hb)
  clear HB hb
  generalize hp : w.heap.size = p at HC ⊢
  obtain ⟨x0, x1, x2, x3⟩ := HC.out.fr
  go_wp2_with fail
  have hq := acked_calls f.e f.i f.r f.d w1 hw
  with_reducible refine hq.mono ?_
  clear hq
  rintro y w2 ⟨rfl, hb⟩
  have HD := hid (HC.out.later hb)
  clear HC hb x0 x1 x2 x3
  obtain ⟨x0, x1, x2, x3⟩ := HD.out.fr
  cases hok : f.ok
  · rw [ackF_no hok]
    by_cases h20 : f.d.size ≤ 20
    · go_wp2_with fail
      go_ret
      exact ⟨rfl, by subst hp; exact HD.out.below⟩
    · go_wp2_with fail
      go_ret
      exact ⟨rfl, by subst hp; exact HD.out.below⟩
  · have hgood : f.Good := ⟨hok, hw⟩
    have h20 : f.d.size ≤ 20 := by have := ok_data hok; omega
    rw [show ackF f.e f.i f.r f.d = B f.ack from f_ackF hgood]
    have hem := ack_full hgood
    have hd20 : decide (20 < (f.d.size : Int)) = false := decide_eq_false (by omega)
    have hF := bi_facts hgood
    have hsz := B_size f.ack
    have HIX := hid (idx_at f.ack)
    have HTI := hid (fun k => idx_at (turn f.ack k))
    have HTU := hid (fun k (h : k < f.ack.length) w => rturn_calls f.ack k (by have := ack_long hgood; omega) h w)
    have HTB := hid (fun k (h : k < f.ack.length) => (show bitAt (turn f.ack k) k = !(bitAt f.ack k) from by
      rw [bitAt_eq _ _ (by rw [turn_length]; exact h), bitAt_eq _ _ h]; unfold turn; rw [List.getElem_modify, if_pos rfl]))
    have HTL := hid (fun k => turn_length f.ack k)
    generalize f.ack = A at hF hsz HIX HTI HTU HTB HTL hem ⊢
    generalize A.length = n at hF hsz HIX HTI HTU HTB HTL
    generalize sdM f = m at hF
    generalize biE f = e at hF
    have hn1 := hF.lo
    have hn2 := hF.hi
    have HF := hid hF
    clear hF
    have ha1 := HA.out.1
    have ha2 := HA.out.2
    obtain ⟨k, hk, hk2⟩ : ∃ k : Nat, a.tmod (n : Int) = (k : Int) ∧ k < n := by
      have e : a.tmod (n : Int) = a % (n : Int) := Int.tmod_eq_emod_of_nonneg HA.out.1
      have e1 := Int.emod_nonneg a (b := (n : Int)) (by omega)
      have e2 := Int.emod_lt_of_pos a (b := (n : Int)) (by omega)
      exact ⟨(a % (n : Int)).toNat, by rw [e]; omega, by omega⟩
    have u9 : IntKind.i64.wrap ((n : Int) - 9) = (n : Int) - 9 := by rw [IntKind.wrap_i64]; omega
    by_cases hk40 : k < 40
    · have v1 : ((k : Int) < 40) = True := eq_true (by omega)
      have v2 : decide ((k : Int) < 40) = true := decide_eq_true (by omega)
      have v3 : (k < 40) = True := eq_true hk40
      go_wp2_with fail
      go_ret
      exact ⟨rfl, by subst hp; exact HD.out.below⟩
    · have v1 : ((k : Int) < 40) = False := eq_false (by omega)
      have v2 : decide ((k : Int) < 40) = false := decide_eq_false (by omega)
      have v3 : (k < 40) = False := eq_false hk40
      by_cases h9 : k + 9 = n
      · have v4 : ((k : Int) == (n : Int) - 9) = true := by simp; omega
        have v5 : ((k : Int) = (n : Int) - 9) = True := eq_true (by omega)
        go_wp2_with fail
        go_ret
        exact ⟨rfl, by subst hp; exact HD.out.below⟩
      · have v4 : ((k : Int) == (n : Int) - 9) = false := by simp; omega
        have v5 : ((k : Int) = (n : Int) - 9) = False := eq_false (by omega)
        go_wp2_with fail
        have hq := idle_calls (w0 := w) HD.out.below
        with_reducible refine hq.mono ?_
        clear hq
        rintro y w3 ⟨rfl, h3, hb3⟩
        have H3 := hid (HD.out.nb h3 (Nat.le_refl _) hb3)
        clear h3 hb3 HD x0 x1 x2 x3 hd20 h20 hem v1 v2 v3 v4 v5 u9 ha1 ha2 hk
        generalize w2.heap.size = g at H3 ⊢
        obtain ⟨x0, x1, x2, x3⟩ := H3.out.fr
        go_wp2_with fail
        have hq := nf_ask H3.out.nf f hw
        rw [fv_eq, HF.out.first] at hq
        with_reducible refine hq.mono ?_
        clear hq
        rintro y w4 ⟨rfl, h4, hgr⟩
        have H4 := hid (H3.out.at h4 hgr)
        clear H3 h4 hgr x0 x1 x2 x3
        simp only
        go_wp2_with fail
        go_loopw [8] (fun i wr => ∃ j : Nat, j ≤ k ∧ i = .int .i64 j ∧ NB w wr g p (m j) f) (fun i _ => k - (intOf i).toNat)
        case atStart => exact ⟨0, Nat.zero_le _, rfl, H4.out⟩
        case round =>
          clear H4
          obtain ⟨j, hj, rfl, HX⟩ := hrel
          have H4 := hid HX
          clear HX
          by_cases hlt : j < k
          · have u0 : ((j : Int) < (k : Int)) = True := eq_true (by omega)
            have u1 : decide ((j : Int) < (k : Int)) = true := decide_eq_true (by omega)
            have u2 : IntKind.i64.wrap ((j : Int) + 1) = ((j + 1 : Nat) : Int) := by rw [IntKind.wrap_i64]; omega
            have u3 : (j < k) = True := eq_true hlt
            have hx := HIX.out j (by omega)
            go_wp2_with fail
            with_reducible refine (nf_sample H4.out.nf (bitAt A j) _ (sg_48b _)).mono ?_
            rintro y w6 ⟨v, rfl, h6, _, hgr⟩
            obtain ⟨ev, hs⟩ := HF.out.step j (by omega)
            rw [hs] at h6
            have H6 := hid (H4.out.at h6 hgr)
            clear H4 h6 hgr hs hx
            go_wp2_with fail
            go_roundw
            case rel => exact ⟨j + 1, by omega, by go_num, H6.out⟩
            case measure => simp [intOf]; omega
          · obtain rfl : j = k := by omega
            have hx := HTI.out j j (by rw [HTL.out]; omega)
            rw [HTB.out j hk2] at hx
            go_wp2_with fail
            with_reducible refine (HTU.out j hk2 _).mono ?_
            rintro y w5 ⟨rfl, hb⟩
            have H5 := hid (H4.out.later hb)
            clear H4 hb
            go_wp2_with fail
            with_reducible refine (nf_sample H5.out.nf (!(bitAt A j)) _ (sg_48b _)).mono ?_
            rintro y w6 ⟨v, rfl, h6, hev, hgr⟩
            rw [HF.out.hit j (by omega) hk2 h9] at h6 hev
            have H6 := hid (H5.out.at h6 hgr)
            obtain ⟨q, cap, rfl, _⟩ := evs_one hev
            have HE := hid (show E1 w6 q ⟨4, f, 70⟩ from ⟨_, cap, hev⟩)
            clear H5 h6 hgr hx hev
            have HS := hid (HF.out.sent j)
            have HW := hid (HF.out.busy j)
            generalize e j = mz at H6 HS HW
            generalize w6 = W6 at H6 HE ⊢
            go_wp2_with fail
            refine region_text (by kernel_rfl) (by kernel_rfl) (fun _ _ W => NB w W g p mz f ∧ E1 W q ⟨4, f, 70⟩) ⟨H6.out.drew, HE.out.drew⟩ ?_
            clear H6 HE
            iterate 37 ((try simp only [Act.put, List.setIfInBounds_toArray, List.set_cons_zero, List.set_cons_succ]); first
              | (refine t_skip (fun _ => rfl) (fun b γ W h => h) ?_)
              | (refine t_call (.bool false) (fun _ => rfl) (f := 19) (args := #[.pointer (some ⟨g, 0, none⟩)]) ?_ (fun b γ W h _ => (nf_busy h.1.nf).mono (fun e w2 h2 => ⟨by rw [h2.1, HW.out], by rw [← h2.2]; exact h⟩)) ?_; · (intro b γ W h _; go_simp; done))
              | (refine t_call (.agg #[.int .i64 8, .int .i64 mz.got]) (fun _ => rfl) (f := 22) (args := #[.pointer (some ⟨g, 0, none⟩)]) ?_ (fun b γ W h _ => (nf_counts h.1.nf).mono (fun e w2 h2 => ⟨by rw [h2.1, HS.out], h.1.later h2.2.2, h.2.later h2.2.2⟩)) ?_; · (intro b γ W h _; go_simp; done))
              | (refine t_pure ?_ (fun _ => rfl) (fun b γ W h => h) (fun b γ W h _ => ?_) ?_; rotate_left; · (obtain ⟨y0, y1, y2, y3, y4, y5⟩ := h.2.get; obtain ⟨x0, x1, x2, x3⟩ := h.1.fr; simp only at y0 y1 y2 y3 y4 y5 x0 x1 x2 x3; go_simp; first | rfl | (simp; done))))
            refine t_end ?_
            intro bq gq w11 hall hS
            clear hall
            (try simp only [Act.put, List.setIfInBounds_toArray, List.set_cons_zero, List.set_cons_succ])
            go_wp2_with fail
            go_ret
            exact ⟨rfl, by subst hp; exact hS.1.nf.nd.below⟩
theorem bit_walk (e : Bool) (i : Int) (r : Bool) (d : ByteArray) (a : Int) (w : World) (h : (Lit.int .u32 i).wf = true) (_ : d.size ≤ 9223372036854775807) (h3 : (Lit.int .u8 a).wf = true) :
    Calls Try.prog 6 #[.agg #[.bool e, .int .u32 i, .bool r, .string d], .int .u8 a] w fun e w' => e = .returned (.bool true) ∧ Below w.heap.size w w' :=
  bit_law ⟨e, i, r, d⟩ a w (by have := bounds_u32 h; unfold Fm.wf; simp only; omega) (by have := bounds_u8 h3; omega)
end Go.Proofs.Ytgmjofcbdimjgaa.MacL
