/- MacHears (layer 7): a frame on the wire comes at the sixth of its last seven bits; the node says so with the second bit behind the sum. Conditions: none beyond the types of the arguments; what is no frame is let pass. -/
import Derived.Test.YtgmjofcbdimjgaaMacKnown
import Derived.Test.YtgmjofcbdimjgaaMacIdle
import Derived.Test.YtgmjofcbdimjgaaMacHear
namespace Go.Proofs.Ytgmjofcbdimjgaa.MacL
set_option linter.unusedVariables false
set_option linter.unusedSimpArgs false
open Go Go.RowKit Go.Proofs.Ytgmjofcbdimjgaa.Lib Go.Proofs.Ytgmjofcbdimjgaa.Bits Go.Proofs.Ytgmjofcbdimjgaa.BitsW Go.Proofs.Ytgmjofcbdimjgaa.StuffW Go.Proofs.Ytgmjofcbdimjgaa.Frame Go.Proofs.Ytgmjofcbdimjgaa.FrameW Go.Proofs.Ytgmjofcbdimjgaa.Code Go.Proofs.Ytgmjofcbdimjgaa.CodeW Go.Proofs.Ytgmjofcbdimjgaa.Mac Go.Proofs.Ytgmjofcbdimjgaa.MacW Go.Proofs.Ytgmjofcbdimjgaa.PrintMore
attribute [local go_sem] max2_int min2_int max_two min_two
attribute [local go_sem] field_got field_sent
attribute [local go_sem high] eqA24
/-- An idle node behind j bits of f. -/
def heM (f : Fm) (j : Nat) : M := if j = 0 then idleM else hrM idleM f j
theorem he_step {f : Fm} (h : f.Good) {j : Nat} (hj : j + 1 < f.ack.length) : (heM f j).sample (f.ack[j]'(by omega)) = (heM f (j + 1), hrE f j) := by
  have e : heM f (j + 1) = hrM idleM f (j + 1) := if_neg (by omega)
  rw [e]
  by_cases h0 : j = 0
  · subst h0
    rw [ack_get f (by omega)]
    exact hr_first h rfl rfl rfl
  · have e0 : heM f j = hrM idleM f j := if_neg h0
    rw [e0]
    exact hr_next h rfl rfl hj (by omega)
theorem he_last {f : Fm} (h : f.Good) {j : Nat} (hj : j + 1 = f.ack.length) (c : Bool) : (heM f j).sample c = (heM f (j + 1), hrE f j) := by
  have hl := ack_long h
  have e : heM f (j + 1) = hrM idleM f (j + 1) := if_neg (by omega)
  have e0 : heM f j = hrM idleM f j := if_neg (by omega)
  rw [e, e0]
  exact hr_done h hj c
theorem he_drive {f : Fm} (h : f.Good) {j : Nat} (hj : j < f.ack.length) : (heM f j).drive = !(decide (j + 9 = f.ack.length)) := by
  have hl := ack_long h
  by_cases h0 : j = 0
  · subst h0
    rw [decide_eq_false (by omega)]
    rfl
  · have e0 : heM f j = hrM idleM f j := if_neg h0
    rw [e0]
    exact hr_drive h hj
/-- What the law asks of the walk. -/
structure HeF (f : Fm) (last : Bool) (A : List Bool) (n : Nat) (m : Nat → M) (ev : Nat → List Ev) : Prop where
  len : A.length = n
  lo : 44 ≤ n
  hi : n ≤ 246
  first : m 0 = idleM
  step : ∀ j, j + 1 < n → (m j).sample (bitAt A j) = (m (j + 1), ev j)
  last : ∀ j, j + 1 = n → ∀ c, (m j).sample c = (m (j + 1), ev j)
  drive : ∀ j, j < n → (m j).drive = !(decide (j + 9 = n))
  e0 : ev 0 = [⟨6, Fm.zero, 0⟩]
  e2 : ∀ j, j + 2 = n → ev j = [⟨2, f, 0⟩]
  e1 : ∀ j, 0 < j → j + 2 ≠ n → ev j = []
  idle : (m n).st = 6
  busy : (m n).waits = false
theorem he_facts {f : Fm} (h : f.Good) (last : Bool) : HeF f last f.ack f.ack.length (heM f) (hrE f) := by
  have hl := ack_long h
  refine ⟨rfl, hl.1, hl.2, rfl, fun j hj => ?_, fun j hj c => he_last h hj c, fun j hj => he_drive h hj, rfl, fun j hj => ?_, fun j h0 h2 => ?_, ?_, ?_⟩
  · rw [bitAt_eq _ _ (by omega)]; exact he_step h hj
  · unfold hrE; rw [if_neg (by omega), if_pos hj]
  · unfold hrE; rw [if_neg (by omega), if_neg h2]
  · have e : heM f f.ack.length = hrM idleM f f.ack.length := if_neg (by omega)
    rw [e, hr_end rfl]
  · have e : heM f f.ack.length = hrM idleM f f.ack.length := if_neg (by omega)
    rw [e, hr_end rfl]
    rfl
set_option maxRecDepth 100000 in
set_option maxHeartbeats 6400000 in
theorem hears_calls (f : Fm) (last : Bool) (w : World) (hw : f.wf) : Calls Try.prog 3 #[.agg #[.bool f.e, .int .u32 f.i, .bool f.r, .string f.d], .bool last] w fun e w' => e = .returned (.bool true) ∧ Below w.heap.size w w' := by
  have HB := hid (BX.make w f)
  go_enter Try.func3, Try.ntmps3
  go_wp2_with fail
  with_reducible refine (known_calls _).mono ?_
  rintro y w1 ⟨rfl, hb⟩
  have HC := hid (HB.out.later hb)
  clear HB hb
  generalize hp : w.heap.size = p at HC ⊢
  obtain ⟨x0, x1, x2, x3⟩ := HC.out.fr
  go_wp2_with fail
  have hq := acked_calls f.e f.i f.r f.d w1 hw
  with_reducible refine hq.mono ?_
  clear hq
  rintro y w2 ⟨rfl, hb⟩
  have HD := hid (HC.out.later hb)
  clear HC hb x0 x1 x2 x3
  obtain ⟨x0, x1, x2, x3⟩ := HD.out.fr
  cases hok : f.ok
  · rw [ackF_no hok]
    by_cases h20 : f.d.size ≤ 20
    · go_wp2_with fail
      go_ret
      exact ⟨rfl, by subst hp; exact HD.out.below⟩
    · go_wp2_with fail
      go_ret
      exact ⟨rfl, by subst hp; exact HD.out.below⟩
  · have hgood : f.Good := ⟨hok, hw⟩
    have h20 : f.d.size ≤ 20 := by have := ok_data hok; omega
    rw [show ackF f.e f.i f.r f.d = B f.ack from f_ackF hgood]
    have hem := ack_full hgood
    have hd20 : decide (20 < (f.d.size : Int)) = false := decide_eq_false (by omega)
    go_wp2_with fail
    have hq := nf_new HD.out.below
    with_reducible refine hq.mono ?_
    clear hq
    rintro y w3 ⟨rfl, h3, hb3⟩
    have H3 := hid (HD.out.nb (m := nw 0) h3 (Nat.le_refl _) hb3)
    clear h3 hb3 HD x0 x1 x2 x3 hd20 h20 hem
    generalize w2.heap.size = g at H3 ⊢
    go_wp2_with fail
    go_loopw [7] (fun i wr => ∃ j : Nat, j ≤ 5 ∧ i = .int .i64 j ∧ NB w wr g p (nw j) f) (fun i _ => 5 - (intOf i).toNat)
    case atStart => exact ⟨0, Nat.zero_le _, rfl, H3.out⟩
    case round =>
      clear H3
      obtain ⟨j, hj, rfl, HX⟩ := hrel
      have H4 := hid HX
      clear HX
      by_cases hlt : j < 5
      · have u0 : ((j : Int) < 5) = True := eq_true (by omega)
        have u1 : decide ((j : Int) < 5) = true := decide_eq_true (by omega)
        have u2 : IntKind.i64.wrap ((j : Int) + 1) = ((j + 1 : Nat) : Int) := by rw [IntKind.wrap_i64]; omega
        have u3 : (j < 5) = True := eq_true hlt
        go_wp2_with fail
        with_reducible refine (nf_sample H4.out.nf true 49 rfl).mono ?_
        rintro y w4 ⟨v, rfl, h5, hev, hg⟩
        rw [nw_step] at h5 hev
        obtain ⟨a, cap, rfl, _⟩ := evs_slice hev
        have H5 := hid (H4.out.at h5 hg)
        clear H4 h5 hev hg
        go_wp2_with fail
        go_roundw
        case rel => exact ⟨j + 1, by omega, by go_num, H5.out⟩
        case measure => simp [intOf]; omega
      · obtain rfl : j = 5 := by omega
        have h5 := H4.out
        rw [nw_idle (by omega)] at h5
        have H5 := hid h5
        clear H4 h5 hlt hj
        go_wp2_with fail
        simp only [Int.cast_ofNat_Int]
        have hsz := B_size f.ack
        have hix := idx_at f.ack
        have hF := he_facts hgood last
        generalize f.ack = A at hsz hix hF ⊢
        generalize A.length = n at hsz hix hF ⊢
        generalize heM f = M at hF
        generalize hrE f = V at hF
        have HF := hid hF
        have HIX := hid hix
        rw [← hF.first] at H5
        have hn1 := hF.lo
        have hn2 := hF.hi
        clear hF hix
        go_loopw [8] (fun i wr => ∃ j : Nat, j ≤ n ∧ i = .int .i64 j ∧ NB w wr g p (M j) f) (fun i _ => n - (intOf i).toNat)
        case atStart => exact ⟨0, Nat.zero_le _, rfl, H5.out⟩
        case round =>
          clear H5
          obtain ⟨j, hj, rfl, HX⟩ := hrel
          have H6 := hid HX
          clear HX
          by_cases hlt : j < n
          · have u0 : ((j : Int) < n) = True := eq_true (by omega)
            have u1 : decide ((j : Int) < n) = true := decide_eq_true (by omega)
            have u2 : IntKind.i64.wrap ((j : Int) + 1) = ((j + 1 : Nat) : Int) := by rw [IntKind.wrap_i64]; omega
            have u3 : (j < n) = True := eq_true hlt
            have u5 : IntKind.i64.wrap ((n : Int) - 1) = (n : Int) - 1 := by rw [IntKind.wrap_i64]; omega
            have u6 : IntKind.i64.wrap ((n : Int) - 9) = (n : Int) - 9 := by rw [IntKind.wrap_i64]; omega
            have u7 : IntKind.i64.wrap ((n : Int) - 2) = (n : Int) - 2 := by rw [IntKind.wrap_i64]; omega
            rcases (show j + 1 = n ∨ j = 0 ∨ j + 2 = n ∨ j + 9 = n ∨ (j + 1 ≠ n ∧ j ≠ 0 ∧ j + 2 ≠ n ∧ j + 9 ≠ n) by omega) with h | h | h | h | ⟨h1, h0, h2, h9⟩
            · cases last
              · have hx := HIX.out j hlt
                have v0 : ((j : Int) == 0) = false := by simp; omega
                have v0' : ((j : Int) = 0) = False := eq_false (by omega)
                have v1 : ((j : Int) == (n : Int) - 1) = true := by simp; omega
                have v1' : ((j : Int) = (n : Int) - 1) = True := eq_true (by omega)
                have v2 : ((j : Int) == (n : Int) - 2) = false := by simp; omega
                have v2' : ((j : Int) = (n : Int) - 2) = False := eq_false (by omega)
                have v9 : ((j : Int) == (n : Int) - 9) = false := by simp; omega
                have v9' : ((j : Int) = (n : Int) - 9) = False := eq_false (by omega)
                have hdv : ((sg (!(decide (j + 9 = n)))).toNat : Int) = 49 := by rw [decide_eq_false (by omega)]; rfl
                go_wp2_with fail
                with_reducible refine (nf_drive H6.out.nf).mono ?_
                rintro y w8 ⟨rfl, h8, hg⟩
                rw [HF.out.drive j hlt, hdv]
                have H8 := hid (H6.out.at h8 hg)
                clear H6 h8 hg hdv
                go_wp2_with fail
                with_reducible refine (nf_sample H8.out.nf (bitAt A j) _ (sg_48b _)).mono ?_
                rintro y w9 ⟨v, rfl, h9, hev, hg⟩
                rw [HF.out.last j (by omega)] at h9 hev
                rw [HF.out.e1 j (by omega) (by omega)] at hev
                obtain ⟨a, cap, rfl, _⟩ := evs_slice hev
                clear hev
                have H9 := hid (H8.out.at h9 hg)
                clear H8 h9 hg hx
                go_wp2_with fail
                refine region_text (by kernel_rfl) (by kernel_rfl) (fun _ _ W => NB w W g p (M (j + 1)) f) H9.out.drew ?_
                clear H9
                iterate 26 ((try simp only [Act.put, List.setIfInBounds_toArray, List.set_cons_zero, List.set_cons_succ]); first
                  | (refine t_skip (fun _ => rfl) (fun b γ W h => h) ?_)
                  | (refine t_pure ?_ (fun _ => rfl) (fun b γ W h => h) (fun b γ W h _ => ?_) ?_; rotate_left; · (go_simp; rfl)))
                refine t_end ?_
                intro bq gq w11 hall hS
                clear hall
                (try simp only [Act.put, List.setIfInBounds_toArray, List.set_cons_zero, List.set_cons_succ])
                go_wp2_with fail
                go_roundw
                case rel => exact ⟨j + 1, by omega, by go_num, hS⟩
                case measure => simp [intOf]; omega
              · have hx := HIX.out j hlt
                have v0 : ((j : Int) == 0) = false := by simp; omega
                have v0' : ((j : Int) = 0) = False := eq_false (by omega)
                have v1 : ((j : Int) == (n : Int) - 1) = true := by simp; omega
                have v1' : ((j : Int) = (n : Int) - 1) = True := eq_true (by omega)
                have v2 : ((j : Int) == (n : Int) - 2) = false := by simp; omega
                have v2' : ((j : Int) = (n : Int) - 2) = False := eq_false (by omega)
                have v9 : ((j : Int) == (n : Int) - 9) = false := by simp; omega
                have v9' : ((j : Int) = (n : Int) - 9) = False := eq_false (by omega)
                have hdv : ((sg (!(decide (j + 9 = n)))).toNat : Int) = 49 := by rw [decide_eq_false (by omega)]; rfl
                go_wp2_with fail
                with_reducible refine (nf_drive H6.out.nf).mono ?_
                rintro y w8 ⟨rfl, h8, hg⟩
                rw [HF.out.drive j hlt, hdv]
                have H8 := hid (H6.out.at h8 hg)
                clear H6 h8 hg hdv
                go_wp2_with fail
                with_reducible refine (nf_sample H8.out.nf false 48 rfl).mono ?_
                rintro y w9 ⟨v, rfl, h9, hev, hg⟩
                rw [HF.out.last j (by omega)] at h9 hev
                rw [HF.out.e1 j (by omega) (by omega)] at hev
                obtain ⟨a, cap, rfl, _⟩ := evs_slice hev
                clear hev
                have H9 := hid (H8.out.at h9 hg)
                clear H8 h9 hg hx
                go_wp2_with fail
                refine region_text (by kernel_rfl) (by kernel_rfl) (fun _ _ W => NB w W g p (M (j + 1)) f) H9.out.drew ?_
                clear H9
                iterate 26 ((try simp only [Act.put, List.setIfInBounds_toArray, List.set_cons_zero, List.set_cons_succ]); first
                  | (refine t_skip (fun _ => rfl) (fun b γ W h => h) ?_)
                  | (refine t_pure ?_ (fun _ => rfl) (fun b γ W h => h) (fun b γ W h _ => ?_) ?_; rotate_left; · (go_simp; rfl)))
                refine t_end ?_
                intro bq gq w11 hall hS
                clear hall
                (try simp only [Act.put, List.setIfInBounds_toArray, List.set_cons_zero, List.set_cons_succ])
                go_wp2_with fail
                go_roundw
                case rel => exact ⟨j + 1, by omega, by go_num, hS⟩
                case measure => simp [intOf]; omega
            · subst h
              have hx : ∀ W, (Instr.index 9 (.string (B A)) (.int .i64 0)).run Try.prog W = .ok (.int .u8 ((sg (bitAt A 0)).toNat : Int)) W := HIX.out 0 hlt
              have v1 : ((0 : Int) == (n : Int) - 1) = false := by simp; omega
              have v1' : ((0 : Int) = (n : Int) - 1) = False := eq_false (by omega)
              have v2 : ((0 : Int) == (n : Int) - 2) = false := by simp; omega
              have v2' : ((0 : Int) = (n : Int) - 2) = False := eq_false (by omega)
              have v9 : ((0 : Int) == (n : Int) - 9) = false := by simp; omega
              have v9' : ((0 : Int) = (n : Int) - 9) = False := eq_false (by omega)
              have hdv : ((sg (!(decide (0 + 9 = n)))).toNat : Int) = 49 := by rw [decide_eq_false (by omega)]; rfl
              go_wp2_with fail
              with_reducible refine (nf_drive H6.out.nf).mono ?_
              rintro y w8 ⟨rfl, h8, hg⟩
              rw [HF.out.drive 0 hlt, hdv]
              have H8 := hid (H6.out.at h8 hg)
              clear H6 h8 hg hdv
              go_wp2_with fail
              with_reducible refine (nf_sample H8.out.nf (bitAt A 0) _ (sg_48b _)).mono ?_
              rintro y w9 ⟨v, rfl, h9, hev, hg⟩
              rw [HF.out.step 0 (by omega)] at h9 hev
              rw [HF.out.e0] at hev
              obtain ⟨q, cap, rfl, _⟩ := evs_one hev
              clear hev
              have H9 := hid (H8.out.at h9 hg)
              clear H8 h9 hg hx
              go_wp2_with fail
              refine region_text (by kernel_rfl) (by kernel_rfl) (fun _ _ W => NB w W g p (M (0 + 1)) f) H9.out.drew ?_
              clear H9
              iterate 26 ((try simp only [Act.put, List.setIfInBounds_toArray, List.set_cons_zero, List.set_cons_succ]); first
                | (refine t_skip (fun _ => rfl) (fun b γ W h => h) ?_)
                | (refine t_pure ?_ (fun _ => rfl) (fun b γ W h => h) (fun b γ W h _ => ?_) ?_; rotate_left; · (go_simp; rfl)))
              refine t_end ?_
              intro bq gq w11 hall hS
              clear hall
              (try simp only [Act.put, List.setIfInBounds_toArray, List.set_cons_zero, List.set_cons_succ])
              go_wp2_with fail
              exact ⟨⟨1, by omega, by go_num, hS⟩, by simp [intOf]; omega⟩
            · have hx := HIX.out j hlt
              have v0 : ((j : Int) == 0) = false := by simp; omega
              have v0' : ((j : Int) = 0) = False := eq_false (by omega)
              have v1 : ((j : Int) == (n : Int) - 1) = false := by simp; omega
              have v1' : ((j : Int) = (n : Int) - 1) = False := eq_false (by omega)
              have v2 : ((j : Int) == (n : Int) - 2) = true := by simp; omega
              have v2' : ((j : Int) = (n : Int) - 2) = True := eq_true (by omega)
              have v9 : ((j : Int) == (n : Int) - 9) = false := by simp; omega
              have v9' : ((j : Int) = (n : Int) - 9) = False := eq_false (by omega)
              have hdv : ((sg (!(decide (j + 9 = n)))).toNat : Int) = 49 := by rw [decide_eq_false (by omega)]; rfl
              go_wp2_with fail
              with_reducible refine (nf_drive H6.out.nf).mono ?_
              rintro y w8 ⟨rfl, h8, hg⟩
              rw [HF.out.drive j hlt, hdv]
              have H8 := hid (H6.out.at h8 hg)
              clear H6 h8 hg hdv
              go_wp2_with fail
              with_reducible refine (nf_sample H8.out.nf (bitAt A j) _ (sg_48b _)).mono ?_
              rintro y w9 ⟨v, rfl, h9, hev, hg⟩
              rw [HF.out.step j (by omega)] at h9 hev
              rw [HF.out.e2 j h] at hev
              obtain ⟨q, cap, rfl, _⟩ := evs_one hev
              have HE := hid (show E1 w9 q ⟨2, f, 0⟩ from ⟨_, cap, hev⟩)
              clear hev
              have H9 := hid (H8.out.at h9 hg)
              clear H8 h9 hg hx
              go_wp2_with fail
              refine region_text (by kernel_rfl) (by kernel_rfl) (fun _ _ W => NB w W g p (M (j + 1)) f ∧ E1 W q ⟨2, f, 0⟩) ⟨H9.out.drew, HE.out.drew⟩ ?_
              clear H9 HE
              iterate 26 ((try simp only [Act.put, List.setIfInBounds_toArray, List.set_cons_zero, List.set_cons_succ]); first
                | (refine t_skip (fun _ => rfl) (fun b γ W h => h) ?_)
                | (refine t_pure ?_ (fun _ => rfl) (fun b γ W h => h) (fun b γ W h _ => ?_) ?_; rotate_left; · (obtain ⟨y0, y1, y2, y3, y4, y5⟩ := h.2.get; obtain ⟨x0, x1, x2, x3⟩ := h.1.fr; simp only at y0 y1 y2 y3 y4 y5 x0 x1 x2 x3; go_simp; first | rfl | (simp; done))))
              refine t_end ?_
              intro bq gq w11 hall hS
              clear hall
              (try simp only [Act.put, List.setIfInBounds_toArray, List.set_cons_zero, List.set_cons_succ])
              go_wp2_with fail
              go_roundw
              case rel => exact ⟨j + 1, by omega, by go_num, hS.1⟩
              case measure => simp [intOf]; omega
            · have hx := HIX.out j hlt
              have v0 : ((j : Int) == 0) = false := by simp; omega
              have v0' : ((j : Int) = 0) = False := eq_false (by omega)
              have v1 : ((j : Int) == (n : Int) - 1) = false := by simp; omega
              have v1' : ((j : Int) = (n : Int) - 1) = False := eq_false (by omega)
              have v2 : ((j : Int) == (n : Int) - 2) = false := by simp; omega
              have v2' : ((j : Int) = (n : Int) - 2) = False := eq_false (by omega)
              have v9 : ((j : Int) == (n : Int) - 9) = true := by simp; omega
              have v9' : ((j : Int) = (n : Int) - 9) = True := eq_true (by omega)
              have hdv : ((sg (!(decide (j + 9 = n)))).toNat : Int) = 48 := by rw [decide_eq_true (by omega)]; rfl
              go_wp2_with fail
              with_reducible refine (nf_drive H6.out.nf).mono ?_
              rintro y w8 ⟨rfl, h8, hg⟩
              rw [HF.out.drive j hlt, hdv]
              have H8 := hid (H6.out.at h8 hg)
              clear H6 h8 hg hdv
              go_wp2_with fail
              with_reducible refine (nf_sample H8.out.nf (bitAt A j) _ (sg_48b _)).mono ?_
              rintro y w9 ⟨v, rfl, h9, hev, hg⟩
              rw [HF.out.step j (by omega)] at h9 hev
              rw [HF.out.e1 j (by omega) (by omega)] at hev
              obtain ⟨a, cap, rfl, _⟩ := evs_slice hev
              clear hev
              have H9 := hid (H8.out.at h9 hg)
              clear H8 h9 hg hx
              go_wp2_with fail
              refine region_text (by kernel_rfl) (by kernel_rfl) (fun _ _ W => NB w W g p (M (j + 1)) f) H9.out.drew ?_
              clear H9
              iterate 26 ((try simp only [Act.put, List.setIfInBounds_toArray, List.set_cons_zero, List.set_cons_succ]); first
                | (refine t_skip (fun _ => rfl) (fun b γ W h => h) ?_)
                | (refine t_pure ?_ (fun _ => rfl) (fun b γ W h => h) (fun b γ W h _ => ?_) ?_; rotate_left; · (go_simp; rfl)))
              refine t_end ?_
              intro bq gq w11 hall hS
              clear hall
              (try simp only [Act.put, List.setIfInBounds_toArray, List.set_cons_zero, List.set_cons_succ])
              go_wp2_with fail
              go_roundw
              case rel => exact ⟨j + 1, by omega, by go_num, hS⟩
              case measure => simp [intOf]; omega
            · have hx := HIX.out j hlt
              have v0 : ((j : Int) == 0) = false := by simp; omega
              have v0' : ((j : Int) = 0) = False := eq_false (by omega)
              have v1 : ((j : Int) == (n : Int) - 1) = false := by simp; omega
              have v1' : ((j : Int) = (n : Int) - 1) = False := eq_false (by omega)
              have v2 : ((j : Int) == (n : Int) - 2) = false := by simp; omega
              have v2' : ((j : Int) = (n : Int) - 2) = False := eq_false (by omega)
              have v9 : ((j : Int) == (n : Int) - 9) = false := by simp; omega
              have v9' : ((j : Int) = (n : Int) - 9) = False := eq_false (by omega)
              have hdv : ((sg (!(decide (j + 9 = n)))).toNat : Int) = 49 := by rw [decide_eq_false (by omega)]; rfl
              go_wp2_with fail
              with_reducible refine (nf_drive H6.out.nf).mono ?_
              rintro y w8 ⟨rfl, h8, hg⟩
              rw [HF.out.drive j hlt, hdv]
              have H8 := hid (H6.out.at h8 hg)
              clear H6 h8 hg hdv
              go_wp2_with fail
              with_reducible refine (nf_sample H8.out.nf (bitAt A j) _ (sg_48b _)).mono ?_
              rintro y w9 ⟨v, rfl, h9, hev, hg⟩
              rw [HF.out.step j (by omega)] at h9 hev
              rw [HF.out.e1 j (by omega) (by omega)] at hev
              obtain ⟨a, cap, rfl, _⟩ := evs_slice hev
              clear hev
              have H9 := hid (H8.out.at h9 hg)
              clear H8 h9 hg hx
              go_wp2_with fail
              refine region_text (by kernel_rfl) (by kernel_rfl) (fun _ _ W => NB w W g p (M (j + 1)) f) H9.out.drew ?_
              clear H9
              iterate 26 ((try simp only [Act.put, List.setIfInBounds_toArray, List.set_cons_zero, List.set_cons_succ]); first
                | (refine t_skip (fun _ => rfl) (fun b γ W h => h) ?_)
                | (refine t_pure ?_ (fun _ => rfl) (fun b γ W h => h) (fun b γ W h _ => ?_) ?_; rotate_left; · (go_simp; rfl)))
              refine t_end ?_
              intro bq gq w11 hall hS
              clear hall
              (try simp only [Act.put, List.setIfInBounds_toArray, List.set_cons_zero, List.set_cons_succ])
              go_wp2_with fail
              go_roundw
              case rel => exact ⟨j + 1, by omega, by go_num, hS⟩
              case measure => simp [intOf]; omega
          · obtain rfl : j = n := by omega
            have hi1 := HF.out.idle
            have hi2 := HF.out.busy
            go_wp2_with fail
            with_reducible refine (nf_idle H6.out.nf).mono ?_
            rintro y w8 ⟨rfl, rfl⟩
            rw [hi1, show ((6 : Int) == 0) = false from rfl]
            go_wp2_with fail
            with_reducible refine (nf_busy H6.out.nf).mono ?_
            rintro y w8 ⟨rfl, rfl⟩
            rw [hi2]
            go_wp2_with fail
            go_ret
            exact ⟨rfl, by subst hp; exact H6.out.nf.nd.below⟩
theorem hears_walk (e : Bool) (i : Int) (r : Bool) (d : ByteArray) (last : Bool) (w : World) (h : (Lit.int .u32 i).wf = true) (_ : d.size ≤ 9223372036854775807) :
    Calls Try.prog 3 #[.agg #[.bool e, .int .u32 i, .bool r, .string d], .bool last] w fun e w' => e = .returned (.bool true) ∧ Below w.heap.size w w' :=
  hears_calls ⟨e, i, r, d⟩ last w (by have := bounds_u32 h; unfold Fm.wf; simp only; omega)
end Go.Proofs.Ytgmjofcbdimjgaa.MacL
