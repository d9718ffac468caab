/- MacFlags (layer 7): a listener that meets an error drives six 0, then waits for eight 1 and three more, and is idle again. Conditions: none beyond the types of the arguments. -/
import Derived.Test.YtgmjofcbdimjgaaMacKnown
import Derived.Test.YtgmjofcbdimjgaaMacIdle
import Derived.Test.YtgmjofcbdimjgaaMacPhase
namespace Go.Proofs.Ytgmjofcbdimjgaa.MacL
set_option linter.unusedVariables false
set_option linter.unusedSimpArgs false
open Go Go.RowKit Go.Proofs.Ytgmjofcbdimjgaa.Lib Go.Proofs.Ytgmjofcbdimjgaa.Bits Go.Proofs.Ytgmjofcbdimjgaa.BitsW Go.Proofs.Ytgmjofcbdimjgaa.StuffW Go.Proofs.Ytgmjofcbdimjgaa.Frame Go.Proofs.Ytgmjofcbdimjgaa.FrameW Go.Proofs.Ytgmjofcbdimjgaa.Code Go.Proofs.Ytgmjofcbdimjgaa.CodeW Go.Proofs.Ytgmjofcbdimjgaa.Mac Go.Proofs.Ytgmjofcbdimjgaa.MacW Go.Proofs.Ytgmjofcbdimjgaa.PrintMore
attribute [local go_sem] max2_int min2_int max_two min_two
attribute [local go_sem] field_got field_sent
def runs (m : M) : Nat → M
  | 0 => m
  | k + 1 => ((runs m k).sample false).1
/-- An idle node behind j bits 0. -/
def zM (j : Nat) : M := runs idleM j
theorem z_step {j : Nat} (h : j < 5) : (zM j).sample false = (zM (j + 1), if j = 0 then [⟨6, Fm.zero, 0⟩] else []) := by
  match j, h with
  | 0, _ => rfl
  | 1, _ => rfl
  | 2, _ => rfl
  | 3, _ => rfl
  | 4, _ => rfl
def z6 : M := { zM 5 with got := 1 }
theorem z_six : (zM 5).sample false = (flagM z6 0, [⟨5, Fm.zero, 20⟩]) := by rfl
set_option maxRecDepth 100000 in
set_option maxHeartbeats 6400000 in
theorem flags_calls (n : Int) (w : World) (hn : 0 ≤ n ∧ n < 256) : Calls Try.prog 5 #[.int .u8 n] w fun e w' => e = .returned (.bool true) ∧ Below w.heap.size w w' := by
  have HK := hid (known_calls w)
  have HN := hid hn
  clear hn
  go_enter Try.func5, Try.ntmps5
  go_wp2_with fail
  with_reducible refine HK.out.mono ?_
  rintro y w1 ⟨rfl, h1⟩
  have HI := hid (idle_calls (w0 := w) h1)
  clear HK h1
  go_wp2_with fail
  with_reducible refine HI.out.mono ?_
  rintro y w2 ⟨rfl, h2, _⟩
  have H2 := hid h2
  clear HI h2
  generalize w1.heap.size = g at H2 ⊢
  go_wp2_with fail
  go_loopw [4] (fun i wr => ∃ j : Nat, j ≤ 5 ∧ i = .int .i64 j ∧ Nf w wr g (zM j)) (fun i _ => 5 - (intOf i).toNat)
  case atStart => exact ⟨0, Nat.zero_le _, rfl, H2.out⟩
  case round =>
    clear H2
    obtain ⟨j, hj, rfl, HX⟩ := hrel
    have H4 := hid HX
    clear HX
    by_cases hlt : j < 5
    · have u0 : ((j : Int) < 5) = True := eq_true (by omega)
      have u1 : decide ((j : Int) < 5) = true := decide_eq_true (by omega)
      have u2 : IntKind.i64.wrap ((j : Int) + 1) = ((j + 1 : Nat) : Int) := by rw [IntKind.wrap_i64]; omega
      have u3 : (j < 5) = True := eq_true hlt
      go_wp2_with fail
      with_reducible refine (nf_sample H4.out false 48 rfl).mono ?_
      rintro y w4 ⟨v, rfl, h5, hev, _⟩
      rw [z_step hlt] at h5 hev
      have H5 := hid h5
      clear H4 h5
      by_cases h0 : j = 0
      · subst h0
        rw [if_pos rfl] at hev
        obtain ⟨a, cap, rfl, _⟩ := evs_slice hev
        clear hev
        go_wp2_with fail
        go_roundw
        case rel => exact ⟨1, by omega, by go_num, H5.out⟩
        case measure => simp [intOf]
      · rw [if_neg h0] at hev
        obtain ⟨a, cap, rfl, _⟩ := evs_slice hev
        clear hev
        have v1 : min (j : Int) 1 = 1 := by omega
        go_wp2_with fail
        go_roundw
        case rel => exact ⟨j + 1, by omega, by go_num, H5.out⟩
        case measure => simp [intOf]; omega
    · obtain rfl : j = 5 := by omega
      clear hlt hj
      go_wp2_with fail
      with_reducible refine (nf_sample H4.out false 48 rfl).mono ?_
      rintro y w4 ⟨v, rfl, h5, hev, _⟩
      rw [z_six] at h5 hev
      have H5 := hid h5
      clear H4 h5
      obtain ⟨q, cap, rfl, _⟩ := evs_one hev
      have HE := hid (show E1 w4 q ⟨5, Fm.zero, 20⟩ from ⟨_, cap, hev⟩)
      clear hev
      go_wp2_with fail
      with_reducible refine (nf_counts H5.out).mono ?_
      rintro y w5 ⟨rfl, h6, hb6⟩
      rw [show (flagM z6 0).sent = 0 from rfl, show (flagM z6 0).got = 1 from rfl]
      have H6 := hid h6
      clear H5 h6 HE hb6
      go_wp2_with fail
      go_loopw [6] (fun i wr => ∃ j : Nat, j ≤ 6 ∧ i = .int .i64 j ∧ Nf w wr g (flagM z6 j)) (fun i _ => 6 - (intOf i).toNat)
      case atStart => exact ⟨0, Nat.zero_le _, rfl, H6.out⟩
      case round =>
        clear H6
        obtain ⟨j, hj, rfl, HX⟩ := hrel
        have H7 := hid HX
        clear HX
        by_cases hlt : j < 6
        · have u0 : ((j : Int) < 6) = True := eq_true (by omega)
          have u1 : decide ((j : Int) < 6) = true := decide_eq_true (by omega)
          have u2 : IntKind.i64.wrap ((j : Int) + 1) = ((j + 1 : Nat) : Int) := by rw [IntKind.wrap_i64]; omega
          have u3 : (j < 6) = True := eq_true hlt
          go_wp2_with fail
          with_reducible refine (nf_drive H7.out).mono ?_
          rintro y w8 ⟨rfl, h8, _⟩
          rw [flag_drive z6 hlt, show ((sg (isPas z6.sent z6.got)).toNat : Int) = 48 from rfl]
          have H8 := hid h8
          clear H7 h8
          go_wp2_with fail
          with_reducible refine (nf_sample H8.out false 48 rfl).mono ?_
          rintro y w9 ⟨v, rfl, h9, hev, _⟩
          rw [flag_step z6 hlt] at h9 hev
          obtain ⟨a, cap, rfl, _⟩ := evs_slice hev
          have H9 := hid h9
          clear H8 h9 hev
          go_wp2_with fail
          go_roundw
          case rel => exact ⟨j + 1, by omega, by go_num, H9.out⟩
          case measure => simp [intOf]; omega
        · obtain rfl : j = 6 := by omega
          rw [flag_rec] at H7
          clear hlt hj
          go_wp2_with fail
          obtain ⟨k, hk, hk2⟩ : ∃ k : Nat, n.tmod 30 = (k : Int) ∧ k < 30 := by
            have e : n.tmod 30 = n % 30 := Int.tmod_eq_emod_of_nonneg HN.out.1
            exact ⟨(n % 30).toNat, by rw [e]; omega, by omega⟩
          simp only [Int.cast_ofNat_Int]
          go_loopw [7] (fun i wr => ∃ j : Nat, j ≤ k ∧ i = .int .i64 j ∧ Nf w wr g (recM z6 0)) (fun i _ => k - (intOf i).toNat)
          case atStart => exact ⟨0, Nat.zero_le _, rfl, H7.out⟩
          case round =>
            clear H7
            obtain ⟨j, hj, rfl, HX⟩ := hrel
            have H7 := hid HX
            clear HX
            by_cases hlt : j < k
            · have u0 : ((j : Int) < (k : Int)) = True := eq_true (by omega)
              have u1 : decide ((j : Int) < (k : Int)) = true := decide_eq_true (by omega)
              have u2 : IntKind.i64.wrap ((j : Int) + 1) = ((j + 1 : Nat) : Int) := by rw [IntKind.wrap_i64]; omega
              have u3 : (j < k) = True := eq_true hlt
              go_wp2_with fail
              with_reducible refine (nf_drive H7.out).mono ?_
              rintro y w8 ⟨rfl, h8, _⟩
              rw [rec_drive z6 (by decide), show ((sg true).toNat : Int) = 49 from rfl]
              have H8 := hid h8
              clear H7 h8
              go_wp2_with fail
              with_reducible refine (nf_sample H8.out false 48 rfl).mono ?_
              rintro y w9 ⟨v, rfl, h9, hev, _⟩
              rw [rec_low z6] at h9 hev
              obtain ⟨a, cap, rfl, _⟩ := evs_slice hev
              have H9 := hid h9
              clear H8 h9 hev
              go_wp2_with fail
              go_roundw
              case rel => exact ⟨j + 1, by omega, by go_num, H9.out⟩
              case measure => simp [intOf]; omega
            · obtain rfl : j = k := by omega
              go_wp2_with fail
              clear hlt hj hk hk2
              go_loopw [8] (fun i wr => ∃ j : Nat, j ≤ 11 ∧ i = .int .i64 j ∧ Nf w wr g (recM z6 j)) (fun i _ => 11 - (intOf i).toNat)
              case atStart => exact ⟨0, Nat.zero_le _, rfl, H7.out⟩
              case round =>
                clear H7
                obtain ⟨j, hj, rfl, HX⟩ := hrel
                have H7 := hid HX
                clear HX
                by_cases hlt : j < 11
                · have u0 : ((j : Int) < 30) = True := eq_true (by omega)
                  have u1 : decide ((j : Int) < 30) = true := decide_eq_true (by omega)
                  have u2 : IntKind.i64.wrap ((j : Int) + 1) = ((j + 1 : Nat) : Int) := by rw [IntKind.wrap_i64]; omega
                  have u3 : (j < 30) = True := eq_true (by omega)
                  go_wp2_with fail
                  with_reducible refine (nf_idle H7.out).mono ?_
                  rintro y w8 ⟨rfl, rfl⟩
                  rw [rec_idle z6 hj, decide_eq_false (by omega)]
                  go_wp2_with fail
                  with_reducible refine (nf_sample H7.out true 49 rfl).mono ?_
                  rintro y w9 ⟨v, rfl, h9, hev, _⟩
                  rw [rec_step z6 hlt] at h9 hev
                  obtain ⟨a, cap, rfl, _⟩ := evs_slice hev
                  have H9 := hid h9
                  clear H7 h9 hev
                  go_wp2_with fail
                  go_roundw
                  case rel => exact ⟨j + 1, by omega, by go_num, H9.out⟩
                  case measure => simp [intOf]; omega
                · obtain rfl : j = 11 := by omega
                  go_wp2_with fail
                  with_reducible refine (nf_idle H7.out).mono ?_
                  rintro y w8 ⟨rfl, rfl⟩
                  rw [rec_idle z6 hj, decide_eq_true (by rfl)]
                  go_wp2_with fail
                  go_ret
                  exact ⟨rfl, H7.out.nd.below⟩
theorem flags_walk (n : Int) (w : World) (h : (Lit.int .u8 n).wf = true) : Calls Try.prog 5 #[.int .u8 n] w fun e w' => e = .returned (.bool true) ∧ Below w.heap.size w w' :=
  flags_calls n w (by have := bounds_u8 h; omega)
end Go.Proofs.Ytgmjofcbdimjgaa.MacL
