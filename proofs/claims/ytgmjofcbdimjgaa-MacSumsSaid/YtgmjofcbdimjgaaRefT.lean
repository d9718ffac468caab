/- The document's bits (package ostinatoref1), walked by hand: Bit, Is of two bits, Turn. -/
import Derived.Test.YtgmjofcbdimjgaaMacFine
namespace Go.Proofs.Ytgmjofcbdimjgaa.RefW
set_option linter.unusedVariables false
set_option linter.unusedSimpArgs false
open Go Go.RowKit Go.Proofs.Ytgmjofcbdimjgaa.Lib Go.Proofs.Ytgmjofcbdimjgaa.Bits Go.Proofs.Ytgmjofcbdimjgaa.BitsW Go.Proofs.Ytgmjofcbdimjgaa.StuffW Go.Proofs.Ytgmjofcbdimjgaa.Frame Go.Proofs.Ytgmjofcbdimjgaa.FrameW Go.Proofs.Ytgmjofcbdimjgaa.Code Go.Proofs.Ytgmjofcbdimjgaa.CodeW Go.Proofs.Ytgmjofcbdimjgaa.CodeL Go.Proofs.Ytgmjofcbdimjgaa.Mac Go.Proofs.Ytgmjofcbdimjgaa.MacW Go.Proofs.Ytgmjofcbdimjgaa.PrintMore
theorem is01_calls (w : World) : Calls Try.prog 29 #[.string ⟨#[48, 49]⟩] w fun e w' => e = .returned (.bool true) ∧ Below w.heap.size w w' := by
  have hB := hid (Below.refl w.heap.size w)
  go_enter Try.func29, Try.ntmps29
  go_wp2_with fail
  go_loopw [3] (fun i wr => ∃ j : Nat, j ≤ 2 ∧ i = .int .i64 j ∧ Below w.heap.size w wr) (fun i _ => 2 - (intOf i).toNat)
  case atStart => exact ⟨0, Nat.zero_le _, rfl, hB.out⟩
  case round =>
    clear hB
    obtain ⟨j, hj, rfl, HX⟩ := hrel
    have H4 := hid HX
    clear HX
    rcases (show j = 0 ∨ j = 1 ∨ j = 2 by omega) with rfl | rfl | rfl
    · go_wp2_with fail
      go_roundw
      case rel => exact ⟨1, by omega, rfl, H4.out⟩
      case measure => simp [intOf]
    · go_wp2_with fail
      go_roundw
      case rel => exact ⟨2, by omega, rfl, H4.out⟩
      case measure => simp [intOf]
    · go_wp2_with fail
      go_ret
      exact ⟨rfl, H4.out⟩
theorem bit_calls (b : Bool) (w : World) : Calls Try.prog 49 #[.bool b] w fun e w' => e = .returned (.string (B [b])) ∧ Below w.heap.size w w' := by
  have hB := hid (Below.refl w.heap.size w)
  go_enter Try.func49, Try.ntmps49
  cases b
  · go_wp2_with fail
    go_ret
    exact ⟨rfl, hB.out⟩
  · go_wp2_with fail
    go_ret
    exact ⟨rfl, hB.out⟩
theorem turn_next (l : List Bool) (k j : Nat) (h : j < l.length) : (turn l k).take (j + 1) = (turn l k).take j ++ [(bitAt l j) != decide (j = k)] := by
  rw [take_snoc _ _ (by rw [turn_length]; exact h), bitAt_eq l j h]
  congr 2
  unfold turn
  rw [List.getElem_modify]
  by_cases e : k = j
  · subst e; simp
  · have : ¬ j = k := fun h => e h.symm
    simp [e, this]
set_option maxRecDepth 100000 in
set_option maxHeartbeats 3200000 in
theorem rturn_calls (l : List Bool) (k : Nat) (hl : l.length ≤ 1000) (hk : k < l.length) (w : World) : Calls Try.prog 23 #[.string (B l), .int .i64 k] w fun e w' => e = .returned (.string (B (turn l k))) ∧ Below w.heap.size w w' := by
  have hB := hid (Below.refl w.heap.size w)
  have hsz := B_size l
  have HIX := hid (idx_at l)
  have HT := hid (fun j h => turn_next l k j h)
  have hend : (turn l k).take l.length = turn l k := List.take_of_length_le (by rw [turn_length]; exact Nat.le_refl _)
  have HE := hid hend
  clear hend
  generalize turn l k = T at HT HE ⊢
  generalize hn : l.length = n at *
  go_enter Try.func23, Try.ntmps23
  go_wp2_with fail
  go_loopw [5, 6] (fun o i wr => ∃ j : Nat, j ≤ n ∧ i = .int .i64 j ∧ o = .string (B (T.take j)) ∧ Below w.heap.size w wr) (fun _ i _ => n - (intOf i).toNat)
  case atStart => exact ⟨0, Nat.zero_le _, rfl, rfl, hB.out⟩
  case round =>
    clear hB
    obtain ⟨j, hj, rfl, rfl, HX⟩ := hrel
    have H4 := hid HX
    clear HX
    by_cases hlt : j < n
    · have u0 : ((j : Int) < n) = True := eq_true (by omega)
      have u1 : decide ((j : Int) < n) = true := decide_eq_true (by omega)
      have u2 : IntKind.i64.wrap ((j : Int) + 1) = ((j + 1 : Nat) : Int) := by rw [IntKind.wrap_i64]; omega
      have u3 : (j < n) = True := eq_true hlt
      have hx := HIX.out j hlt
      have ht := HT.out j hlt
      have hbig : ∀ c : Bool, (9223372036854775807 < (B (List.take j T)).size + (B [c]).size) = False := fun c => eq_false (by rw [B_size, B_size, List.length_take]; simp only [List.length_cons, List.length_nil]; omega)
      obtain ⟨c, hc⟩ : ∃ c, bitAt l j = c := ⟨_, rfl⟩
      rw [hc] at hx ht
      by_cases hjk : j = k
      · subst hjk
        rw [decide_eq_true rfl] at ht
        cases c
        · rw [show ((sg false).toNat : Int) = 48 from rfl] at hx
          go_wp2_with fail
          with_reducible refine (bit_calls true _).mono ?_
          rintro y w2 ⟨rfl, hb⟩
          have H5 := hid (H4.out.trans (hb.mono H4.out.size))
          clear H4 hb
          go_wp2_with fail
          go_roundw
          case rel => exact ⟨j + 1, by omega, by go_num, by rw [ht]; simp [B_append], H5.out⟩
          case measure => simp [intOf]; omega
        · rw [show ((sg true).toNat : Int) = 49 from rfl] at hx
          go_wp2_with fail
          with_reducible refine (bit_calls false _).mono ?_
          rintro y w2 ⟨rfl, hb⟩
          have H5 := hid (H4.out.trans (hb.mono H4.out.size))
          clear H4 hb
          go_wp2_with fail
          go_roundw
          case rel => exact ⟨j + 1, by omega, by go_num, by rw [ht]; simp [B_append], H5.out⟩
          case measure => simp [intOf]; omega
      · have v1 : ((j : Int) == (k : Int)) = false := by simp; omega
        have v2 : ((j : Int) = (k : Int)) = False := eq_false (by omega)
        have v3 : (j = k) = False := eq_false hjk
        rw [decide_eq_false hjk] at ht
        cases c
        · rw [show ((sg false).toNat : Int) = 48 from rfl] at hx
          go_wp2_with fail
          with_reducible refine (bit_calls false _).mono ?_
          rintro y w2 ⟨rfl, hb⟩
          have H5 := hid (H4.out.trans (hb.mono H4.out.size))
          clear H4 hb
          go_wp2_with fail
          go_roundw
          case rel => exact ⟨j + 1, by omega, by go_num, by rw [ht]; simp [B_append], H5.out⟩
          case measure => simp [intOf]; omega
        · rw [show ((sg true).toNat : Int) = 49 from rfl] at hx
          go_wp2_with fail
          with_reducible refine (bit_calls true _).mono ?_
          rintro y w2 ⟨rfl, hb⟩
          have H5 := hid (H4.out.trans (hb.mono H4.out.size))
          clear H4 hb
          go_wp2_with fail
          go_roundw
          case rel => exact ⟨j + 1, by omega, by go_num, by rw [ht]; simp [B_append], H5.out⟩
          case measure => simp [intOf]; omega
    · obtain rfl : j = n := by omega
      rw [HE.out]
      go_wp2_with fail
      go_ret
      exact ⟨rfl, H4.out⟩
end Go.Proofs.Ytgmjofcbdimjgaa.RefW
