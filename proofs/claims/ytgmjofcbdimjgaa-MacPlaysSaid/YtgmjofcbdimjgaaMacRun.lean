/- A reader behind some bits of a frame that is acknowledged. -/
import Derived.Test.YtgmjofcbdimjgaaMacSpec
import Derived.Test.YtgmjofcbdimjgaaCodeMath
import Derived.Test.YtgmjofcbdimjgaaCodeLaws
namespace Go.Proofs.Ytgmjofcbdimjgaa.Mac
set_option linter.unusedVariables false
set_option linter.unusedSimpArgs false
open Go Go.Proofs.Ytgmjofcbdimjgaa.Bits Go.Proofs.Ytgmjofcbdimjgaa.BitsW Go.Proofs.Ytgmjofcbdimjgaa.Frame Go.Proofs.Ytgmjofcbdimjgaa.FrameW Go.Proofs.Ytgmjofcbdimjgaa.Code Go.Proofs.Ytgmjofcbdimjgaa.CodeW Go.Proofs.Ytgmjofcbdimjgaa.CodeL
variable {S : List Bool} {H L : Nat}
theorem st_zero (F : Fr S H L) : st H L [] 0 false = Rd.zero := by
  have h3 := F.pos
  unfold st Rd.zero
  rw [if_pos (by simpa using h3)]
  rfl
/-- The reader behind j bits of them. -/
theorem rd_mid (F : Fr S H L) (j : Nat) (hj : j < (stuff S).length) : ∃ p k b, Rd.zero.all ((stuff S).take j) = st H L p k b := by
  obtain ⟨p, q, k, b, _, _, h, _⟩ := stuff_mid F S [] 0 false j rfl (by omega) hj
  rw [st_zero F] at h
  exact ⟨p, k, b, h⟩
theorem rd_end (F : Fr S H L) : ∃ k b ld, k ≤ 4 ∧ Rd.zero.all (stuff S) = fin k b S L 0 ld := by
  obtain ⟨_, k, b, ld, hk, h⟩ := stuff_pushes F S [] 0 false rfl (by omega)
  rw [st_zero F] at h
  exact ⟨k, b, ld, hk, h⟩
theorem fin_all (F : Fr S H L) {k : Nat} (hk : k ≤ 4) (b ld : Bool) : ∀ (t : List Bool) (en : Nat), (fin k b S L en ld).all t = fin k b S L (en + t.length) ld
  | [], _ => rfl
  | c :: t, en => by
    have ih := fin_all F hk b ld t (en + 1)
    unfold Rd.all
    rw [fin_push F k b en ld hk c, List.length_cons, show en + (t.length + 1) = en + 1 + t.length by omega]
    exact ih
/-- How far the reader is behind j bits of a frame, whatever stands behind it. -/
theorem rd_en (F : Fr S H L) (t : List Bool) (j : Nat) (hj : j ≤ (stuff S).length + t.length) : (Rd.zero.all ((stuff S ++ t).take j)).en = j - (stuff S).length := by
  by_cases h : j < (stuff S).length
  · obtain ⟨p, k, b, e⟩ := rd_mid F j h
    rw [List.take_append_of_le_length (by omega), e]
    show 0 = _
    omega
  · obtain ⟨k, b, ld, hk, e⟩ := rd_end F
    rw [List.take_append, all_append, List.take_of_length_le (by omega), e, fin_all F hk]
    show 0 + _ = _
    rw [List.length_take]
    omega
theorem rd_fin (F : Fr S H L) (t : List Bool) (j : Nat) (h : (stuff S).length ≤ j) (hj : j ≤ (stuff S).length + t.length) : ∃ k b ld, k ≤ 4 ∧ Rd.zero.all ((stuff S ++ t).take j) = fin k b S L (j - (stuff S).length) ld := by
  obtain ⟨k, b, ld, hk, e⟩ := rd_end F
  refine ⟨k, b, ld, hk, ?_⟩
  rw [List.take_append, all_append, List.take_of_length_le (by omega), e, fin_all F hk, List.length_take, Nat.zero_add, Nat.min_eq_left (by omega)]
theorem fine_at : ∀ (x : List Bool) (r : Rd) (j : Nat) (h : j < x.length), r.fine x → ((r.all (x.take j)).push x[j]).2 = 0
  | [], _, _, h, _ => by simp at h
  | c :: x, r, 0, _, hf => hf.1
  | c :: x, r, j + 1, h, hf => fine_at x (r.push c).1 j (by simpa using h) hf.2.2
theorem all_inv : ∀ (x : List Bool) (r : Rd), r.Inv → r.fine x → (r.all x).Inv
  | [], _, h, _ => h
  | c :: x, r, h, hf => all_inv x (r.push c).1 (h.push c hf.1).1 hf.2.2
/-- No bit of an acknowledged frame meets an error. -/
theorem rd_push (F : Fr S H L) (h0 : crcN S = 0) (j : Nat) (hj : j < (stuff S ++ ackT).length) : ((Rd.zero.all ((stuff S ++ ackT).take j)).push (stuff S ++ ackT)[j]).2 = 0 := by
  by_cases h : j < (stuff S).length
  · have := fine_at (stuff S) Rd.zero j h (stuff_fine F)
    rw [List.take_append_of_le_length (by omega), List.getElem_append_left h]
    exact this
  · have hl : ackT.length = 10 := rfl
    rw [List.length_append, hl] at hj
    obtain ⟨k, b, ld, hk, e⟩ := rd_fin F ackT j (by omega) (by omega)
    rw [e, fin_push F k b _ ld hk, List.getElem_append_right (by omega)]
    obtain ⟨i, hi⟩ : ∃ i, j - (stuff S).length = i := ⟨_, rfl⟩
    have hi10 : i < 10 := by omega
    simp only [hi, h0]
    match i, hi10 with
    | 0, _ => rfl
    | 1, _ => rfl
    | 2, _ => rfl
    | 3, _ => rfl
    | 4, _ => rfl
    | 5, _ => rfl
    | 6, _ => rfl
    | 7, _ => rfl
    | 8, _ => rfl
    | 9, _ => rfl
theorem take_snoc (x : List Bool) (j : Nat) (h : j < x.length) : x.take (j + 1) = x.take j ++ [x[j]] := by
  rw [List.take_add_one, List.getElem?_eq_getElem h]
  rfl
theorem all_snoc (x : List Bool) (r : Rd) (j : Nat) (h : j < x.length) : r.all (x.take (j + 1)) = ((r.all (x.take j)).push x[j]).1 := by
  rw [take_snoc x j h, all_append]
  rfl
theorem rd_inv (F : Fr S H L) (h0 : crcN S = 0) : ∀ j, j ≤ (stuff S ++ ackT).length → (Rd.zero.all ((stuff S ++ ackT).take j)).Inv
  | 0, _ => Rd.zero_inv
  | j + 1, h => by
    rw [all_snoc _ _ j (by omega)]
    exact ((rd_inv F h0 j (by omega)).push _ (rd_push F h0 j (by omega))).1
/-- It tells a right sum behind the last bit of it. -/
theorem rd_right (F : Fr S H L) (h0 : crcN S = 0) (j : Nat) (h : (stuff S).length ≤ j) (hj : j ≤ (stuff S).length + 10) : (Rd.zero.all ((stuff S ++ ackT).take j)).right = true := by
  obtain ⟨k, b, ld, hk, e⟩ := rd_fin F ackT j h hj
  rw [e]
  unfold Rd.right
  rw [fin_in F]
  show (!false && crcN S == 0) = true
  rw [h0]
  rfl
end Go.Proofs.Ytgmjofcbdimjgaa.Mac
