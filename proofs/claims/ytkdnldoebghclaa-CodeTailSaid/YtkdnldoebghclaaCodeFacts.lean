/- A reader keeps its bounds. -/
import Derived.Test.YtkdnldoebghclaaCodeSpec
namespace Go.Proofs.Ytkdnldoebghclaa.Code
set_option linter.unusedVariables false
set_option linter.unusedSimpArgs false
open Go Go.Proofs.Ytkdnldoebghclaa.Bits Go.Proofs.Ytkdnldoebghclaa.BitsW Go.Proofs.Ytkdnldoebghclaa.Frame

theorem need_zero {l : List Bool} (h : needL l = (0, 0)) : l.length ≤ 38 := by
  unfold needL at h
  split at h
  · simp at h
  · split at h
    · omega
    · split at h
      · split at h
        · split at h
          · omega
          · split at h <;> simp at h <;> omega
        · simp at h
      · split at h
        · omega
        · split at h <;> simp at h <;> omega
theorem need_max (l : List Bool) : (needL l).1 ≤ 103 := by
  unfold needL
  split
  · simp
  · split
    · simp
    · split
      · split
        · split
          · simp
          · split <;> simp <;> omega
        · simp
      · split
        · simp
        · split <;> simp <;> omega
/-- A reader within the bounds of its frame. -/
structure Rd.Inv (r : Rd) : Prop where
  rn : r.rn ≤ 5
  len : r.b.length ≤ 118
  none : r.need = 0 → needL r.b = (0, 0)
  need : r.need ≤ 103
  sum : r.sum < 65536
theorem Rd.zero_inv : Rd.zero.Inv := ⟨by decide, by decide, fun _ => rfl, by decide, by decide⟩
theorem Rd.Inv.free {r : Rd} (h : r.Inv) (hi : r.inBits = true) : r.b.length ≤ 117 := by
  unfold Rd.inBits at hi
  simp at hi
  rcases hi with h0 | h1
  · have := need_zero (h.none h0); omega
  · have := h.need; omega
theorem Rd.Inv.add {r : Rd} (c : Bool) (hr : r.rn ≤ 5) (hl : r.b.length ≤ 117) (hn : r.need ≤ 103) (he : (r.add c).2 = 0) : (r.add c).1.Inv ∧ (r.add c).1.en = r.en := by
  have hs := addC_lt r.sum c
  have hl2 : (r.b ++ [c]).length ≤ 118 := by simp; omega
  unfold Rd.add at he ⊢
  by_cases h0 : r.need ≠ 0
  · rw [if_pos h0]
    exact ⟨⟨hr, hl2, fun h => absurd h h0, hn, by show addC r.sum c < 65536; omega⟩, rfl⟩
  · rw [if_neg h0] at he ⊢
    by_cases h1 : (needL (r.b ++ [c])).2 ≠ 0
    · rw [if_pos h1] at he; exact absurd he h1
    · rw [if_neg h1]
      exact ⟨⟨hr, hl2, fun h => Prod.ext h (by simpa using h1), need_max _, by show addC r.sum c < 65536; omega⟩, rfl⟩
theorem Rd.Inv.push {r : Rd} (h : r.Inv) (c : Bool) (he : (r.push c).2 = 0) : (r.push c).1.Inv ∧ (r.push c).1.en ≤ r.en + 1 := by
  unfold Rd.push at he ⊢
  by_cases hin : r.inBits = true ∨ (r.rn = 5 ∧ r.laid = false ∧ r.en = 0)
  · rw [if_pos hin] at he ⊢
    by_cases h5 : r.rn = 5
    · rw [if_pos h5] at he ⊢
      by_cases hc : c = r.rb
      · rw [if_pos hc] at he; simp at he
      · rw [if_neg hc]
        exact ⟨⟨by show 1 ≤ 5; omega, h.len, h.none, h.need, h.sum⟩, Nat.le_succ _⟩
    · rw [if_neg h5] at he ⊢
      have hI : r.inBits = true := hin.elim id (fun q => absurd q.1 h5)
      have hk : runK r.rn r.rb c ≤ 5 := by unfold runK; have := h.rn; split <;> omega
      obtain ⟨i1, i2⟩ := Rd.Inv.add (r := { r with rn := runK r.rn r.rb c, rb := c }) c hk (h.free hI) h.need he
      exact ⟨i1, by rw [i2]; exact Nat.le_succ _⟩
  · rw [if_neg hin] at he ⊢
    exact ⟨⟨h.rn, h.len, h.none, h.need, h.sum⟩, Nat.le_refl _⟩
end Go.Proofs.Ytkdnldoebghclaa.Code
