/- A node alone on the wire, its flags counted at once. -/
import Derived.Test.YtgmjofcbdimjgaaMacOwn
namespace Go.Proofs.Ytgmjofcbdimjgaa.MacW
set_option linter.unusedVariables false
set_option linter.unusedSimpArgs false
open Go Go.Proofs.Ytgmjofcbdimjgaa.Lib Go.Proofs.Ytgmjofcbdimjgaa.Bits Go.Proofs.Ytgmjofcbdimjgaa.BitsW Go.Proofs.Ytgmjofcbdimjgaa.Frame Go.Proofs.Ytgmjofcbdimjgaa.FrameW Go.Proofs.Ytgmjofcbdimjgaa.Code Go.Proofs.Ytgmjofcbdimjgaa.CodeW Go.Proofs.Ytgmjofcbdimjgaa.CodeL Go.Proofs.Ytgmjofcbdimjgaa.Mac
/-- A node alone, i rounds after it was made, F failures behind it; no flag is under way. -/
def Pass (f : Fm) (i : Nat) (m : M) (F : Nat) : Prop :=
  (i < 3 ∧ m = nw i ∧ F = 0) ∨
  ∃ (k t : Nat) (q : M), k ≤ 20 ∧ Quiet q k ∧ i = 3 + k * (f.ack.length + 3) + t ∧
    ((t = 0 ∧ m = q ∧ F = k) ∨ (k < 20 ∧ 0 < t ∧ t + 9 ≤ f.ack.length ∧ m = sendM q f t ∧ F = k) ∨
     (k < 20 ∧ f.ack.length < t + 9 ∧ t < f.ack.length + 3 ∧ m = recM (nxM q f) (t + 8 - f.ack.length) ∧ F = k + 1))
theorem pass_start (f : Fm) : Pass f 0 M.new 0 := .inl ⟨by decide, rfl, rfl⟩
/-- Its flag. -/
theorem pass_flags {q : M} {k : Nat} (hq : Quiet q k) (f : Fm) (hk : k < 20) {i : Nat} (hi : i < 6) :
    (flagM (nxM q f) i).drive = decide (16 ≤ k + 1) ∧ (flagM (nxM q f) i).sample (flagM (nxM q f) i).drive = (flagM (nxM q f) (i + 1), []) := by
  refine ⟨?_, flag_step _ hi _⟩
  rw [flag_drive _ hi]
  show isPas (q.sent + 8) q.got = _
  unfold isPas isOff
  rw [hq.sent, hq.got]
  by_cases h : 16 ≤ k + 1
  · rw [decide_eq_true h, decide_eq_false (by omega), decide_eq_true (by omega)]
    rfl
  · rw [decide_eq_false h, decide_eq_false (by omega), decide_eq_false (by omega)]
    rfl
theorem pass_le {f : Fm} (h : f.Good) {i : Nat} {m : M} {F : Nat} (ha : Pass f i m F) : i < 5999 ∧ F ≤ 20 := by
  have hl := ack_long h
  rcases ha with ⟨hi, rfl, rfl⟩ | ⟨k, t, q, hk, hq, hi, hc⟩
  · omega
  · have hkl : k * (f.ack.length + 3) ≤ 20 * 249 := Nat.mul_le_mul hk (by omega)
    rcases hc with ⟨rfl, rfl, rfl⟩ | ⟨hk2, h0, h9, rfl, rfl⟩ | ⟨hk2, h1, h2, rfl, rfl⟩
    · omega
    · omega
    · omega
theorem pass_round {f : Fm} (h : f.Good) {i : Nat} {m : M} {F : Nat} (ha : Pass f i m F) (hF : F < 20) : i < 5999 ∧
    (((m.st == 0) = true ∧ ∃ m1, m.ask f = (m1, 0) ∧ m1.drive = false ∧ ∃ m2, m1.sample false = (m2, [⟨6, Fm.zero, 0⟩]) ∧ Pass f (i + 1) m2 F) ∨
     ((m.st == 0) = false ∧ ∃ m2, m.sample m.drive = (m2, []) ∧ Pass f (i + 1) m2 F) ∨
     ((m.st == 0) = false ∧ ∃ (q : M), Quiet q F ∧ m.sample m.drive = (flagM (nxM q f) 0, [⟨4, f, 71⟩]) ∧ Pass f (i + 1) (flagM (nxM q f) 6) (F + 1))) := by
  have hl := ack_long h
  have hq0 : Quiet (nw 3) 0 := by rw [nw_idle (by decide)]; exact ⟨rfl, rfl, rfl, rfl, rfl⟩
  rcases ha with ⟨hi, rfl, rfl⟩ | ⟨k, t, q, hk, hq, hi, hc⟩
  · refine ⟨by omega, .inr (.inl ⟨?_, nw (i + 1), ?_, ?_⟩)⟩
    · match i, hi with
      | 0, _ => rfl
      | 1, _ => rfl
      | 2, _ => rfl
    · rw [nw_drive, nw_step]
    · by_cases h2 : i + 1 < 3
      · exact .inl ⟨h2, rfl, rfl⟩
      · have e : i + 1 = 3 := by omega
        rw [e]
        exact .inr ⟨0, 0, nw 3, by omega, hq0, by omega, .inl ⟨rfl, rfl, rfl⟩⟩
  · have hkl : k * (f.ack.length + 3) ≤ 20 * 249 := Nat.mul_le_mul hk (by omega)
    rcases hc with ⟨rfl, rfl, rfl⟩ | ⟨hk2, h0, h9, rfl, rfl⟩ | ⟨hk2, h1, h2, rfl, rfl⟩
    · refine ⟨by omega, .inl ⟨by rw [hq.st]; rfl, _, quiet_ask hq h, quiet_low hq f, _, quiet_begin hq f, ?_⟩⟩
      exact .inr ⟨F, 1, m, hk, hq, by omega, .inr (.inl ⟨by omega, by decide, by omega, rfl, rfl⟩)⟩
    · by_cases h10 : t + 9 < f.ack.length
      · refine ⟨by omega, .inr (.inl ⟨rfl, _, own_send h q h0 h10, ?_⟩)⟩
        exact .inr ⟨F, t + 1, q, hk, hq, by omega, .inr (.inl ⟨hk2, by omega, by omega, rfl, rfl⟩)⟩
      · have e : t = f.ack.length - 9 := by omega
        subst e
        refine ⟨by omega, .inr (.inr ⟨rfl, q, hq, own_fail h hq (by omega), ?_⟩)⟩
        refine .inr ⟨F, f.ack.length - 9 + 1, q, hk, hq, by omega, .inr (.inr ⟨hk2, by omega, by omega, ?_, rfl⟩)⟩
        rw [show f.ack.length - 9 + 1 + 8 - f.ack.length = 0 by omega]
        rfl
    · have hd : (recM (nxM q f) (t + 8 - f.ack.length)).sample (recM (nxM q f) (t + 8 - f.ack.length)).drive = (recM (nxM q f) (t + 8 - f.ack.length + 1), []) := by
        rw [rec_drive _ (by omega), rec_step _ (by omega)]
      refine ⟨by omega, .inr (.inl ⟨rec_st _ (by omega), _, hd, ?_⟩)⟩
      by_cases h8 : t + 1 < f.ack.length + 3
      · refine .inr ⟨k, t + 1, q, hk, hq, by omega, .inr (.inr ⟨hk2, by omega, by omega, ?_, rfl⟩)⟩
        rw [show t + 1 + 8 - f.ack.length = t + 8 - f.ack.length + 1 by omega]
      · have hm : (k + 1) * (f.ack.length + 3) = k * (f.ack.length + 3) + (f.ack.length + 3) := Nat.succ_mul _ _
        refine .inr ⟨k + 1, 0, recM (nxM q f) 11, by omega, quiet_next hq f, by omega, .inl ⟨rfl, ?_, rfl⟩⟩
        rw [show t + 8 - f.ack.length + 1 = 11 by omega]
end Go.Proofs.Ytgmjofcbdimjgaa.MacW
