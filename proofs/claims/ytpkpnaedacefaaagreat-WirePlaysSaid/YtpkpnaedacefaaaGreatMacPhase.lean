/- A node that flags, recovers, pauses. -/
import Derived.Test.YtpkpnaedacefaaaGreatMacFine
namespace Go.Proofs.YtpkpnaedacefaaaGreat.MacW
set_option linter.unusedVariables false
set_option linter.unusedSimpArgs false
open Go Go.Proofs.YtpkpnaedacefaaaGreat.Lib Go.Proofs.YtpkpnaedacefaaaGreat.Bits Go.Proofs.YtpkpnaedacefaaaGreat.BitsW Go.Proofs.YtpkpnaedacefaaaGreat.Frame Go.Proofs.YtpkpnaedacefaaaGreat.FrameW Go.Proofs.YtpkpnaedacefaaaGreat.Code Go.Proofs.YtpkpnaedacefaaaGreat.CodeW Go.Proofs.YtpkpnaedacefaaaGreat.CodeL Go.Proofs.YtpkpnaedacefaaaGreat.Mac
/-- Behind i bits of its flag; behind k bits 1 of its recovering, counting, pausing. -/
def flagM (m : M) (i : Nat) : M := if i < 6 then { m with st := 3, left := 6 - (i : Int) } else { m with st := 4, left := 0 }
def recM (m : M) (k : Nat) : M := if k = 0 then { m with st := 4, left := 0 } else if k ≤ 7 then { m with st := 5, left := 8 - (k : Int) } else if k ≤ 10 then { m with st := 6, left := 11 - (k : Int) } else { m with st := 0, left := 0 }
theorem flag_eq {m : M} {i : Nat} (h : i < 6) : flagM m i = { m with st := 3, left := 6 - (i : Int) } := if_pos h
theorem flag_rec (m : M) : flagM m 6 = recM m 0 := rfl
theorem counted_go {m : M} {s l : Int} (h : 1 < m.left) : m.counted s l = { m with left := m.left - 1 } := if_neg (by omega)
theorem counted_end {m : M} {s l : Int} (h : m.left = 1) : m.counted s l = { m with st := s, left := l } := if_pos (by omega)
theorem sample_flag {m : M} {c : Bool} (h : m.st = 3) : m.sample c = (m.counted 4 0, []) := by
  unfold M.sample
  rw [if_neg (by omega), if_neg (by omega), if_neg (by omega), if_pos h]
theorem sample_count {m : M} (h : m.st = 5) : m.sample true = (m.counted 6 3, []) := by
  unfold M.sample
  rw [if_neg (by omega), if_neg (by omega), if_neg (by omega), if_neg (by omega), if_neg (by omega), if_pos h, if_pos rfl]
theorem sample_rec {m : M} (h : m.st = 4) : m.sample true = ({ m with st := 5, left := 7 }, []) := by
  unfold M.sample
  rw [if_neg (by omega), if_neg (by omega), if_neg (by omega), if_neg (by omega), if_pos h, if_pos rfl]
theorem sample_low {m : M} (h : m.st = 4) : m.sample false = (m, []) := by
  unfold M.sample
  rw [if_neg (by omega), if_neg (by omega), if_neg (by omega), if_neg (by omega), if_pos h, if_neg (by decide)]
theorem sample_pause {m : M} (h : m.st = 6) : m.sample true = (m.counted 0 0, []) := by
  unfold M.sample
  rw [if_neg (by omega), if_neg (by omega), if_neg (by omega), if_neg (by omega), if_neg (by omega), if_neg (by omega), if_pos h, if_pos rfl]
theorem flag_step (m : M) {i : Nat} (h : i < 6) (c : Bool) : (flagM m i).sample c = (flagM m (i + 1), []) := by
  rw [flag_eq h, sample_flag rfl]
  by_cases h5 : i = 5
  · subst h5
    rw [counted_end rfl]
    rfl
  · rw [counted_go (by show 1 < 6 - (i : Int); omega), flag_eq (by omega)]
    have : (6 - (i : Int)) - 1 = 6 - ((i + 1 : Nat) : Int) := by omega
    simp only [this]
theorem rec_low (m : M) : (recM m 0).sample false = (recM m 0, []) := sample_low rfl
theorem rec_eq1 {m : M} {k : Nat} (h0 : k ≠ 0) (h : k ≤ 7) : recM m k = { m with st := 5, left := 8 - (k : Int) } := by unfold recM; rw [if_neg h0, if_pos h]
theorem rec_eq2 {m : M} {k : Nat} (h0 : 7 < k) (h : k ≤ 10) : recM m k = { m with st := 6, left := 11 - (k : Int) } := by unfold recM; rw [if_neg (show ¬ k = 0 by omega), if_neg (show ¬ k ≤ 7 by omega), if_pos h]
theorem rec_eq3 {m : M} {k : Nat} (h0 : 10 < k) : recM m k = { m with st := 0, left := 0 } := by unfold recM; rw [if_neg (show ¬ k = 0 by omega), if_neg (show ¬ k ≤ 7 by omega), if_neg (show ¬ k ≤ 10 by omega)]
theorem rec_step (m : M) {k : Nat} (h : k < 11) : (recM m k).sample true = (recM m (k + 1), []) := by
  by_cases h0 : k = 0
  · subst h0
    rw [rec_eq1 (k := 0 + 1) (by decide) (by decide)]
    exact sample_rec rfl
  by_cases h7 : k ≤ 7
  · rw [rec_eq1 h0 h7, sample_count rfl]
    by_cases h8 : k = 7
    · subst h8
      rw [counted_end rfl, rec_eq2 (by decide) (by decide)]
      rfl
    · rw [counted_go (by show 1 < 8 - (k : Int); omega), rec_eq1 (by omega) (by omega)]
      have : (8 - (k : Int)) - 1 = 8 - ((k + 1 : Nat) : Int) := by omega
      simp only [this]
  rw [rec_eq2 (by omega) (by omega), sample_pause rfl]
  by_cases h8 : k = 10
  · subst h8
    rw [counted_end rfl, rec_eq3 (by decide)]
  · rw [counted_go (by show 1 < 11 - (k : Int); omega), rec_eq2 (by omega) (by omega)]
    have : (11 - (k : Int)) - 1 = 11 - ((k + 1 : Nat) : Int) := by omega
    simp only [this]
theorem rec_idle (m : M) {k : Nat} (h : k ≤ 11) : ((recM m k).st == 0) = decide (k = 11) := by
  unfold recM
  by_cases h0 : k = 0
  · subst h0; rfl
  rw [if_neg h0]
  by_cases h7 : k ≤ 7
  · rw [if_pos h7, decide_eq_false (by omega)]; rfl
  rw [if_neg h7]
  by_cases h10 : k ≤ 10
  · rw [if_pos h10, decide_eq_false (by omega)]; rfl
  rw [if_neg h10, decide_eq_true (by omega)]; rfl
theorem flag_drive (m : M) {i : Nat} (h : i < 6) : (flagM m i).drive = isPas m.sent m.got := by
  rw [flag_eq h]
  rfl
theorem drive_other {m : M} (h0 : m.st ≠ 0) (h1 : m.st ≠ 1) (h3 : m.st ≠ 3) : m.drive = true := by
  unfold M.drive
  rw [if_neg h0, if_neg h1, if_neg h3]
theorem rec_drive (m : M) {k : Nat} (h : k < 11) : (recM m k).drive = true := by
  unfold recM
  by_cases h0 : k = 0
  · rw [if_pos h0]; exact drive_other (by show (4 : Int) ≠ 0; decide) (by show (4 : Int) ≠ 1; decide) (by show (4 : Int) ≠ 3; decide)
  rw [if_neg h0]
  by_cases h7 : k ≤ 7
  · rw [if_pos h7]; exact drive_other (by show (5 : Int) ≠ 0; decide) (by show (5 : Int) ≠ 1; decide) (by show (5 : Int) ≠ 3; decide)
  rw [if_neg h7, if_pos (by omega)]
  exact drive_other (by show (6 : Int) ≠ 0; decide) (by show (6 : Int) ≠ 1; decide) (by show (6 : Int) ≠ 3; decide)
end Go.Proofs.YtpkpnaedacefaaaGreat.MacW
