/- How many bits of a frame are held against others', at most. -/
import Derived.Test.YtpkpnaedacefaaaGreatMacHear
namespace Go.Proofs.YtpkpnaedacefaaaGreat.MacW
set_option linter.unusedVariables false
set_option linter.unusedSimpArgs false
open Go Go.Proofs.YtpkpnaedacefaaaGreat.Lib Go.Proofs.YtpkpnaedacefaaaGreat.Bits Go.Proofs.YtpkpnaedacefaaaGreat.BitsW Go.Proofs.YtpkpnaedacefaaaGreat.StuffW Go.Proofs.YtpkpnaedacefaaaGreat.Frame Go.Proofs.YtpkpnaedacefaaaGreat.FrameW Go.Proofs.YtpkpnaedacefaaaGreat.Code Go.Proofs.YtpkpnaedacefaaaGreat.CodeW Go.Proofs.YtpkpnaedacefaaaGreat.CodeL Go.Proofs.YtpkpnaedacefaaaGreat.Mac
def headOk (m : Nat) : Bool :=
  decide ((stuffL 0 false (false :: (ofN m 11 ++ [true, true]))).length + ((stuffSt 0 false (false :: (ofN m 11 ++ [true, true]))).1 + 18) / 4 ≤ 21) &&
    (decide (1 ≤ (stuffSt 0 false (false :: (ofN m 11 ++ [true, true]))).1) && decide ((stuffSt 0 false (false :: (ofN m 11 ++ [true, true]))).1 ≤ 4))
theorem heads : ∀ m, m < 2048 → headOk m = true := by decide +kernel
theorem arb_short40 (e : Bool) (n : Nat) (r : Bool) : (stuff (arbL e n r)).length ≤ 40 := by
  unfold arbL
  cases e
  · rw [if_neg (by decide)]
    have := (stuffL_length (false :: (ofN n 11 ++ [r, false])) 0 false).2
    have hl : (false :: (ofN n 11 ++ [r, false])).length = 14 := by simp [ofN_length]
    unfold stuff
    omega
  · rw [if_pos rfl]
    have hm : ofN (n / 262144) 11 = ofN (n / 262144 % 2048) 11 := (ofN_mod (n / 262144) 11 11 (Nat.le_refl _)).symm
    have h := heads (n / 262144 % 2048) (Nat.mod_lt _ (by decide))
    unfold headOk at h
    simp only [Bool.and_eq_true, decide_eq_true_eq] at h
    obtain ⟨h1, h2, h3⟩ := h
    rw [hm, show false :: (ofN (n / 262144 % 2048) 11 ++ (true :: true :: (ofN n 18 ++ [r]))) = (false :: (ofN (n / 262144 % 2048) 11 ++ [true, true])) ++ (ofN n 18 ++ [r]) by simp]
    generalize false :: (ofN (n / 262144 % 2048) 11 ++ [true, true]) = x at *
    unfold stuff
    rw [stuffL_append, List.length_append]
    have hb := stuffL_bound (ofN n 18 ++ [r]) (stuffSt 0 false x).1 (stuffSt 0 false x).2 h2 h3
    have hl : (ofN n 18 ++ [r]).length = 19 := by simp [ofN_length]
    rw [hl] at hb
    omega
end Go.Proofs.YtpkpnaedacefaaaGreat.MacW
