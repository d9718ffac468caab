/- ConfineRows (layer 5): for every row of at most three hundred frames sent or come, well or badly, the two
   counters are at each step what the plain rule says (one less and never below 0, or eight more and one more
   and never above 1000; a frame that came well with more than 127 errors leaves 120), and IsOff, IsPassive
   and Is answer accordingly. Conditions: none beyond the type of the argument; a longer row is let pass. -/
import Derived.Test.YtlfeidakmhniaaaPConfineRowsx3
namespace Go.Proofs.Ytlfeidakmhniaaa.Pure
open Go.RowKit Go.Proofs.Ytlfeidakmhniaaa.PConfineRows Go.Proofs.YtlfeidakmhniaaaW.PrintWords Go.Proofs.YtlfeidakmhniaaaW.PrintLast Go.Proofs.YtlfeidakmhniaaaW.PrintMore

theorem held_id (s : Int) (h0 : 0 ≤ s) (h1 : s ≤ 1000) : mn (mx s 0) 1000 = s := by
  unfold mn mx
  repeat' split
  all_goals omega

theorem is_in (s g : Int) (a : 0 ≤ s) (b : s ≤ 1000) (c : 0 ≤ g) (d : g ≤ 1000) : confine_Is.f s g = some true := by
  simp [confine_Is.f, held_id s a b, held_id g c d]

theorem sent_good (s g : Int) (a : 0 ≤ s) (b : s ≤ 1000) (c : 0 ≤ g) (d : g ≤ 1000) : confine_Sent.f s g true = some (mx 0 (wrap64 (s - 1)), g) := by
  simp [confine_Sent.f, is_in s g a b c d]
  unfold mx
  repeat' split
  all_goals omega

theorem sent_bad (s g : Int) (a : 0 ≤ s) (b : s ≤ 1000) (c : 0 ≤ g) (d : g ≤ 1000) : confine_Sent.f s g false = some (mn 1000 (wrap64 (s + 8)), g) := by
  simp [confine_Sent.f, is_in s g a b c d]
  unfold mn
  repeat' split
  all_goals omega

theorem got_bad (s g : Int) (a : 0 ≤ s) (b : s ≤ 1000) (c : 0 ≤ g) (d : g ≤ 1000) : confine_Got.f s g false = some (s, mn 1000 (wrap64 (g + 1))) := by
  simp [confine_Got.f, is_in s g a b c d]
  unfold mn
  repeat' split
  all_goals omega

theorem got_high (s g : Int) (a : 0 ≤ s) (b : s ≤ 1000) (c : 0 ≤ g) (d : g ≤ 1000) (h : g > 127) : confine_Got.f s g true = some (s, mx 0 (121 - 1)) := by
  simp [confine_Got.f, is_in s g a b c d, h]
  unfold mx
  omega

theorem got_low (s g : Int) (a : 0 ≤ s) (b : s ≤ 1000) (c : 0 ≤ g) (d : g ≤ 1000) (h : ¬ g > 127) : confine_Got.f s g true = some (s, mx 0 (wrap64 (g - 1))) := by
  simp [confine_Got.f, is_in s g a b c d, h]
  unfold mx
  repeat' split
  all_goals omega

theorem mx_range (s : Int) (a : 0 ≤ s) (b : s ≤ 1000) : 0 ≤ mx 0 (wrap64 (s - 1)) ∧ mx 0 (wrap64 (s - 1)) ≤ 1000 := by
  unfold mx wrap64
  repeat' split
  all_goals omega

theorem mn_range (s k : Int) (a : 0 ≤ s) (b : s ≤ 1000) (c : 0 ≤ k) (d : k ≤ 8) : 0 ≤ mn 1000 (wrap64 (s + k)) ∧ mn 1000 (wrap64 (s + k)) ≤ 1000 := by
  unfold mn wrap64
  repeat' split
  all_goals omega

theorem joined (k : Nat) (l : List Int) (s g i : Int) (a : 0 ≤ s) (b : s ≤ 1000) (c : 0 ≤ g) (d : g ≤ 1000) :
    ostinatolaw5_ConfineRows.j1 (k + 1) l s g i s g = ostinatolaw5_ConfineRows.l0 k l s g (wrap64 (i + 1)) s g := by
  have e := is_in s g a b c d
  simp only [ostinatolaw5_ConfineRows.j1, confine_IsOff.f, confine_IsPassive.f, e, Option.bind_some]
  by_cases h1 : s ≥ 256
  · have : ¬ s < 256 := by omega
    simp [h1, this]
  · have h2 : s < 256 := by omega
    by_cases h3 : s ≥ 128
    · simp [h1, h2, h3]
    · simp [h1, h2, h3]

theorem rows_all (l : List Int) (hl : l.length ≤ 300) (d : Nat) : ∀ (k : Nat) (s g i : Int), 0 ≤ s → s ≤ 1000 → 0 ≤ g → g ≤ 1000 → 0 ≤ i → i ≤ l.length →
    (l.length : Int) - i = d → 2 * d < k → ostinatolaw5_ConfineRows.l0 k l s g i s g = some true := by
  induction d with
  | zero =>
    intro k s g i _ _ _ _ h0 h1 hd hk
    obtain ⟨k, rfl⟩ : ∃ m, k = m + 1 := ⟨k - 1, by omega⟩
    simp only [ostinatolaw5_ConfineRows.l0]
    rw [if_neg (by omega)]
  | succ d ih =>
    intro k s g i a b c e h0 h1 hd hk
    obtain ⟨k, rfl⟩ : ∃ m, k = m + 2 := ⟨k - 2, by omega⟩
    have hw : wrap64 (i + 1) = i + 1 := by unfold wrap64; omega
    have r1 := mx_range s a b
    have r2 := mx_range g c e
    have r3 := mn_range s 8 a b (by omega) (by omega)
    have r4 := mn_range g 1 c e (by omega) (by omega)
    simp only [ostinatolaw5_ConfineRows.l0]
    rw [if_pos (by omega), if_pos h0]
    by_cases t0 : Int.tmod (rd l i) 4 = 0
    · rw [if_pos t0, sent_good s g a b c e]
      simp only [Option.bind_some]
      rw [joined _ _ _ _ _ r1.1 r1.2 c e, hw]
      exact ih k _ _ _ r1.1 r1.2 c e (by omega) (by omega) (by omega) (by omega)
    · rw [if_neg t0]
      by_cases t1 : Int.tmod (rd l i) 4 = 1
      · rw [if_pos t1, sent_bad s g a b c e]
        simp only [Option.bind_some]
        rw [joined _ _ _ _ _ r3.1 r3.2 c e, hw]
        exact ih k _ _ _ r3.1 r3.2 c e (by omega) (by omega) (by omega) (by omega)
      · rw [if_neg t1]
        by_cases t2 : Int.tmod (rd l i) 4 = 2
        · rw [if_pos t2]
          by_cases t3 : g > 127
          · rw [if_pos t3, got_high s g a b c e t3]
            simp only [Option.bind_some]
            have r5 : mx 0 (121 - 1) = 120 := by decide
            rw [r5, joined _ _ _ _ _ a b (by omega) (by omega), hw]
            exact ih k _ _ _ a b (by omega) (by omega) (by omega) (by omega) (by omega) (by omega)
          · rw [if_neg t3, got_low s g a b c e t3]
            simp only [Option.bind_some]
            rw [joined _ _ _ _ _ a b r2.1 r2.2, hw]
            exact ih k _ _ _ a b r2.1 r2.2 (by omega) (by omega) (by omega) (by omega)
        · rw [if_neg t2, got_bad s g a b c e]
          simp only [Option.bind_some]
          rw [joined _ _ _ _ _ a b r4.1 r4.2, hw]
          exact ih k _ _ _ a b r4.1 r4.2 (by omega) (by omega) (by omega) (by omega)

theorem known_tells : ostinatolaw5_known.f 700 = some true := by decide +kernel

theorem ConfineRows : ostinatolaw5_ConfineRows.Pure := by
  intro l0 _ _ _
  refine ⟨700, ?_⟩
  unfold ostinatolaw5_ConfineRows.f
  rw [known_tells]
  simp only [Option.bind_some, if_true]
  by_cases h : (l0.length : Int) > 300
  · rw [if_pos h]
  · rw [if_neg h]
    exact rows_all l0 (by omega) l0.length 700 0 0 0 (by omega) (by omega) (by omega) (by omega) (by omega) (by omega) (by omega) (by omega)

end Go.Proofs.Ytlfeidakmhniaaa.Pure
