/- The plain law under ConfineTells: the program's counters and the document's agree at every pair of numbers. -/
import Derived.Test.YtlfeidakmhniaaaPConfineTellsx3
namespace Go.Proofs.Ytlfeidakmhniaaa.Pure
open Go.RowKit Go.Proofs.Ytlfeidakmhniaaa.PConfineTells Go.Proofs.YtlfeidakmhniaaaW.PrintWords Go.Proofs.YtlfeidakmhniaaaW.PrintLast Go.Proofs.YtlfeidakmhniaaaW.PrintMore

theorem known_tells : ostinatolaw5_known.f 700 = some true := by decide +kernel

theorem held_is (s : Int) : (mn (mx s 0) 1000 == s) = decide (0 ≤ s ∧ s ≤ 1000) := by
  rw [Bool.eq_iff_iff]
  simp only [beq_iff_eq, decide_eq_true_eq]
  unfold mn mx
  repeat' split
  all_goals omega

theorem is_eq (s g : Int) : confine_Is.f s g = some (decide ((0 ≤ s ∧ s ≤ 1000) ∧ (0 ≤ g ∧ g ≤ 1000))) := by
  simp only [confine_Is.f, held_is, Bool.decide_and]

theorem ref_is_eq (s g : Int) : ostinatoref7_is.f s g = some (decide ((0 ≤ s ∧ s ≤ 1000) ∧ (0 ≤ g ∧ g ≤ 1000))) := by
  unfold ostinatoref7_is.f
  repeat' split
  all_goals (rw [Option.some.injEq, Bool.eq_iff_iff]; simp only [decide_eq_true_eq, Bool.false_eq_true, false_iff]; omega)

theorem sent_eq (s g : Int) (ok : Bool) : ostinatoref7_Sent.f s g ok = confine_Sent.f s g ok := by
  simp only [ostinatoref7_Sent.f, confine_Sent.f, is_eq, ref_is_eq, Option.bind_some]
  unfold mn mx
  repeat' split
  all_goals first | rfl | (simp; omega)

theorem got_eq (s g : Int) (ok : Bool) : ostinatoref7_Got.f s g ok = confine_Got.f s g ok := by
  simp only [ostinatoref7_Got.f, confine_Got.f, is_eq, ref_is_eq, Option.bind_some]
  unfold mn mx
  repeat' split
  all_goals first | rfl | (simp; omega)

theorem sent_some (s g : Int) (ok : Bool) : ∃ r, confine_Sent.f s g ok = some r := by
  simp only [confine_Sent.f, is_eq, Option.bind_some]
  repeat' split
  all_goals exact ⟨_, rfl⟩

theorem got_some (s g : Int) (ok : Bool) : ∃ r, confine_Got.f s g ok = some r := by
  simp only [confine_Got.f, is_eq, Option.bind_some]
  repeat' split
  all_goals exact ⟨_, rfl⟩

theorem passive_eq (s g : Int) : ostinatoref7_IsPassive.f s g = confine_IsPassive.f s g := by
  simp only [ostinatoref7_IsPassive.f, confine_IsPassive.f, ostinatoref7_IsOff.f, confine_IsOff.f]

theorem passive_some (s g : Int) : ∃ r, confine_IsPassive.f s g = some r := by
  simp only [confine_IsPassive.f, confine_IsOff.f, Option.bind_some]
  repeat' split
  all_goals exact ⟨_, rfl⟩

theorem tells_join (k : Nat) (ok b : Bool) (s g : Int) (h : b = decide ((0 ≤ s ∧ s ≤ 1000) ∧ (0 ≤ g ∧ g ≤ 1000))) :
    ostinatolaw5_ConfineTells.j0 (k + 1) ok b s g = some true := by
  obtain ⟨r, hr⟩ := sent_some s g ok
  obtain ⟨q, hq⟩ := got_some s g ok
  obtain ⟨p, hp⟩ := passive_some s g
  simp only [ostinatolaw5_ConfineTells.j0, sent_eq, got_eq, passive_eq, is_eq, hr, hq, hp, Option.bind_some, ← h]
  simp [ostinatoref7_IsOff.f, confine_IsOff.f]

theorem ConfineTells (s g : Int) (ok : Bool) : ostinatolaw5_ConfineTells.f 700 s g ok = some true := by
  unfold ostinatolaw5_ConfineTells.f
  rw [known_tells]
  simp only [Option.bind_some, if_true]
  repeat' split
  all_goals (refine tells_join 699 _ _ _ _ ?_; rw [Bool.eq_iff_iff]; simp; try omega)

theorem tells_walk (s g : Int) (ok : Bool) (w : World) (_ : (Lit.int .i64 s).wf = true) (_ : (Lit.int .i64 g).wf = true) :
    Calls Try.prog 5 #[.agg #[.int .i64 s, .int .i64 g], .bool ok] w fun e w' => e = .returned (.bool true) ∧ Below w.heap.size w w' :=
  ostinatolaw5_ConfineTells.calls 700 s g ok true w (ConfineTells s g ok)

end Go.Proofs.Ytlfeidakmhniaaa.Pure
