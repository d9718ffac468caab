/- StuffQuiet: the row of the statement, over the walk's theorem: for every input the call returns true and what came in reads as it did. -/
import Derived.Test.YtkclgfjfmlogmaaRows
import Derived.Test.YtkclgfjfmlogmaaPureStuffQuiet
import Derived.Deep.Grids
import Derived.WalkKit
import Derived.ProofKit
import Derived.OpenShut
import Derived.ShutString
import Derived.ChangeOld
import Derived.Below
import Derived.SizedLaws
import Derived.Lib.SmallJoins
namespace Go.Proofs.Ytkclgfjfmlogmaa.stuffQuiet
open Go.ChangeShapes Go.WideShapes Go.ChangeAt Go.RowKit
open Go.ChangeMaps (open_string shut_string)
set_option linter.unusedVariables false
theorem own : ownKnob Try.prog.godebug = none := by kernel_rfl
theorem laidOut : laidOutB Try.prog = true := by kernel_rfl
set_option maxRecDepth 100000 in
theorem lifted (os : Os) (started : os.Started) (H : Type) (enc : TypeId × Value → H) :
    ReturnsInHanded {} Try.checked os 8 .any (Rows.stuffQuietSpec.pre6 enc Try.prog Try.f8 Rows.stuffQuietRow.domain false) (Rows.stuffQuietSpec.post enc Try.prog Try.f8 false true false false) := by
  refine returnsInHanded_of_change_sized (C := Try.checked) own started (by kernel_rfl) Try.func8
    (ChangeSpec.witness6 (enc := enc) (C := Try.checked) false ⟨#[], #[.slice none 0 0], []⟩ 8 (by kernel_rfl) (by kernel_rfl) (by kernel_rfl) (by kernel_rfl)) ?_
  intro W base args ds gs before hval0 hW hcnd hsz0 _
  have hsz : (DataW.weightsEach Try.prog (Try.f8.params.toList ++ Rows.stuffQuietSpec.plain.varTypes Try.prog) (ds ++ gs)).all (· ≤ reachBytes) = true := hsz0
  have hval : ∀ (j : Nat) t v, Try.f8.params[j]? = some t → args[j]? = some v → Value.okWide Try.prog W .any base t v := hval0
  have hW' := hW
  obtain ⟨p, q, hA0, hV, rfl, hfz, hnd⟩ := hW
  have hA : DataW.TrodAll enc Try.prog W 0 (fun _ => true) true Try.f8.params.toList args.toList ds p := hA0
  rw [Try.params8] at hA hval hsz
  obtain ⟨v0, vs0, d0, ds0, p0, q0, hargs, rfl, rfl, h0, r0⟩ := trodAll_cons hA
  obtain ⟨rfl, rfl, rfl⟩ := trodAll_nil r0
  obtain rfl : args = #[v0] := by cases args; simp_all
  obtain ⟨rfl, rfl⟩ := trodVars_none hV
  have k0 := h0
  have lt0 : ∀ x ∈ p0, x.block < W.heap.size := by obtain ⟨m, hm⟩ := k0; exact DataW.trod_lt m _ _ _ hm
  obtain ⟨a0, len0, cap0, rfl⟩ := okWide_slice Try.underlying36 (hval 0 36 v0 rfl rfl)
  have hs0 := k0
  clear hA0 hval0 hsz0
  obtain q0 : ∃ l : List Bool, l.length = len0 ∧ len0 ≤ cap0 ∧ Go.Proofs.YtkclgfjfmlogmaaW.PrintWords.Kd.C Go.Proofs.YtkclgfjfmlogmaaW.PrintWords.Kd.bool W a0 len0 l := by
    obtain ⟨fuel, hf⟩ := hs0
    rcases Go.Deep.open_bools Try.underlying36 Try.underlying4 (by kernel_rfl) hf with ⟨hcs, _⟩ | ⟨x, l, c, B, hcs, _, hl, hm, _, hcell⟩
    · simp only [Value.cells, List.cons.injEq, Value.slice.injEq, and_true] at hcs
      obtain ⟨rfl, rfl, rfl⟩ := hcs
      exact ⟨[], rfl, Nat.le_refl _, rfl, by omega, fun h => absurd h (by omega)⟩
    · simp only [Value.cells, List.cons.injEq, Value.slice.injEq, and_true] at hcs
      obtain ⟨rfl, rfl, rfl⟩ := hcs
      have hmx : cap0 ≤ 9223372036854775807 := hm
      refine ⟨(List.range len0).map B, by simp, hl, by simp, by omega, fun _ => ⟨x, rfl, fun j p hj => ?_⟩⟩
      simp only [List.getElem?_map, Option.map_eq_some_iff] at hj
      obtain ⟨i, hi, rfl⟩ := hj
      rw [List.getElem?_eq_some_iff] at hi
      obtain ⟨hi1, hi2⟩ := hi
      rw [List.length_range] at hi1
      simp only [List.getElem_range] at hi2
      subst hi2
      refine ⟨[.bool (B j)], rfl, rfl, fun i u hu => ?_⟩
      have : i = 0 := by have := (List.getElem?_eq_some_iff.mp hu).1; simpa using this
      subst this
      simp only [List.getElem?_cons_zero, Option.some.injEq] at hu
      subst hu
      have := hcell j (by omega)
      have e : j * Go.Proofs.YtkclgfjfmlogmaaW.PrintWords.Kd.bool.sz + 0 = j := by show j * 1 + 0 = j; omega
      rw [e]
      exact this
  refine (Pure.StuffQuiet_walk a0 len0 cap0 W (q0)).mono fun e W' ⟨he, bel⟩ => ?_
  subst he
  exact ⟨_, rfl, _, _, _, [], _, [], hW', trodAll_mk1 (shut_bool Try.underlying4 _), (trodAll_cons_mk (Below.trod laidOut (by kernel_rfl) (of_decide_eq_true (by kernel_rfl)) k0 bel lt0) trodAll_mk0), rfl, bel.frame _, fun h => by cases h⟩
theorem over : Rows.stuffQuietRow.holds Try.pinned (OpenSpec.ofChange Rows.stuffQuietSpec) :=
  OpenClaim.holds_of_wide 8 Try.f8 rfl rfl rfl rfl rfl rfl rfl ⟨rfl, rfl, rfl, rfl, rfl⟩ rfl rfl rfl rfl rfl (by kernel_rfl) Try.func8 (by kernel_rfl)
    (of_decide_eq_true (by kernel_rfl)) (by unfold Func.isWrapper; first | (rw [if_pos (by decide +kernel)]; kernel_rfl) | (rw [if_neg (by decide +kernel)]; exact ⟨rfl, rfl⟩))
    (fun os started H enc _ => lifted os started H enc)
theorem proved : Rows.StuffQuietSaid := over
end Go.Proofs.Ytkclgfjfmlogmaa.stuffQuiet
namespace Go.Proofs.Ytkclgfjfmlogmaa
theorem stuffQuiet_holds : Rows.StuffQuietSaid := stuffQuiet.proved
#print axioms stuffQuiet_holds
end Go.Proofs.Ytkclgfjfmlogmaa
