/- BusPlays: the row of the statement, over the walk's theorem: for every input the call returns true and what came in reads as it did. -/
import Derived.Test.YtlfeidakmhniaaaRows
import Derived.Test.YtlfeidakmhniaaaLawBusPlays
import Derived.Deep.Grids
import Derived.SliceStrings
import Derived.WalkKit
import Derived.ProofKit
import Derived.OpenShut
import Derived.ShutString
import Derived.ChangeOld
import Derived.Below
import Derived.SizedLaws
import Derived.Lib.SmallJoins
namespace Go.Proofs.Ytlfeidakmhniaaa.busPlays
open Go.ChangeShapes Go.WideShapes Go.ChangeAt Go.RowKit
open Go.ChangeMaps (open_string shut_string)
set_option linter.unusedVariables false
theorem own : ownKnob Try.prog.godebug = none := by kernel_rfl
theorem laidOut : laidOutB Try.prog = true := by kernel_rfl
set_option maxRecDepth 100000 in
theorem lifted (os : Os) (started : os.Started) (H : Type) (enc : TypeId × Value → H) :
    ReturnsInHanded {} Try.checked os 9 .any (Rows.busPlaysSpec.pre6 enc Try.prog Try.f9 Rows.busPlaysRow.domain false) (Rows.busPlaysSpec.post enc Try.prog Try.f9 false true false false) := by
  refine returnsInHanded_of_change_sized (C := Try.checked) own started (by kernel_rfl) Try.func9
    (ChangeSpec.witness6 (enc := enc) (C := Try.checked) false ⟨#[], #[.slice none 0 0, .slice none 0 0], []⟩ 8 (by kernel_rfl) (by kernel_rfl) (by kernel_rfl) (by kernel_rfl)) ?_
  intro W base args ds gs before hval0 hW hcnd hsz0 _
  have hsz : (DataW.weightsEach Try.prog (Try.f9.params.toList ++ Rows.busPlaysSpec.plain.varTypes Try.prog) (ds ++ gs)).all (· ≤ reachBytes) = true := hsz0
  have hval : ∀ (j : Nat) t v, Try.f9.params[j]? = some t → args[j]? = some v → Value.okWide Try.prog W .any base t v := hval0
  have hW' := hW
  obtain ⟨p, q, hA0, hV, rfl, hfz, hnd⟩ := hW
  have hA : DataW.TrodAll enc Try.prog W 0 (fun _ => true) true Try.f9.params.toList args.toList ds p := hA0
  rw [Try.params9] at hA hval hsz
  obtain ⟨v0, vs0, d0, ds0, p0, q0, hargs, rfl, rfl, h0, r0⟩ := trodAll_cons hA
  obtain ⟨v1, vs1, d1, ds1, p1, q1, rfl, rfl, rfl, h1, r1⟩ := trodAll_cons r0
  obtain ⟨rfl, rfl, rfl⟩ := trodAll_nil r1
  obtain rfl : args = #[v0, v1] := by cases args; simp_all
  obtain ⟨rfl, rfl⟩ := trodVars_none hV
  have k0 := h0
  have lt0 : ∀ x ∈ p0, x.block < W.heap.size := by obtain ⟨m, hm⟩ := k0; exact DataW.trod_lt m _ _ _ hm
  have k1 := h1
  have lt1 : ∀ x ∈ p1, x.block < W.heap.size := by obtain ⟨m, hm⟩ := k1; exact DataW.trod_lt m _ _ _ hm
  obtain ⟨a0, len0, cap0, rfl⟩ := okWide_slice Try.underlying40 (hval 0 40 v0 rfl rfl)
  have hs0 := k0
  obtain ⟨a1, len1, cap1, rfl⟩ := okWide_slice Try.underlying41 (hval 1 41 v1 rfl rfl)
  have hs1 := k1
  clear hA0 hval0 hsz0
  obtain q0 : ∃ l : List ByteArray, l.length = len0 ∧ len0 ≤ cap0 ∧ Go.Proofs.YtlfeidakmhniaaaW.PrintWords.Kd.C Go.Proofs.YtlfeidakmhniaaaW.PrintWords.Kd.string W a0 len0 l := by
    obtain ⟨fuel, hf⟩ := hs0
    rcases open_strings Try.underlying40 Try.underlying9 (by kernel_rfl) hf with ⟨hcs, _⟩ | ⟨x, l, c, B, hcs, _, hl, hm, hB, _, hcell, _⟩
    · simp only [Value.cells, List.cons.injEq, Value.slice.injEq, and_true] at hcs
      obtain ⟨rfl, rfl, rfl⟩ := hcs
      exact ⟨[], rfl, Nat.le_refl _, rfl, by omega, fun h => absurd h (by omega)⟩
    · simp only [Value.cells, List.cons.injEq, Value.slice.injEq, and_true] at hcs
      obtain ⟨rfl, rfl, rfl⟩ := hcs
      have hmx : cap0 ≤ 9223372036854775807 := hm
      have hB2 : len0 ≤ B.length := by rw [hB]; split <;> omega
      refine ⟨B.take len0, by simp; omega, hl, by simp; omega, by omega, fun _ => ⟨x, rfl, fun j p hj => ?_⟩⟩
      have hjl : j < len0 := by
        have := (List.getElem?_eq_some_iff.1 hj).1
        simp at this; omega
      refine ⟨[.string p], rfl, rfl, fun i u hu => ?_⟩
      have : i = 0 := by have := (List.getElem?_eq_some_iff.mp hu).1; simpa using this
      subst this
      simp only [List.getElem?_cons_zero, Option.some.injEq] at hu
      subst hu
      have := hcell j (by omega)
      have e : j * Go.Proofs.YtlfeidakmhniaaaW.PrintWords.Kd.string.sz + 0 = j := by show j * 1 + 0 = j; omega
      rw [e]
      rw [List.getElem?_take_of_lt hjl] at hj
      rw [this, List.getD_eq_getElem?_getD, hj]
      rfl
  obtain q1 : ∃ l : List Bool, l.length = len1 ∧ len1 ≤ cap1 ∧ Go.Proofs.YtlfeidakmhniaaaW.PrintWords.Kd.C Go.Proofs.YtlfeidakmhniaaaW.PrintWords.Kd.bool W a1 len1 l := by
    obtain ⟨fuel, hf⟩ := hs1
    rcases Go.Deep.open_bools Try.underlying41 Try.underlying4 (by kernel_rfl) hf with ⟨hcs, _⟩ | ⟨x, l, c, B, hcs, _, hl, hm, _, hcell⟩
    · simp only [Value.cells, List.cons.injEq, Value.slice.injEq, and_true] at hcs
      obtain ⟨rfl, rfl, rfl⟩ := hcs
      exact ⟨[], rfl, Nat.le_refl _, rfl, by omega, fun h => absurd h (by omega)⟩
    · simp only [Value.cells, List.cons.injEq, Value.slice.injEq, and_true] at hcs
      obtain ⟨rfl, rfl, rfl⟩ := hcs
      have hmx : cap1 ≤ 9223372036854775807 := hm
      refine ⟨(List.range len1).map B, by simp, hl, by simp, by omega, fun _ => ⟨x, rfl, fun j p hj => ?_⟩⟩
      simp only [List.getElem?_map, Option.map_eq_some_iff] at hj
      obtain ⟨i, hi, rfl⟩ := hj
      rw [List.getElem?_eq_some_iff] at hi
      obtain ⟨hi1, hi2⟩ := hi
      rw [List.length_range] at hi1
      simp only [List.getElem_range] at hi2
      subst hi2
      refine ⟨[.bool (B j)], rfl, rfl, fun i u hu => ?_⟩
      have : i = 0 := by have := (List.getElem?_eq_some_iff.mp hu).1; simpa using this
      subst this
      simp only [List.getElem?_cons_zero, Option.some.injEq] at hu
      subst hu
      have := hcell j (by omega)
      have e : j * Go.Proofs.YtlfeidakmhniaaaW.PrintWords.Kd.bool.sz + 0 = j := by show j * 1 + 0 = j; omega
      rw [e]
      exact this
  refine (BusL.plays_walk a0 len0 cap0 a1 len1 cap1 W (q0) (q1)).mono fun e W' ⟨he, bel⟩ => ?_
  subst he
  exact ⟨_, rfl, _, _, _, [], _, [], hW', trodAll_mk1 (shut_bool Try.underlying4 _), (trodAll_cons_mk (Below.trod laidOut (by kernel_rfl) (of_decide_eq_true (by kernel_rfl)) k0 bel lt0) (trodAll_cons_mk (Below.trod laidOut (by kernel_rfl) (of_decide_eq_true (by kernel_rfl)) k1 bel lt1) trodAll_mk0)), rfl, bel.frame _, fun h => by cases h⟩
theorem over : Rows.busPlaysRow.holds Try.pinned (OpenSpec.ofChange Rows.busPlaysSpec) :=
  OpenClaim.holds_of_wide 9 Try.f9 rfl rfl rfl rfl rfl rfl rfl ⟨rfl, rfl, rfl, rfl, rfl⟩ rfl rfl rfl rfl rfl (by kernel_rfl) Try.func9 (by kernel_rfl)
    (of_decide_eq_true (by kernel_rfl)) (by unfold Func.isWrapper; first | (rw [if_pos (by decide +kernel)]; kernel_rfl) | (rw [if_neg (by decide +kernel)]; exact ⟨rfl, rfl⟩))
    (fun os started H enc _ => lifted os started H enc)
theorem proved : Rows.BusPlaysSaid := over
end Go.Proofs.Ytlfeidakmhniaaa.busPlays
namespace Go.Proofs.Ytlfeidakmhniaaa
theorem busPlays_holds : Rows.BusPlaysSaid := busPlays.proved
#print axioms busPlays_holds
end Go.Proofs.Ytlfeidakmhniaaa
