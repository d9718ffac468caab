/- WireTurned: the row of the statement, over the walk's theorem: for every input the call returns true and what came in reads as it did. -/
import Derived.Test.YtpkpnaedacefaaaRows
import Derived.Test.YtpkpnaedacefaaaLawWireTurned
import Derived.WalkKit
import Derived.ProofKit
import Derived.OpenShut
import Derived.ShutString
import Derived.ChangeOld
import Derived.Below
import Derived.SizedLaws
import Derived.Lib.SmallJoins
namespace Go.Proofs.Ytpkpnaedacefaaa.wireTurned
open Go.ChangeShapes Go.WideShapes Go.ChangeAt Go.RowKit
open Go.ChangeMaps (open_string shut_string)
open Go.Joins (open_agg2 open_agg3 open_agg4)
set_option linter.unusedVariables false
theorem own : ownKnob Try.prog.godebug = none := by kernel_rfl
theorem laidOut : laidOutB Try.prog = true := by kernel_rfl
set_option maxRecDepth 100000 in
theorem lifted (os : Os) (started : os.Started) (H : Type) (enc : TypeId × Value → H) :
    ReturnsInHanded {} Try.checked os 6 .any (Rows.wireTurnedSpec.pre6 enc Try.prog Try.f6 Rows.wireTurnedRow.domain false) (Rows.wireTurnedSpec.post enc Try.prog Try.f6 false true false false) := by
  refine returnsInHanded_of_change_sized (C := Try.checked) own started (by kernel_rfl) Try.func6
    (ChangeSpec.witness6 (enc := enc) (C := Try.checked) false ⟨#[], #[.agg #[.bool false, .int .u32 0, .bool false, .string ⟨#[]⟩], .agg #[.bool false, .int .u32 0, .bool false, .string ⟨#[]⟩], .int .u8 0], []⟩ 8 (by kernel_rfl) (by kernel_rfl) (by kernel_rfl) (by kernel_rfl)) ?_
  intro W base args ds gs before hval0 hW hcnd hsz0 _
  have hsz : (DataW.weightsEach Try.prog (Try.f6.params.toList ++ Rows.wireTurnedSpec.plain.varTypes Try.prog) (ds ++ gs)).all (· ≤ reachBytes) = true := hsz0
  have hval : ∀ (j : Nat) t v, Try.f6.params[j]? = some t → args[j]? = some v → Value.okWide Try.prog W .any base t v := hval0
  have hW' := hW
  obtain ⟨p, q, hA0, hV, rfl, hfz, hnd⟩ := hW
  have hA : DataW.TrodAll enc Try.prog W 0 (fun _ => true) true Try.f6.params.toList args.toList ds p := hA0
  rw [Try.params6] at hA hval hsz
  obtain ⟨v0, vs0, d0, ds0, p0, q0, hargs, rfl, rfl, h0, r0⟩ := trodAll_cons hA
  obtain ⟨v1, vs1, d1, ds1, p1, q1, rfl, rfl, rfl, h1, r1⟩ := trodAll_cons r0
  obtain ⟨v2, vs2, d2, ds2, p2, q2, rfl, rfl, rfl, h2, r2⟩ := trodAll_cons r1
  obtain ⟨rfl, rfl, rfl⟩ := trodAll_nil r2
  obtain rfl : args = #[v0, v1, v2] := by cases args; simp_all
  obtain ⟨rfl, rfl⟩ := trodVars_none hV
  have k0 := h0
  have lt0 : ∀ x ∈ p0, x.block < W.heap.size := by obtain ⟨m, hm⟩ := k0; exact DataW.trod_lt m _ _ _ hm
  have k1 := h1
  have lt1 : ∀ x ∈ p1, x.block < W.heap.size := by obtain ⟨m, hm⟩ := k1; exact DataW.trod_lt m _ _ _ hm
  have k2 := h2
  have lt2 : ∀ x ∈ p2, x.block < W.heap.size := by obtain ⟨m, hm⟩ := k2; exact DataW.trod_lt m _ _ _ hm
  obtain ⟨c0_0, c0_1, c0_2, c0_3, y0_0, y0_1, y0_2, y0_3, m0, rfl, _, _, g0_0, g0_1, g0_2, g0_3⟩ := open_agg4 Try.underlying24 (by kernel_rfl) (by kernel_rfl) (hval 0 24 v0 rfl rfl) h0
  obtain ⟨a0_0, e0_0, -⟩ := DataW.trod_bool Try.underlying4 g0_0
  obtain rfl : c0_0 = _ := by simpa using e0_0
  obtain ⟨a0_1, e0_1, -, w0_1⟩ := DataW.trod_int Try.underlying22 g0_1
  obtain rfl : c0_1 = _ := by simpa using e0_1
  obtain ⟨a0_2, e0_2, -⟩ := DataW.trod_bool Try.underlying4 g0_2
  obtain rfl : c0_2 = _ := by simpa using e0_2
  obtain ⟨a0_3, e0_3, -, w0_3⟩ := DataW.trod_string Try.underlying9 g0_3
  obtain rfl : c0_3 = _ := by simpa using e0_3
  obtain ⟨c1_0, c1_1, c1_2, c1_3, y1_0, y1_1, y1_2, y1_3, m1, rfl, _, _, g1_0, g1_1, g1_2, g1_3⟩ := open_agg4 Try.underlying24 (by kernel_rfl) (by kernel_rfl) (hval 1 24 v1 rfl rfl) h1
  obtain ⟨a1_0, e1_0, -⟩ := DataW.trod_bool Try.underlying4 g1_0
  obtain rfl : c1_0 = _ := by simpa using e1_0
  obtain ⟨a1_1, e1_1, -, w1_1⟩ := DataW.trod_int Try.underlying22 g1_1
  obtain rfl : c1_1 = _ := by simpa using e1_1
  obtain ⟨a1_2, e1_2, -⟩ := DataW.trod_bool Try.underlying4 g1_2
  obtain rfl : c1_2 = _ := by simpa using e1_2
  obtain ⟨a1_3, e1_3, -, w1_3⟩ := DataW.trod_string Try.underlying9 g1_3
  obtain rfl : c1_3 = _ := by simpa using e1_3
  obtain ⟨a2, rfl, rfl, rfl, w2⟩ := open_int Try.underlying5 (hval 2 5 v2 rfl rfl) h2
  clear hA0 hval0 hsz0
  refine (WireL.turned_walk a0_0 a0_1 a0_2 a0_3 a1_0 a1_1 a1_2 a1_3 a2 W w0_1 w0_3 w1_1 w1_3 w2).mono fun e W' ⟨he, bel⟩ => ?_
  subst he
  exact ⟨_, rfl, _, _, _, [], _, [], hW', trodAll_mk1 (shut_bool Try.underlying4 _), (trodAll_cons_mk (Below.trod laidOut (by kernel_rfl) (of_decide_eq_true (by kernel_rfl)) k0 bel lt0) (trodAll_cons_mk (Below.trod laidOut (by kernel_rfl) (of_decide_eq_true (by kernel_rfl)) k1 bel lt1) (trodAll_cons_mk (Below.trod laidOut (by kernel_rfl) (of_decide_eq_true (by kernel_rfl)) k2 bel lt2) trodAll_mk0))), rfl, bel.frame _, fun h => by cases h⟩
theorem over : Rows.wireTurnedRow.holds Try.pinned (OpenSpec.ofChange Rows.wireTurnedSpec) :=
  OpenClaim.holds_of_wide 6 Try.f6 rfl rfl rfl rfl rfl rfl rfl ⟨rfl, rfl, rfl, rfl, rfl⟩ rfl rfl rfl rfl rfl (by kernel_rfl) Try.func6 (by kernel_rfl)
    (of_decide_eq_true (by kernel_rfl)) (by unfold Func.isWrapper; first | (rw [if_pos (by decide +kernel)]; kernel_rfl) | (rw [if_neg (by decide +kernel)]; exact ⟨rfl, rfl⟩))
    (fun os started H enc _ => lifted os started H enc)
theorem proved : Rows.WireTurnedSaid := over
end Go.Proofs.Ytpkpnaedacefaaa.wireTurned
namespace Go.Proofs.Ytpkpnaedacefaaa
theorem wireTurned_holds : Rows.WireTurnedSaid := wireTurned.proved
#print axioms wireTurned_holds
end Go.Proofs.Ytpkpnaedacefaaa
