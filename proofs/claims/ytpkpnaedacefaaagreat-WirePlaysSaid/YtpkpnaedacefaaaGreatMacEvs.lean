/- Events laid together; what is kept beside them. -/
import Derived.Test.YtpkpnaedacefaaaGreatMacIdle
namespace Go.Proofs.YtpkpnaedacefaaaGreat.MacW
set_option linter.unusedVariables false
set_option linter.unusedSimpArgs false
open Go Go.RowKit Go.Proofs.YtpkpnaedacefaaaGreat.Lib Go.Proofs.YtpkpnaedacefaaaGreat.Bits Go.Proofs.YtpkpnaedacefaaaGreat.BitsW Go.Proofs.YtpkpnaedacefaaaGreat.StuffW Go.Proofs.YtpkpnaedacefaaaGreat.Frame Go.Proofs.YtpkpnaedacefaaaGreat.FrameW Go.Proofs.YtpkpnaedacefaaaGreat.Code Go.Proofs.YtpkpnaedacefaaaGreat.CodeW Go.Proofs.YtpkpnaedacefaaaGreat.Mac Go.Proofs.YtpkpnaedacefaaaGreat.PrintMore
theorem run_app2 {W : World} {base b2 : Nat} {v1 v2 : Value} {L1 L2 : List Ev} (h1 : Evs W base v1 L1) (h2 : Evs W b2 v2 L2) (hb : base ≤ W.heap.size) (hl1 : L1.length ≤ 100000) (hl2 : L2.length ≤ 100000) :
    ∃ v' w', (Builtin.append_ #[43, 43] 43 #[v1, v2]).run Tryz.prog W = .ok v' w' ∧ Evs w' base v' (L1 ++ L2) ∧ W.grownBy w' v1.ownBlock ∧ (v'.ownBlock = v1.ownBlock ∨ v'.ownBlock = some W.heap.size) := by
  obtain ⟨i, hi, hz, hs, hby⟩ : ∃ i, Tryz.prog.info? 60 = some i ∧ i.zero.map (fun z => z.cells.size) = some 6 ∧ i.size = 6 ∧ i.bytes = 48 := by
    have := info_ev
    cases hq : Tryz.prog.info? 60 with
    | none => rw [hq] at this; cases this
    | some i =>
      rw [hq] at this
      simp only [Option.map_some, Option.some.injEq, Prod.mk.injEq] at this
      exact ⟨i, rfl, this.1, this.2.1, this.2.2⟩
  obtain ⟨z, hz0, hz1⟩ : ∃ z, i.zero = some z ∧ z.cells.size = 6 := by
    cases hq : i.zero with
    | none => rw [hq] at hz; cases hz
    | some z => rw [hq] at hz; simp only [Option.map_some, Option.some.injEq] at hz; exact ⟨z, rfl, hz⟩
  rcases h2.2 with ⟨rfl, h0⟩ | ⟨g, cap, cur, rfl, h3, h4, h5, h6, h7, h8⟩
  · have : L2 = [] := List.eq_nil_of_length_eq_zero h0
    subst this
    rw [List.append_nil]
    refine ⟨v1, W, ?_, h1, grown_refl W _, .inl rfl⟩
    rcases h1.2 with ⟨rfl, _⟩ | ⟨g, cap, cur, rfl, _, _, _⟩
    · simp [Builtin.append_, run_underlying Tryz.underlying43, sizeOf, typeInfo, hi, Builtin.lenOf, Builtin.firstCells, storeCells]
    · simp [Builtin.append_, run_underlying Tryz.underlying43, sizeOf, typeInfo, hi, Builtin.lenOf, Builtin.firstCells, storeCells, *]
  · obtain ⟨v', w', r1, r2, r3, _, r4⟩ := run_append_own_at (P := Tryz.prog) W base 43 43 60 i z 6 48 Tryz.underlying43 hi hz0 hs hby hz1 (by decide) v1 L1.length _ h1 ⟨g, 0, none⟩ L2.length cap (L2.flatMap ec) h2.1
      (h2.cells (g := g) rfl) (one_ec L2) (by unfold maxLen; omega) (by omega) hb
    refine ⟨v', w', r1, ?_, r3, r4⟩
    unfold Evs
    rw [List.length_append, List.flatMap_append]
    exact r2
/-- 'append(xs, ys...)' of events, its run being known. -/
theorem app_evs {W w' : World} {ops : Array Oper} {rest : List Oper} {o : Oper} {a : Act} {Q : Exit → Act → World → Prop} {v1 v2 v' : Value} (hgd : o.guard = none) (sl x : Operand)
    (ho : o.op = .call { callee := .builtin .append, args := #[sl, x], argTypes := #[43, 43] }) (hty : o.type = 43) (hs : a.eval sl = v1) (hx : a.eval x = v2)
    (r : (Builtin.append_ #[43, 43] 43 #[v1, v2]).run Tryz.prog W = .ok v' w') (h : wpList Tryz.prog ops Q rest (a.put o.dst v') w') : wpList Tryz.prog ops Q (o :: rest) a W := by
  obtain ⟨dst, op, ty, pos, after, guard⟩ := o
  simp only at hgd ho hty
  subst hgd ho hty hs hx
  refine wpList_plain rfl fun K hK => ?_
  have hr : (execOp a.eval ⟨dst, .call { callee := .builtin .append, args := #[sl, x], argTypes := #[43, 43] }, 43, pos, after, none⟩).run Tryz.prog W = .ok (.value v') w' := by
    unfold execOp
    simp only [resolve, invoke, builtin, Sem.run_bind, Sem.run_pure, Result.andThen_ok, List.map_toArray, List.map_cons, List.map_nil]
    erw [r]
    rfl
  unfold Oper.wp
  simp only [hr]
  exact hK _ _ h
theorem evs_mono {W : World} {b b' : Nat} {v : Value} {L : List Ev} (h : Evs W b v L) (hb : b' ≤ b) : Evs W b' v L := ⟨h.1, h.2.imp id (fun ⟨g, cap, cur, e, h3, r⟩ => ⟨g, cap, cur, e, Nat.le_trans hb h3, r⟩)⟩
theorem evs_from {W : World} {b : Nat} {v : Value} {L : List Ev} (h : Evs W b v L) : v.ownBlock = none ∨ ∃ g, v.ownBlock = some g ∧ b ≤ g ∧ g < W.heap.size := by
  rcases h.2 with ⟨rfl, _⟩ | ⟨g, cap, cur, rfl, h3, h4, _⟩
  · exact .inl rfl
  · exact .inr ⟨g, rfl, h3, (Array.getElem?_eq_some_iff.1 h4).1⟩
theorem evs_kept {W W' : World} {b : Nat} {v : Value} {L : List Ev} {o : Option Nat} (h : Evs W b v L) (k : W.grownBy W' o) (ho : ∀ i, o = some i → v.ownBlock ≠ some i) : Evs W' b v L := by
  refine World.ownsRow.kept h k ?_
  cases hv : v.ownBlock with
  | none => exact .inl rfl
  | some g =>
    right
    cases o with
    | none => simp
    | some i => rw [← hv]; exact ho i rfl
theorem Nd.out {w0 W W' : World} {g : Nat} {m : M} {o : Option Nat} (h : Nd w0 W g m) (k : W.grownBy W' o) (ho : ∀ i, o = some i → w0.heap.size ≤ i ∧ i ≠ g) : Nd w0 W' g m :=
  ⟨h.blk.grown k (by cases o with | none => simp | some i => have := (ho i rfl).2; simpa using fun e => this e.symm), h.below.grown k h.below.size (fun i e => (ho i e).1), h.le⟩
theorem Nf.out {w0 W W' : World} {g : Nat} {m : M} {o : Option Nat} (h : Nf w0 W g m) (k : W.grownBy W' o) (ho : ∀ i, o = some i → w0.heap.size ≤ i ∧ i ≠ g) : Nf w0 W' g m := ⟨h.nd.out k ho, h.fine⟩
end Go.Proofs.YtpkpnaedacefaaaGreat.MacW
namespace Go.Proofs.YtpkpnaedacefaaaGreat.MacL
set_option linter.unusedVariables false
set_option linter.unusedSimpArgs false
open Go Go.RowKit Go.Proofs.YtpkpnaedacefaaaGreat.Lib Go.Proofs.YtpkpnaedacefaaaGreat.Mac Go.Proofs.YtpkpnaedacefaaaGreat.MacW
theorem EL.kept {W W' : World} {q : Nat} {L : List Ev} {o : Option Nat} (h : EL W q L) (k : W.grownBy W' o) (ho : ∀ i, o = some i → i ≠ q) : EL W' q L := by
  obtain ⟨b, cap, h⟩ := h.out
  exact ⟨b, cap, evs_kept h k (fun i e e2 => ho i e (by simp only [Value.ownBlock, Option.some.injEq] at e2; exact e2.symm))⟩
end Go.Proofs.YtpkpnaedacefaaaGreat.MacL
