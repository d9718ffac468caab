/- Events that are appended. -/
import Derived.Test.YtgmjofcbdimjgaaMacG
namespace Go.Proofs.Ytgmjofcbdimjgaa.MacW
set_option linter.unusedVariables false
set_option linter.unusedSimpArgs false
open Go Go.RowKit Go.Proofs.Ytgmjofcbdimjgaa.Lib Go.Proofs.Ytgmjofcbdimjgaa.Bits Go.Proofs.Ytgmjofcbdimjgaa.BitsW Go.Proofs.Ytgmjofcbdimjgaa.StuffW Go.Proofs.Ytgmjofcbdimjgaa.Frame Go.Proofs.Ytgmjofcbdimjgaa.FrameW Go.Proofs.Ytgmjofcbdimjgaa.Code Go.Proofs.Ytgmjofcbdimjgaa.CodeW Go.Proofs.Ytgmjofcbdimjgaa.Mac Go.Proofs.Ytgmjofcbdimjgaa.PrintMore
/-- A number as two. -/
def dec2 : Nat → Nat × Nat
  | 0 => (0, 0)
  | n + 1 => match dec2 n with
    | (a, 0) => (0, a + 1)
    | (a, b + 1) => (a + 1, b)
theorem dec2_onto (s : Nat) : ∀ a b, a + b = s → ∃ n, dec2 n = (a, b) := by
  induction s with
  | zero =>
    intro a b h
    obtain ⟨rfl, rfl⟩ : a = 0 ∧ b = 0 := by omega
    exact ⟨0, rfl⟩
  | succ s ih =>
    intro a
    induction a with
    | zero =>
      intro b h
      obtain ⟨n, hn⟩ := ih s 0 (by omega)
      refine ⟨n + 1, ?_⟩
      have : b = s + 1 := by omega
      subst this
      simp only [dec2, hn]
    | succ a iha =>
      intro b h
      obtain ⟨n, hn⟩ := iha (b + 1) (by omega)
      exact ⟨n + 1, by simp only [dec2, hn]⟩
/-- A slice of a block's head, by one number. -/
def decV (n : Nat) : Nat → Value
  | 0 => .slice none 0 0
  | k + 1 => .slice (some ⟨(dec2 k).1, 0, none⟩) n (dec2 k).2
theorem decV_onto {W : World} {base n : Nat} {e : TypeId} {size : Nat} {v : Value} {xs : List Value} (h : W.ownsRow base e size v n xs) : ∃ k, v = decV n k := by
  rcases h.2 with ⟨h1, _⟩ | ⟨g, cap, cur, h1, _⟩
  · exact ⟨0, h1⟩
  · obtain ⟨k, hk⟩ := dec2_onto (g + cap) g cap rfl
    exact ⟨k + 1, by simp only [decV, hk]; exact h1⟩
section
variable {P : Program} {ops : Array Oper} {S : (Nat → Bool) → (Nat → Nat) → World → Prop} {Fin : ((Nat → Nat) → Act) → Prop} {i : Nat} {o : Oper} {rest : List Oper} {a : (Nat → Nat) → Act}
/-- A call whose value hangs on one number that it finds. -/
theorem t_callN {f : FuncId} {args : Array Value} (v : Nat → Value) (hw : ∀ g, Region.wanted o (yielded ops (a g).tmps) = true)
    (he : ∀ b g w, S b g w → (∀ j ∈ needsOf o, b j = true) → (execOp (a g).eval o).run P w = .ok (.enter f args) w)
    (hc : ∀ b g w, S b g w → b i = false → (∀ j p, ops[j]? = some p → i ∈ needsOf p → b j = false) → Calls P f args w fun e w' => ∃ n, e = .returned (v n) ∧ S (up b i) (upd g i n) w')
    (hr : TextRun P ops S Fin (i + 1) rest (fun g => (a g).put o.dst (v (g i)))) : TextRun P ops S Fin i (o :: rest) a :=
  ⟨fun g => v (g i), fun g g' hg => by simp only; rw [hg i (.inl rfl)], fun b g w hs hb hj hf => .inl ⟨hw g, by
    unfold Oper.wp
    rw [he b g w hs hj]
    refine Calls.mono (hc b g w hs hb hf) (fun e w' h => ?_)
    obtain ⟨n, rfl, h2⟩ := h
    exact ⟨n, by simp [upd], h2⟩⟩, hr⟩
/-- An operation whose value hangs on one number that it finds. -/
theorem t_runN (v : Nat → Value) (hw : ∀ g, Region.wanted o (yielded ops (a g).tmps) = true)
    (h : ∀ b g w, S b g w → b i = false → (∀ j ∈ needsOf o, b j = true) → ∃ n w', (execOp (a g).eval o).run P w = .ok (.value (v n)) w' ∧ S (up b i) (upd g i n) w')
    (hr : TextRun P ops S Fin (i + 1) rest (fun g => (a g).put o.dst (v (g i)))) : TextRun P ops S Fin i (o :: rest) a :=
  ⟨fun g => v (g i), fun g g' hg => by simp only; rw [hg i (.inl rfl)], fun b g w hs hb hj hf => .inl ⟨hw g, by
    obtain ⟨n, w', h1, h2⟩ := h b g w hs hb hj
    unfold Oper.wp
    rw [h1]
    exact ⟨n, by simp [upd], h2⟩⟩, hr⟩
end
theorem info_ev : (Try.prog.info? 34).map (fun i => (i.zero.map (fun z => z.cells.size), i.size, i.bytes)) = some (some 6, 6, 48) := by kernel_rfl
theorem one_ec (L : List Ev) : ∀ u ∈ L.flatMap ec, u.oneCell' = true := by
  intro u hu
  obtain ⟨x, _, hx⟩ := List.mem_flatMap.1 hu
  simp only [ec, List.mem_cons, List.not_mem_nil, or_false] at hx
  rcases hx with h | h | h | h | h | h <;> subst h <;> rfl
theorem run_app_evs {W : World} {base p : Nat} {x : Ev} {v2 : Value} {L2 : List Ev} (h1 : Evs W base (.slice (some ⟨p, 0, none⟩) 1 1) [x]) (h2 : Evs W base v2 L2) (hb : base ≤ W.heap.size) (hl : L2.length ≤ 10) :
    ∃ v' w', (Builtin.append_ #[29, 29] 29 #[.slice (some ⟨p, 0, none⟩) 1 1, v2]).run Try.prog W = .ok v' w' ∧ Evs w' base v' (x :: L2) ∧ W.grownBy w' (some p) := by
  obtain ⟨i, hi, hz, hs, hby⟩ : ∃ i, Try.prog.info? 34 = some i ∧ i.zero.map (fun z => z.cells.size) = some 6 ∧ i.size = 6 ∧ i.bytes = 48 := by
    have := info_ev
    cases hq : Try.prog.info? 34 with
    | none => rw [hq] at this; cases this
    | some i =>
      rw [hq] at this
      simp only [Option.map_some, Option.some.injEq, Prod.mk.injEq] at this
      exact ⟨i, rfl, this.1, this.2.1, this.2.2⟩
  obtain ⟨z, hz0, hz1⟩ : ∃ z, i.zero = some z ∧ z.cells.size = 6 := by
    cases hq : i.zero with
    | none => rw [hq] at hz; cases hz
    | some z => rw [hq] at hz; simp only [Option.map_some, Option.some.injEq] at hz; exact ⟨z, rfl, hz⟩
  have e1 : (x :: L2).length = 1 + L2.length := by rw [List.length_cons]; omega
  rcases h2.2 with ⟨rfl, h0⟩ | ⟨g, cap, cur, rfl, h3, h4, h5, h6, h7, h8⟩
  · have : L2 = [] := List.eq_nil_of_length_eq_zero h0
    subst this
    refine ⟨_, W, ?_, h1, grown_refl W _⟩
    simp [Builtin.append_, run_underlying Try.underlying29, sizeOf, typeInfo, hi, Builtin.lenOf, Builtin.firstCells, storeCells]
  · obtain ⟨v', w', r1, r2, r3, r4⟩ := run_append_own_at (P := Try.prog) W base 29 29 34 i z 6 48 Try.underlying29 hi hz0 hs hby hz1 (by decide) _ 1 _ h1 ⟨g, 0, none⟩ L2.length cap (L2.flatMap ec) h2.1
      (h2.cells (g := g) rfl) (one_ec L2) (by unfold maxLen; omega) (by omega) hb
    refine ⟨v', w', r1, ?_, r3⟩
    unfold Evs
    rw [e1]
    exact r2
end Go.Proofs.Ytgmjofcbdimjgaa.MacW
