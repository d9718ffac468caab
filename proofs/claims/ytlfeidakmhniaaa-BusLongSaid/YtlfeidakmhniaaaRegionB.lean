/- Steps for the law on regions whose order is open. -/
import Derived.Test.YtlfeidakmhniaaaRegion
namespace Go.Proofs.Ytlfeidakmhniaaa.Lib
set_option linter.unusedVariables false
set_option linter.unusedSimpArgs false
open Go
section
variable {P : Program} {ops : Array Oper} {S : (Nat → Bool) → (Nat → Nat) → World → Prop} {Fin : ((Nat → Nat) → Act) → Prop} {i : Nat} {o : Oper} {rest : List Oper} {a : (Nat → Nat) → Act}

theorem upd_same (g : Nat → Nat) (i : Nat) : upd g i (g i) = g := by funext j; unfold upd; split <;> simp_all
theorem up_of_ne {b : Nat → Bool} {i j : Nat} (h : j ≠ i) : up b i j = b j := by simp [up, h]
theorem up_at (b : Nat → Bool) (i : Nat) : up b i i = true := by simp [up]

/-- An operation that yields one value and leaves the world as it is; S doesn't ask whether it has come up. -/
theorem t_pure (v : Value) (hw : ∀ g, Region.wanted o (yielded ops (a g).tmps) = true) (hS : ∀ b g w, S b g w → S (up b i) g w)
    (h : ∀ b g w, S b g w → (∀ j ∈ needsOf o, b j = true) → (execOp (a g).eval o).run P w = .ok (.value v) w)
    (hr : TextRun P ops S Fin (i + 1) rest (fun g => (a g).put o.dst v)) : TextRun P ops S Fin i (o :: rest) a :=
  ⟨fun _ => v, hangs_const, fun b g w hs hb hj _ => .inl ⟨hw g, by
    unfold Oper.wp
    rw [h b g w hs hj]
    exact ⟨g i, rfl, by rw [upd_same]; exact hS b g w hs⟩⟩, hr⟩
/-- An operation whose value hangs on addresses of the region's own. -/
theorem t_addr (v : (Nat → Nat) → Value) (hv : Hangs ops i v) (hn : ∀ g n, v (upd g i n) = v g) (hw : ∀ g, Region.wanted o (yielded ops (a g).tmps) = true) (hS : ∀ b g w, S b g w → S (up b i) g w)
    (h : ∀ b g w, S b g w → (∀ j ∈ needsOf o, b j = true) → (execOp (a g).eval o).run P w = .ok (.value (v g)) w)
    (hr : TextRun P ops S Fin (i + 1) rest (fun g => (a g).put o.dst (v g))) : TextRun P ops S Fin i (o :: rest) a :=
  ⟨v, hv, fun b g w hs hb hj _ => .inl ⟨hw g, by
    unfold Oper.wp
    rw [h b g w hs hj]
    exact ⟨g i, by rw [upd_same], by rw [upd_same]; exact hS b g w hs⟩⟩, hr⟩
/-- An operation that yields one value and changes the world. -/
theorem t_run (v : Value) (hw : ∀ g, Region.wanted o (yielded ops (a g).tmps) = true)
    (h : ∀ b g w, S b g w → b i = false → (∀ j ∈ needsOf o, b j = true) → (∀ j p, ops[j]? = some p → i ∈ needsOf p → b j = false) → ∃ w', (execOp (a g).eval o).run P w = .ok (.value v) w' ∧ S (up b i) g w')
    (hr : TextRun P ops S Fin (i + 1) rest (fun g => (a g).put o.dst v)) : TextRun P ops S Fin i (o :: rest) a :=
  ⟨fun _ => v, hangs_const, fun b g w hs hb hj hf => .inl ⟨hw g, by
    obtain ⟨w', h1, h2⟩ := h b g w hs hb hj hf
    unfold Oper.wp
    rw [h1]
    exact ⟨g i, rfl, by rw [upd_same]; exact h2⟩⟩, hr⟩
/-- A store. -/
theorem t_store (hw : ∀ g, Region.wanted o (yielded ops (a g).tmps) = true)
    (h : ∀ b g w, S b g w → b i = false → (∀ j ∈ needsOf o, b j = true) → (∀ j p, ops[j]? = some p → i ∈ needsOf p → b j = false) → ∃ w', (execOp (a g).eval o).run P w = .ok .skip w' ∧ S (up b i) g w')
    (hr : TextRun P ops S Fin (i + 1) rest (fun g => (a g).put o.dst undef)) : TextRun P ops S Fin i (o :: rest) a :=
  ⟨fun _ => undef, hangs_const, fun b g w hs hb hj hf => .inl ⟨hw g, by
    obtain ⟨w', h1, h2⟩ := h b g w hs hb hj hf
    unfold Oper.wp
    rw [h1]
    exact ⟨g i, rfl, by rw [upd_same]; exact h2⟩⟩, hr⟩
/-- New memory. -/
theorem t_alloc (hw : ∀ g, Region.wanted o (yielded ops (a g).tmps) = true)
    (h : ∀ b g w, S b g w → b i = false → ∃ w', (execOp (a g).eval o).run P w = .ok (.value (.pointer (some ⟨w.heap.size, 0, none⟩))) w' ∧ S (up b i) (upd g i w.heap.size) w')
    (hr : TextRun P ops S Fin (i + 1) rest (fun g => (a g).put o.dst (.pointer (some ⟨g i, 0, none⟩)))) : TextRun P ops S Fin i (o :: rest) a :=
  ⟨fun g => .pointer (some ⟨g i, 0, none⟩), fun g g' hg => by simp only; rw [hg i (.inl rfl)], fun b g w hs hb hj hf => .inl ⟨hw g, by
    obtain ⟨w', h1, h2⟩ := h b g w hs hb
    unfold Oper.wp
    rw [h1]
    exact ⟨w.heap.size, by simp [upd], h2⟩⟩, hr⟩
/-- A call that returns one value. -/
theorem t_call {f : FuncId} {args : Array Value} (v : Value) (hw : ∀ g, Region.wanted o (yielded ops (a g).tmps) = true)
    (he : ∀ b g w, S b g w → (∀ j ∈ needsOf o, b j = true) → (execOp (a g).eval o).run P w = .ok (.enter f args) w)
    (hc : ∀ b g w, S b g w → b i = false → Calls P f args w fun e w' => e = .returned v ∧ S (up b i) g w')
    (hr : TextRun P ops S Fin (i + 1) rest (fun g => (a g).put o.dst v)) : TextRun P ops S Fin i (o :: rest) a :=
  ⟨fun _ => v, hangs_const, fun b g w hs hb hj hf => .inl ⟨hw g, by
    unfold Oper.wp
    rw [he b g w hs hj]
    refine Calls.mono (hc b g w hs hb) (fun e w' h => ?_)
    obtain ⟨rfl, h2⟩ := h
    exact ⟨g i, rfl, by rw [upd_same]; exact h2⟩⟩, hr⟩
/-- An operation whose guard does not want it. -/
theorem t_skip (hw : ∀ g, Region.wanted o (yielded ops (a g).tmps) = false) (hS : ∀ b g w, S b g w → S (up b i) g w)
    (hr : TextRun P ops S Fin (i + 1) rest (fun g => (a g).put o.dst undef)) : TextRun P ops S Fin i (o :: rest) a :=
  ⟨fun _ => undef, hangs_const, fun b g w hs _ _ _ => .inr ⟨hw g, rfl, hS b g w hs⟩, hr⟩
theorem t_end (h : Fin a) : TextRun P ops S Fin i [] a := h
end
end Go.Proofs.Ytlfeidakmhniaaa.Lib
