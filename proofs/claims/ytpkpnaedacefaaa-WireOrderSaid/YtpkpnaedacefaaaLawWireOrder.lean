/- WireOrder (layer 8): of frames asked for at once all go, the one that wins first; each comes to all others. Conditions: none beyond the types of the arguments; rows of none or more than four, what is no frame, two frames alike in what they win by are let pass. -/
import Derived.Test.YtpkpnaedacefaaaWireKnown
import Derived.Test.YtpkpnaedacefaaaWireArgs
import Derived.Test.YtpkpnaedacefaaaWireSm
import Derived.Test.YtpkpnaedacefaaaWireRace
namespace Go.Proofs.Ytpkpnaedacefaaa.WireL
set_option linter.unusedVariables false
set_option linter.unusedSimpArgs false
open Go Go.RowKit Go.Proofs.Ytpkpnaedacefaaa.Lib Go.Proofs.Ytpkpnaedacefaaa.Bits Go.Proofs.Ytpkpnaedacefaaa.BitsW Go.Proofs.Ytpkpnaedacefaaa.StuffW Go.Proofs.Ytpkpnaedacefaaa.Frame Go.Proofs.Ytpkpnaedacefaaa.FrameW Go.Proofs.Ytpkpnaedacefaaa.Code Go.Proofs.Ytpkpnaedacefaaa.CodeW Go.Proofs.Ytpkpnaedacefaaa.Mac Go.Proofs.Ytpkpnaedacefaaa.MacW Go.Proofs.Ytpkpnaedacefaaa.MacL Go.Proofs.Ytpkpnaedacefaaa.RefW Go.Proofs.Ytpkpnaedacefaaa.WireN Go.Proofs.Ytpkpnaedacefaaa.WireW Go.Proofs.Ytpkpnaedacefaaa.WireP Go.Proofs.Ytpkpnaedacefaaa.PrintMore
attribute [local go_sem] max2_int min2_int max_two min_two
attribute [local go_sem high] eqA24
/-- A row of frames of the call's own. -/
def Frow (W : World) (b : Nat) (v : Value) (O : List Fm) : Prop := W.ownsRow b 24 4 v O.length (O.flatMap fc)
theorem info_fr : (Try.prog.info? 24).map (fun i => (i.zero.map (fun z => z.cells.size), i.size, i.bytes)) = some (some 4, 4, 32) := by kernel_rfl
theorem fcs_length (O : List Fm) : (O.flatMap fc).length = O.length * 4 := by
  induction O with
  | nil => rfl
  | cons x O ih => rw [List.flatMap_cons, List.length_append, ih]; show 4 + _ = _; rw [List.length_cons]; omega
theorem one_fc (O : List Fm) : ∀ u ∈ O.flatMap fc, u.oneCell' = true := by
  intro u hu
  obtain ⟨x, _, hx⟩ := List.mem_flatMap.1 hu
  simp only [fc, List.mem_cons, List.not_mem_nil, or_false] at hx
  rcases hx with h | h | h | h <;> subst h <;> rfl
theorem run_app_fr {W : World} {base : Nat} {v : Value} {O : List Fm} (V : Fm) (h : Frow W base v O) (hb : base ≤ W.heap.size) (hl : O.length ≤ 1000) :
    ∃ v' w', (Builtin.append_ #[37, 37] 37 #[v, .slice (some ⟨W.heap.size, 0, none⟩) 1 1]).run Try.prog (W.alloc (.cells (fc V).toArray 24)) = .ok v' w' ∧ Frow w' base v' (O ++ [V]) ∧
      (W.alloc (.cells (fc V).toArray 24)).grownBy w' v.ownBlock ∧ (v'.ownBlock = v.ownBlock ∨ v'.ownBlock = some (W.heap.size + 1)) := by
  obtain ⟨i, hi, hz, hs, hby⟩ : ∃ i, Try.prog.info? 24 = some i ∧ i.zero.map (fun z => z.cells.size) = some 4 ∧ i.size = 4 ∧ i.bytes = 32 := by
    have := info_fr
    cases hq : Try.prog.info? 24 with
    | none => rw [hq] at this; cases this
    | some i =>
      rw [hq] at this
      simp only [Option.map_some, Option.some.injEq, Prod.mk.injEq] at this
      exact ⟨i, rfl, this.1, this.2.1, this.2.2⟩
  obtain ⟨z, hz0, hz1⟩ : ∃ z, i.zero = some z ∧ z.cells.size = 4 := by
    cases hq : i.zero with
    | none => rw [hq] at hz; cases hz
    | some z => rw [hq] at hz; simp only [Option.map_some, Option.some.injEq] at hz; exact ⟨z, rfl, hz⟩
  have hsz : (W.alloc (.cells (fc V).toArray 24)).heap.size = W.heap.size + 1 := by simp
  obtain ⟨v', w', r1, r2, r3, _, r4⟩ := run_append_own_at (P := Try.prog) (W.alloc (.cells (fc V).toArray 24)) base 37 37 24 i z 4 32 Try.underlying37 hi hz0 hs hby hz1 (by decide) v O.length _ (World.ownsRow.alloc h _) ⟨W.heap.size, 0, none⟩ 1 1 (fc V) rfl
    (fun j u hj => by
      have := (Blk.new W (fc V) 24).cell j
      rw [Addr.add_mid, Nat.zero_add, this, hj]) (by have := one_fc [V]; simpa using this) (by unfold maxLen; omega) (by omega) (by omega)
  rw [hsz] at r4
  refine ⟨v', w', r1, ?_, r3, r4⟩
  unfold Frow
  rw [List.length_append, List.flatMap_append]
  simpa using r2
/-- 'append(xs, ys...)' of frames, its run being known. -/
theorem app_frs {W w' : World} {ops : Array Oper} {rest : List Oper} {o : Oper} {a : Act} {Q : Exit → Act → World → Prop} {v1 v2 v' : Value} (hgd : o.guard = none) (sl x : Operand)
    (ho : o.op = .call { callee := .builtin .append, args := #[sl, x], argTypes := #[37, 37] }) (hty : o.type = 37) (hs : a.eval sl = v1) (hx : a.eval x = v2)
    (r : (Builtin.append_ #[37, 37] 37 #[v1, v2]).run Try.prog W = .ok v' w') (h : wpList Try.prog ops Q rest (a.put o.dst v') w') : wpList Try.prog ops Q (o :: rest) a W := by
  obtain ⟨dst, op, ty, pos, after, guard⟩ := o
  simp only at hgd ho hty
  subst hgd ho hty hs hx
  refine wpList_plain rfl fun K hK => ?_
  have hr : (execOp a.eval ⟨dst, .call { callee := .builtin .append, args := #[sl, x], argTypes := #[37, 37] }, 37, pos, after, none⟩).run Try.prog W = .ok (.value v') w' := by
    unfold execOp
    simp only [resolve, invoke, builtin, Sem.run_bind, Sem.run_pure, Result.andThen_ok, List.map_toArray, List.map_cons, List.map_nil]
    erw [r]
    rfl
  unfold Oper.wp
  simp only [hr]
  exact hK _ _ h
/-- The wire, which frames wait, which went. -/
structure WO (w W : World) (B g g8 : Nat) (wt : Nat → Bool) (ov : Value) (O : List Fm) (c : Gc) : Prop where
  out : ∃ F, Wi w W B g F c ∧ ¬ F g8 ∧ ∀ k, ov.ownBlock = some k → ¬ F k
  arr : Blk W g8 47 [.bool (wt 0), .bool (wt 1), .bool (wt 2), .bool (wt 3)]
  ord : Frow W w.heap.size ov O
  ge : w.heap.size ≤ g8
variable {w W W' : World} {B g g8 : Nat} {wt : Nat → Bool} {ov ov' : Value} {O O' : List Fm} {c : Gc}
theorem WO.below (h : WO w W B g g8 wt ov O c) : Below w.heap.size w W := by obtain ⟨F, h1, _⟩ := h.out; exact h1.below
theorem WO.later (h : WO w W B g g8 wt ov O c) (k : Below W.heap.size W W') : WO w W' B g g8 wt ov O c := by
  obtain ⟨F, h1, h2, h3⟩ := h.out
  refine ⟨⟨_, h1.later k, fun e => e.elim h2 (fun q => by have := h.arr.lt; omega), fun i hi e => e.elim (h3 i hi) (fun q => by have := (owns_lt h.ord hi).2; omega)⟩, h.arr.below k, owns_kp (F := fun _ => False) h.ord (Kp.of_below k _) (fun _ _ e => e), h.ge⟩
theorem WO.drew (h : WO w W B g g8 wt ov O c) : WO w W.drew B g g8 wt ov O c := h.later (Below.refl _ W).drew
theorem WO.next {F F' : Nat → Prop} {c' : Gc} (h : WO w W B g g8 wt ov O c) (h2 : ¬ F g8) (h3 : ∀ k, ov.ownBlock = some k → ¬ F k) (h' : Wi w W' B g F' c') (k : Kp F W W') (hF : ∀ q, F' q → F q ∨ W.heap.size ≤ q) : WO w W' B g g8 wt ov O c' :=
  ⟨⟨F', h', fun e => (hF _ e).elim h2 (fun q => by have := h.arr.lt; omega), fun i hi e => (hF _ e).elim (h3 i hi) (fun q => by have := (owns_lt h.ord hi).2; omega)⟩, blk_kp h.arr k h2, owns_kp h.ord k h3, h.ge⟩
theorem wo_mac (h : WO w W B g g8 wt ov O c) (j : Nat) (hj : j < c.n) : Calls Try.prog 15 #[.pointer (some ⟨g, 0, none⟩), .int .i64 j] W fun e w' => ∃ q, e = .returned (.pointer (some ⟨q, 0, none⟩)) ∧ Nf w W q (c.ms j) ∧ w' = W := by
  obtain ⟨F, h1, _⟩ := h.out
  exact wi_mac h1 j hj
theorem wo_ask (h : WO w W B g g8 wt ov O c) (j : Nat) (hj : j < c.n) (f : Fm) (hf : f.wf) : Calls Try.prog 11 #[.pointer (some ⟨g, 0, none⟩), .int .i64 j, fv f] W fun e w' =>
    e = .returned (.int .i64 ((c.ms j).ask f).2) ∧ WO w w' B g g8 wt ov O (c.ask j f) := by
  obtain ⟨F, h1, h2, h3⟩ := h.out
  exact (wi_ask h1 j hj f hf).mono fun e w' ⟨F', k1, k2, k3, k4⟩ => ⟨k1, h.next h2 h3 k2 k3 k4⟩
theorem wo_step (h : WO w W B g g8 wt ov O c) (flip : Bool) (hn : c.bn ≤ 1000000) : Calls Try.prog 12 #[.pointer (some ⟨g, 0, none⟩), .bool flip] W fun e w' =>
    ∃ v, e = .returned v ∧ WO w w' B g g8 wt ov O (c.step flip) ∧ Evs w' W.heap.size v (c.evs flip) := by
  obtain ⟨F, h1, h2, h3⟩ := h.out
  exact (wi_step h1 flip hn).mono fun e w' ⟨v, F', k1, k2, k3, k4, k5, _⟩ => ⟨v, k1, h.next h2 h3 k2 k4 k5, k3⟩
/-- A frame no longer waits, or does. -/
theorem WO.setw (h : WO w W B g g8 wt ov O c) (i : Nat) (hi : i < 4) (x : Bool) : WO w (W.setCell ⟨g8, i, none⟩ (.bool x)) B g g8 (WireW.upd wt i x) ov O c := by
  obtain ⟨F, h1, h2, h3⟩ := h.out
  have kk : Kp (fun q => q = g8) W (W.setCell ⟨g8, i, none⟩ (.bool x)) := (Kp.refl _ _).set _ _ (.inl rfl)
  have ha := h.arr.set i (.bool x)
  have hne : ov.ownBlock ≠ some g8 := owns_ne h.ord h.arr (by decide)
  refine ⟨⟨_, h1.kp kk (fun q hq e => h2 (e ▸ hq)) (fun q e => e ▸ h.ge) (fun q e u => blk_not8 ha (by decide) (e ▸ u)), fun e => e.elim h2 (fun q => by have := h.arr.lt; omega), fun k hk e => e.elim (h3 k hk) (fun q => by have := (owns_lt h.ord hk).2; omega)⟩, ?_, owns_kp h.ord kk (fun k hk e => hne (e ▸ hk)), h.ge⟩
  match i, hi with
  | 0, _ => exact ha
  | 1, _ => exact ha
  | 2, _ => exact ha
  | 3, _ => exact ha
theorem wi_kpo {F G : Nat → Prop} (h : Wi w W B g F c) (k : Kp G W W') (hn : ∀ i, F i → ¬ G i) (hG : ∀ i, G i → w.heap.size ≤ i) : Wi w W' B g (fun q => (F q ∧ q < W.heap.size) ∨ U8 W' q) c := by
  obtain ⟨a, h1, h2, h3⟩ := h.ex
  refine ⟨⟨a, h1.kp k (fun i hi => hn i (h3 i hi)) hG, h2, fun q hq => ?_⟩, h.short⟩
  have lo : a.foot B c.n W q → (F q ∧ q < W.heap.size) ∨ U8 W' q := fun e => .inl ⟨h3 q e, (h1.foot_le e).2⟩
  rcases hq with hq | hq | hq | hq | hq | ⟨_, hu⟩
  · exact lo (.inl hq)
  · exact lo (.inr (.inl hq))
  · exact lo (.inr (.inr (.inl hq)))
  · exact lo (.inr (.inr (.inr (.inl hq))))
  · exact lo (.inr (.inr (.inr (.inr (.inl hq)))))
  · exact .inr hu
/-- A frame went. -/
theorem WO.app (h : WO w W B g g8 wt ov O c) (V : Fm) (h1 : Frow W' w.heap.size ov' (O ++ [V])) (k : (W.alloc (.cells (fc V).toArray 24)).grownBy W' ov.ownBlock) (h2 : ov'.ownBlock = ov.ownBlock ∨ ov'.ownBlock = some (W.heap.size + 1)) : WO w W' B g g8 wt ov' (O ++ [V]) c := by
  obtain ⟨F, q1, q2, q3⟩ := h.out
  have kk : Kp (fun q => ov.ownBlock = some q) W W' := ((Kp.refl (fun q => ov.ownBlock = some q) W).alloc _).trans (Kp.of_grown k) (fun i e => .inl e)
  have hne : ov.ownBlock ≠ some g8 := owns_ne h.ord h.arr (by decide)
  have ha := blk_kp h.arr kk hne
  refine ⟨⟨_, wi_kpo q1 kk (fun i hi e => q3 i e hi) (fun i e => (owns_lt h.ord e).1), fun e => ?_, fun i hi e => ?_⟩, ha, h1, h.ge⟩
  · rcases e with ⟨e, _⟩ | e
    · exact q2 e
    · exact blk_not8 ha (by decide) e
  · rcases e with ⟨e, hl⟩ | e
    · rcases h2 with h2 | h2
      · exact q3 i (h2 ▸ hi) e
      · rw [h2] at hi; injection hi with hi; omega
    · exact owns_not8 h1 (by decide) hi e
theorem WO.make {W : World} {F : Nat → Prop} {c : Gc} (h : Wi w W B g F c) (hF : ∀ k, F k → k < W.heap.size) : WO w (W.alloc (.cells #[.bool false, .bool false, .bool false, .bool false] 47)) B g W.heap.size (fun _ => false) (.slice none 0 0) [] c := by
  have hb := Blk.new W [.bool false, .bool false, .bool false, .bool false] 47
  refine ⟨⟨_, wi_kpo (G := fun _ => False) h ((Kp.refl _ _).alloc _) (fun _ _ e => e) (fun _ e => e.elim), fun e => ?_, fun k hk => by simp [Value.ownBlock] at hk⟩, hb, World.ownsRow_nil _ _ _ 4, h.below.size⟩
  rcases e with ⟨_, e⟩ | e
  · omega
  · exact blk_not8 hb (by decide) e
def firstN (i : Nat) : Nat → Bool := fun j => decide (j < i)
theorem firstN_upd (i : Nat) : WireW.upd (firstN i) i true = firstN (i + 1) := by
  funext j
  unfold WireW.upd firstN
  by_cases h : j = i
  · rw [if_pos h, h]; simp
  · rw [if_neg h]; congr 1; apply propext; omega
theorem cnt_first (n : Nat) : cntW (firstN n) n = n := by
  have key : ∀ m, m ≤ n → cntW (firstN n) m = m := by
    intro m
    induction m with
    | zero => intro _; rfl
    | succ m ih =>
      intro h
      unfold cntW
      rw [ih (by omega), if_pos (by unfold firstN; simp; omega)]
  exact key n (Nat.le_refl _)
theorem WO.cell (h : WO w W B g g8 wt ov O c) {i : Nat} (hi : i < 4) : W.cell? ⟨g8, i, none⟩ = some (.bool (wt i)) := by
  have := h.arr.cell i
  match i, hi with
  | 0, _ => exact this
  | 1, _ => exact this
  | 2, _ => exact this
  | 3, _ => exact this
theorem frs_at {w : World} {A : Option Addr} {n : Nat} {S : Nat → Fm} (h : Frs w A n S) (hn : 1 ≤ n) : ∃ b o, A = some ⟨b, o, none⟩ ∧ ∀ j, j < n → Fr1 w b o j (S j) := by
  obtain ⟨b, o, e, _⟩ := h.get 0 (by omega)
  refine ⟨b, o, e, fun j hj => ?_⟩
  obtain ⟨b', o', e', h'⟩ := h.get j hj
  rw [e] at e'
  injection e' with e'
  injection e' with e1 e2
  subst e1 e2
  exact h'
def calmTo (c : Gc) (k : Nat) : Bool := (List.range k).all (calm c)
theorem calmTo_succ (c : Gc) (k : Nat) : calmTo c (k + 1) = (calmTo c k && calm c k) := by
  unfold calmTo
  rw [List.range_succ, List.all_append]
  simp
/-- Whether they ask. -/
theorem calm_cases {n : Nat} {S : Nat → Fm} (hS : Fs n S) {b : Nat} (h : Rc n S wt b c) : ∃ (d : Bool) (q : Nat → M), calmTo c 5 = d ∧ (d = true → b ≤ 3 + 160 * (n - cntW wt n) ∧ ∀ i, i < 5 → c.ms i = q i ∧ WireP.Rest (q i)) ∧ (d = false → ∃ i, i < 5 ∧ calm c i = false) := by
  rcases race_calm hS h with ⟨q, h1, h2, h3⟩ | ⟨i, hi, h1⟩
  · refine ⟨true, q, ?_, fun _ => ⟨h1, h2⟩, fun e => absurd e (by decide)⟩
    unfold calmTo
    rw [List.all_eq_true]
    exact fun i hi => h3 i (List.mem_range.1 hi)
  · refine ⟨false, fun _ => M.new, ?_, fun e => absurd e (by decide), fun _ => ⟨i, hi, h1⟩⟩
    unfold calmTo
    rw [List.all_eq_false]
    exact ⟨i, List.mem_range.2 hi, by rw [h1]; decide⟩
theorem fr1_cells {W : World} {b o j : Nat} {f : Fm} (h : Fr1 W b o j f) : W.cell? ⟨b, o + j * 4, none⟩ = some (.bool f.e) ∧ W.cell? ⟨b, o + j * 4 + 1, none⟩ = some (.int .u32 f.i) ∧ W.cell? ⟨b, o + j * 4 + 2, none⟩ = some (.bool f.r) ∧ W.cell? ⟨b, o + j * 4 + 3, none⟩ = some (.string f.d) := ⟨h.x0, h.x1, h.x2, h.x3⟩
theorem fm_ne {f g : Fm} (h : f ≠ g) : (f.e == g.e && (f.i == g.i && (f.r == g.r && (f.d.toList == g.d.toList)))) = false := by
  rw [← Bool.not_eq_true]
  intro e
  simp only [Bool.and_eq_true, beq_iff_eq] at e
  obtain ⟨e1, e2, e3, e4⟩ := e
  rw [Go.ByteArray.toList_eq, Go.ByteArray.toList_eq] at e4
  have e5 := ByteArray.ext (Array.toList_inj.1 e4)
  obtain ⟨f0, f1, f2, f3⟩ := f
  obtain ⟨g0, g1, g2, g3⟩ := g
  exact h (by simp only at e1 e2 e3 e5; rw [e1, e2, e3, e5])
/-- The wire, a row of events beside it. -/
structure WOE (w W : World) (B g g8 : Nat) (wt : Nat → Bool) (ov : Value) (O : List Fm) (c : Gc) (a : Option Addr) (cap : Nat) (L : List Ev) : Prop where
  wo : WO w W B g g8 wt ov O c
  ev : ∃ b, Evs W b (.slice a L.length cap) L
variable {a : Option Addr} {cap : Nat} {L : List Ev}
theorem WOE.drew (h : WOE w W B g g8 wt ov O c a cap L) : WOE w W.drew B g g8 wt ov O c a cap L := by
  obtain ⟨b, hb⟩ := h.ev
  exact ⟨h.wo.drew, b, evs_below hb (Below.refl _ W).drew⟩
theorem WOE.setw (h : WOE w W B g g8 wt ov O c a cap L) (i : Nat) (hi : i < 4) (x : Bool) : WOE w (W.setCell ⟨g8, i, none⟩ (.bool x)) B g g8 (WireW.upd wt i x) ov O c a cap L := by
  obtain ⟨b, hb⟩ := h.ev
  have kk : Kp (fun q => q = g8) W (W.setCell ⟨g8, i, none⟩ (.bool x)) := (Kp.refl _ _).set _ _ (.inl rfl)
  exact ⟨h.wo.setw i hi x, b, owns_kp hb kk (fun k hk e => owns_ne hb h.wo.arr (by decide) (e ▸ hk))⟩
theorem WOE.app (h : WOE w W B g g8 wt ov O c a cap L) (V : Fm) (h1 : Frow W' w.heap.size ov' (O ++ [V])) (k : (W.alloc (.cells (fc V).toArray 24)).grownBy W' ov.ownBlock) (h2 : ov'.ownBlock = ov.ownBlock ∨ ov'.ownBlock = some (W.heap.size + 1)) : WOE w W' B g g8 wt ov' (O ++ [V]) c a cap L := by
  obtain ⟨b, hb⟩ := h.ev
  have kk : Kp (fun q => ov.ownBlock = some q) W W' := ((Kp.refl (fun q => ov.ownBlock = some q) W).alloc _).trans (Kp.of_grown k) (fun i e => .inl e)
  exact ⟨h.wo.app V h1 k h2, b, owns_kp hb kk (fun i hi => owns_ne2 hb h.wo.ord (by decide) hi)⟩
theorem WOE.get (h : WOE w W B g g8 wt ov O c a cap L) {j : Nat} {x : Ev} (hx : L[j]? = some x) : ∃ q, a = some ⟨q, 0, none⟩ ∧ W.cell? ⟨q, j * 6, none⟩ = some (.int .i64 x.kind) := by
  obtain ⟨b, hb⟩ := h.ev
  obtain ⟨a', cap', e, hc⟩ := evs_slice hb
  injection e with e1 e2 e3
  subst e1
  obtain ⟨q, rfl, _, hh⟩ := hc (j * 6 + 0) _ (ec_at hx 0 (by decide))
  exact ⟨q, rfl, hh⟩
theorem WOE.one {x : Ev} {q : Nat} (h : WOE w W B g g8 wt ov O c (some ⟨q, 0, none⟩) cap [x]) : W.cell? ⟨q, 0, none⟩ = some (.int .i64 x.kind) ∧ W.cell? ⟨q, 1, none⟩ = some (.bool x.f.e) ∧ W.cell? ⟨q, 2, none⟩ = some (.int .u32 x.f.i) ∧ W.cell? ⟨q, 3, none⟩ = some (.bool x.f.r) ∧ W.cell? ⟨q, 4, none⟩ = some (.string x.f.d) := by
  obtain ⟨b, hb⟩ := h.ev
  have he : EL W q [x] := ⟨b, cap, hb⟩
  exact ⟨he.get 0 _ rfl, he.get 1 _ rfl, he.get 2 _ rfl, he.get 3 _ rfl, he.get 4 _ rfl⟩
theorem WOE.ptr {x : Ev} (h : WOE w W B g g8 wt ov O c a cap [x]) : ∃ q, a = some ⟨q, 0, none⟩ := by
  obtain ⟨q, e, _⟩ := h.get (j := 0) rfl
  exact ⟨q, e⟩
theorem fc_at {O : List Fm} {j : Nat} {x : Fm} (h : O[j]? = some x) (i : Nat) (hi : i < 4) : (O.flatMap fc)[j * 4 + i]? = (fc x)[i]? := by
  induction O generalizing j with
  | nil => simp at h
  | cons y O ih =>
    rw [List.flatMap_cons]
    cases j with
    | zero =>
      simp only [List.getElem?_cons_zero, Option.some.injEq] at h
      subst h
      rw [List.getElem?_append_left (by show 0 * 4 + i < 4; omega), Nat.zero_mul, Nat.zero_add]
    | succ j =>
      rw [List.getElem?_cons_succ] at h
      rw [List.getElem?_append_right (by show 4 ≤ (j + 1) * 4 + i; omega), show (j + 1) * 4 + i - (fc y).length = j * 4 + i from by show (j + 1) * 4 + i - 4 = _; omega]
      exact ih h
theorem frow_slice {b : Nat} {v : Value} (h : Frow W b v O) : ∃ a cap, v = .slice a O.length cap ∧ ∀ j u, (O.flatMap fc)[j]? = some u → ∃ q, a = some ⟨q, 0, none⟩ ∧ W.cell? ⟨q, j, none⟩ = some u := by
  rcases h.2 with ⟨h1, h2⟩ | ⟨g, cap, cur, rfl, h3, h4, h5⟩
  · have : O = [] := List.eq_nil_of_length_eq_zero h2
    subst this
    exact ⟨none, 0, h1, fun j u hj => by simp at hj⟩
  · refine ⟨some ⟨g, 0, none⟩, cap, rfl, fun j u hj => ⟨g, rfl, ?_⟩⟩
    have := World.ownsRow.cells h (g := g) rfl j u hj
    rw [Addr.add_mid, Nat.zero_add] at this
    exact this
theorem WO.fr {q n : Nat} (h : WO w W B g g8 wt (.slice (some ⟨q, 0, none⟩) n cap) O c) {j : Nat} {x : Fm} (hx : O[j]? = some x) : W.cell? ⟨q, j * 4, none⟩ = some (.bool x.e) ∧ W.cell? ⟨q, j * 4 + 1, none⟩ = some (.int .u32 x.i) ∧ W.cell? ⟨q, j * 4 + 2, none⟩ = some (.bool x.r) ∧ W.cell? ⟨q, j * 4 + 3, none⟩ = some (.string x.d) := by
  obtain ⟨a', cap', e, hc⟩ := frow_slice h.ord
  injection e with e1 e2 e3
  subst e1
  have get : ∀ i u, i < 4 → (fc x)[i]? = some u → W.cell? ⟨q, j * 4 + i, none⟩ = some u := by
    intro i u hi hu
    obtain ⟨q', e, hh⟩ := hc (j * 4 + i) u ((fc_at hx i hi).trans hu)
    injection e with e
    injection e with e
    subst e
    exact hh
  exact ⟨get 0 _ (by decide) rfl, get 1 _ (by decide) rfl, get 2 _ (by decide) rfl, get 3 _ (by decide) rfl⟩
theorem WO.ptr {n : Nat} (h : WO w W B g g8 wt (.slice a n cap) O c) (hn : 0 < O.length) : ∃ q, a = some ⟨q, 0, none⟩ := by
  obtain ⟨a', cap', e, hc⟩ := frow_slice h.ord
  injection e with e1 e2 e3
  subst e1
  obtain ⟨q, e, _⟩ := hc (0 * 4 + 0) _ (fc_at (x := O[0]) (List.getElem?_eq_getElem hn) 0 (by decide))
  exact ⟨q, e⟩
/-- Which wait, the first k having been looked at. -/
def dropTo (wt : Nat → Bool) (v k : Nat) : Nat → Bool := fun i => if i < k then drop1 wt v i else wt i
theorem dropTo_zero (wt : Nat → Bool) (v : Nat) : dropTo wt v 0 = wt := by
  funext i
  unfold dropTo
  rw [if_neg (by omega)]
theorem dropTo_at (wt : Nat → Bool) (v k : Nat) : dropTo wt v k k = wt k := by
  unfold dropTo
  rw [if_neg (by omega)]
theorem dropTo_upd (wt : Nat → Bool) (v k : Nat) : WireW.upd (dropTo wt v k) k (wt k && k != v) = dropTo wt v (k + 1) := by
  funext i
  unfold WireW.upd dropTo
  by_cases h : i = k
  · subst h
    rw [if_pos rfl, if_pos (by omega)]
    rfl
  · rw [if_neg h]
    by_cases hl : i < k
    · rw [if_pos hl, if_pos (by omega)]
    · rw [if_neg hl, if_neg (by omega)]
theorem dropTo_end (wt : Nat → Bool) {v n : Nat} (h : v < n) : dropTo wt v n = drop1 wt v := by
  funext i
  unfold dropTo
  by_cases hl : i < n
  · rw [if_pos hl]
  · rw [if_neg hl]
    unfold drop1
    have : (i != v) = true := by simp; omega
    rw [this, Bool.and_true]
set_option maxRecDepth 100000 in
set_option maxHeartbeats 12800000 in
theorem order_calls (A : Option Addr) (n cap : Nat) (S : Nat → Fm) (w : World) (hS : Frs w A n S) : Calls Try.prog 5 #[.slice A n cap] w fun e w' => e = .returned (.bool true) ∧ Below w.heap.size w w' := by
  have HS := hid hS
  clear hS
  go_enter Try.func5, Try.ntmps5
  go_wp2_with fail
  with_reducible refine (known_calls _).mono ?_
  rintro y w1 ⟨rfl, hb⟩
  have HB := hid hb
  clear hb
  by_cases h1 : n < 1
  · have u0 : ((n : Int) < 1) = True := eq_true (by omega)
    have u1 : decide ((n : Int) < 1) = true := decide_eq_true (by omega)
    have u2 : (n < 1) = True := eq_true h1
    clear h1
    go_wp2_with fail
    go_ret
    exact ⟨rfl, HB.out⟩
  · have u0 : ((n : Int) < 1) = False := eq_false (by omega)
    have u1 : decide ((n : Int) < 1) = false := decide_eq_false (by omega)
    have u2 : (n = 0) = False := eq_false (by omega)
    by_cases h4 : 4 < n
    · have v0 : (4 < (n : Int)) = True := eq_true (by omega)
      have v1 : decide (4 < (n : Int)) = true := decide_eq_true (by omega)
      have v2 : (4 < n) = True := eq_true h4
      clear h1 h4
      go_wp2_with fail
      go_ret
      exact ⟨rfl, HB.out⟩
    · have v0 : (4 < (n : Int)) = False := eq_false (by omega)
      have v1 : decide (4 < (n : Int)) = false := decide_eq_false (by omega)
      have v2 : (4 < n) = False := eq_false h4
      have HN := hid (show 1 ≤ n ∧ n ≤ 4 from ⟨by omega, by omega⟩)
      obtain ⟨b0, o0, rfl, hf⟩ := frs_at HS.out HN.out.1
      have HFR := hid hf
      clear hf
      clear h1 h4
      go_wp2_with fail
      clear u0 u1 u2 v0 v1 v2
      go_loopw [3] (fun i wr => ∃ i' : Nat, i' ≤ n ∧ i = .int .i64 i' ∧ Below w.heap.size w wr ∧ (∀ j, j < i' → (S j).Good) ∧ ∀ j k, j < i' → k < i' → j ≠ k → cmpF (S j) (S k) ≠ 0) (fun i _ => n - (intOf i).toNat)
      case atStart => exact ⟨0, Nat.zero_le _, rfl, HB.out, fun j hj => absurd hj (Nat.not_lt_zero _), fun j k hj => absurd hj (Nat.not_lt_zero _)⟩
      case round =>
        clear HB
        obtain ⟨i, hi, rfl, hb, hg, hc⟩ := hrel
        have HB := hid hb
        have HG := hid hg
        have HC := hid hc
        clear hb hg hc
        by_cases hlt : i < n
        · have u0 : ((i : Int) < n) = True := eq_true (by omega)
          have u1 : decide ((i : Int) < n) = true := decide_eq_true (by omega)
          have u2 : IntKind.i64.wrap ((i : Int) + 1) = ((i + 1 : Nat) : Int) := by have := HN.out; rw [IntKind.wrap_i64]; omega
          have u3 : (i < n) = True := eq_true hlt
          have hcl := HFR.out i hlt
          obtain ⟨x0, x1, x2, x3⟩ := fr1_cells (hcl.at HB.out)
          have HW := hid (HS.out.wf i hlt)
          have HCL := hid hcl
          clear hcl
          by_cases h8 : 8 < (S i).d.size
          · have y0 : (8 < ((S i).d.size : Int)) = True := eq_true (by omega)
            have y1 : decide (8 < ((S i).d.size : Int)) = true := decide_eq_true (by omega)
            have y2 : (8 < (S i).d.size) = True := eq_true h8
            clear h8
            go_wp2_with fail
            go_ret
            exact ⟨rfl, HB.out⟩
          · have y0 : (8 < ((S i).d.size : Int)) = False := eq_false (by omega)
            have y1 : decide (8 < ((S i).d.size : Int)) = false := decide_eq_false (by omega)
            have y2 : (8 < (S i).d.size) = False := eq_false h8
            clear h8
            go_wp2_with fail
            refine (ris_calls (S i).e (S i).i (S i).r (S i).d wr).mono ?_
            rintro y w2 ⟨rfl, hb⟩
            have HB2 := hid (HB.out.trans (hb.mono HB.out.size))
            clear hb HB x0 x1 x2 x3
            cases hok : okF (S i).e (S i).i (S i).r (S i).d
            · go_wp2_with fail
              go_ret
              exact ⟨rfl, HB2.out⟩
            · have HGI := hid (show (S i).Good from ⟨hok, HW.out⟩)
              clear hok
              go_wp2_with fail
              go_loopw [4] (fun k wr => ∃ k' : Nat, k' ≤ i ∧ k = .int .i64 k' ∧ Below w.heap.size w wr ∧ ∀ j, j < k' → cmpF (S i) (S j) ≠ 0) (fun k _ => i - (intOf k).toNat)
              case atStart => exact ⟨0, Nat.zero_le _, rfl, HB2.out, fun j hj => absurd hj (Nat.not_lt_zero _)⟩
              case round =>
                clear HB2
                obtain ⟨k, hk, rfl, hb, hc⟩ := hrel
                have HB := hid hb
                have HCK := hid hc
                clear hb hc
                by_cases hkt : k < i
                · have t0 : ((k : Int) < i) = True := eq_true (by omega)
                  have t1 : decide ((k : Int) < i) = true := decide_eq_true (by omega)
                  have t2 : IntKind.i64.wrap ((k : Int) + 1) = ((k + 1 : Nat) : Int) := by have := HN.out; rw [IntKind.wrap_i64]; omega
                  have t3 : (k < i) = True := eq_true hkt
                  have t4 : ((k : Int) < n) = True := eq_true (by omega)
                  have t5 : (k < n) = True := eq_true (by omega)
                  have hcl := HFR.out k (by omega)
                  have HCK2 := hid hcl
                  have HGK := hid (HG.out k hkt)
                  clear hcl
                  go_wp2_with fail
                  refine region_text (by kernel_rfl) (by kernel_rfl) (fun _ _ W => Below w.heap.size w W) HB.out.drew ?_
                  clear HB
                  iterate 10 ((try simp only [Act.put, List.setIfInBounds_toArray, List.set_cons_zero, List.set_cons_succ]); first
                    | (refine t_call (.int .i64 (cmpF (S i) (S k))) (fun _ => rfl) (f := 17) (args := #[.agg #[.bool (S i).e, .int .u32 (S i).i, .bool (S i).r, .string (S i).d], .agg #[.bool (S k).e, .int .u32 (S k).i, .bool (S k).r, .string (S k).d]]) ?_ (fun b γ W h _ => (cmp_calls (S i) (S k) W HGI.out HGK.out).mono (fun e w2 h2 => ⟨h2.1, h.trans (h2.2.mono h.size)⟩)) ?_; · (intro b γ W h _; clear h; go_simp; done))
                    | (refine t_pure ?_ (fun _ => rfl) (fun b γ W h => h) (fun b γ W h _ => ?_) ?_; rotate_left; · (obtain ⟨x0, x1, x2, x3⟩ := fr1_cells (HCL.out.at h); obtain ⟨z0, z1, z2, z3⟩ := fr1_cells (HCK2.out.at h); clear h; go_simp; first | rfl | done)))
                  refine t_end ?_
                  intro bq gq w3 hall hS3
                  (try simp only [Act.put, List.setIfInBounds_toArray, List.set_cons_zero, List.set_cons_succ])
                  have HB3 := hid hS3
                  clear hS3 hall
                  by_cases hz : cmpF (S i) (S k) = 0
                  · have z0 : (cmpF (S i) (S k) == 0) = true := by simp [hz]
                    have z1 : (cmpF (S i) (S k) = 0) = True := eq_true hz
                    clear hz
                    go_wp2_with fail
                    go_ret
                    exact ⟨rfl, HB3.out⟩
                  · have z0 : (cmpF (S i) (S k) == 0) = false := by simp [hz]
                    have z1 : (cmpF (S i) (S k) = 0) = False := eq_false hz
                    have HZ := hid hz
                    clear hz
                    go_wp2_with fail
                    exact ⟨⟨k + 1, by omega, rfl, HB3.out, fun j hj => if e : j = k then e ▸ HZ.out else HCK.out j (by omega)⟩, by simp [intOf]; omega⟩
                · obtain rfl : k = i := by omega
                  have t0 : ((k : Int) < k) = False := eq_false (by omega)
                  go_wp2_with fail
                  refine ⟨⟨k + 1, by omega, rfl, HB.out, fun j hj => if e : j = k then e ▸ HGI.out else HG.out j (by omega), fun j j' hj hj' hne => ?_⟩, by simp [intOf]; omega⟩
                  by_cases e1 : j = k
                  · subst e1
                    exact HCK.out j' (by omega)
                  · by_cases e2 : j' = k
                    · subst e2
                      have := HCK.out j (by omega)
                      have sw := cmpB_swap (abits (S j')) (abits (S j))
                      intro e
                      apply this
                      have e' : cmpB (abits (S j)) (abits (S j')) = 0 := e
                      rw [e'] at sw
                      show cmpB (abits (S j')) (abits (S j)) = 0
                      omega
                    · exact HC.out j j' (by omega) (by omega) hne
        · obtain rfl : n = i := by omega
          have HF := hid (show Fs n S from ⟨HN.out.1, HN.out.2, HG.out, HC.out⟩)
          clear HG HC
          go_wp2_with fail
          refine (wi_new 5 HB.out).mono ?_
          rintro y w2 ⟨g, rfl, h2, _⟩
          have h2 : Wi w w2 wr.heap.size g (fun k => wr.heap.size ≤ k ∧ k < w2.heap.size) (Gc.new 5) := h2
          have H2 := hid (WO.make h2 (fun k hk => hk.2))
          generalize wr.heap.size = B at H2
          clear h2
          go_wp2_with fail
          generalize w2.heap.size = g8 at H2 ⊢
          go_loopw [9] (fun i wr => ∃ i' : Nat, i' ≤ n ∧ i = .int .i64 i' ∧ WO w wr B g g8 (firstN i') (.slice none 0 0) [] (Gc.new 5)) (fun i _ => n - (intOf i).toNat)
          case atStart => exact ⟨0, Nat.zero_le _, rfl, H2.out⟩
          case round =>
            clear H2
            obtain ⟨i, hi, rfl, hb⟩ := hrel
            have H6 := hid hb
            clear hb
            by_cases hlt : i < n
            · have u0 : ((i : Int) < n) = True := eq_true (by omega)
              have u1 : decide ((i : Int) < n) = true := decide_eq_true (by omega)
              have u2 : IntKind.i64.wrap ((i : Int) + 1) = ((i + 1 : Nat) : Int) := by have := HN.out; rw [IntKind.wrap_i64]; omega
              have u3 : (i < n) = True := eq_true hlt
              have u4 : ((i : Int) < 4) = True := eq_true (by have := HN.out; omega)
              have u5 : (i < 4) = True := eq_true (by have := HN.out; omega)
              have y0 := H6.out.cell (i := i) (by have := HN.out; omega)
              have y1 := H6.out.arr.frozen i
              have h7 := H6.out.setw i (by have := HN.out; omega) true
              rw [firstN_upd] at h7
              have H7 := hid h7
              clear h7
              go_wp2_with fail
              exact ⟨⟨i + 1, by omega, rfl, H7.out⟩, by simp [intOf]; omega⟩
            · obtain rfl : n = i := by omega
              obtain ⟨s1, s2⟩ := race_start n S (cnt_first n)
              have HR := hid s1
              have H5 := hid s2
              have HGO := hid (gone_start n S (cnt_first n))
              have ec : (n : Int) = (cntW (firstN n) n : Int) := by rw [cnt_first]
              clear s1 s2
              go_wp2_with fail
              go_loopw [10, 6, 7] (fun bv lf sv wr => ∃ (b : Nat) (wt : Nat → Bool) (O : List Fm) (c : Gc) (ov : Value), ov = sv ∧ bv = .int .i64 b ∧ b ≤ 1000 ∧ lf = .int .i64 (cntW wt n) ∧ WO w wr B g g8 wt ov O c ∧ W5 b c ∧ Rc n S wt b c ∧ Gone n S wt O) (fun bv _ _ _ => 1001 - (intOf bv).toNat)
              case atStart =>
                refine ⟨0, firstN n, [], Gc.new 5, _, rfl, rfl, by decide, ?_, H6.out, H5.out, HR.out, HGO.out⟩
                rw [cnt_first]
              case round =>
                clear H6 H5 HR HGO ec
                obtain ⟨b, wt, O, c, ov, rfl, rfl, hb1, rfl, hwo, h5, hr, hgo⟩ := hrel
                have H6 := hid hwo
                have H5 := hid h5
                have HR := hid hr
                have HGO := hid hgo
                clear hwo h5 hr hgo
                by_cases hl : 0 < cntW wt n
                · have hb9 := race_bound HF.out HR.out
                  have u0 : ((b : Int) < 900) = True := eq_true (by omega)
                  have u1 : decide ((b : Int) < 900) = true := decide_eq_true (by omega)
                  have u3 : (b < 900) = True := eq_true hb9
                  have v0 : (0 < (cntW wt n : Int)) = True := eq_true (by omega)
                  have v1 : decide (0 < (cntW wt n : Int)) = true := decide_eq_true (by omega)
                  have v3 : (0 < cntW wt n) = True := eq_true hl
                  have v4 : ((cntW wt n : Int) > 0) = True := eq_true (by omega)
                  have u2 : IntKind.i64.wrap ((b : Int) + 1) = ((b + 1 : Nat) : Int) := by rw [IntKind.wrap_i64]; omega
                  have HL := hid hl
                  have HB9 := hid hb9
                  clear hl hb9
                  obtain ⟨d, q, hd, hd1, hd0⟩ := calm_cases HF.out HR.out
                  have HD1 := hid hd1
                  have HD0 := hid hd0
                  have HD := hid hd
                  clear hd1 hd0 hd
                  go_wp2_with fail
                  go_loopw [12, 11] (fun kv dv wr => ∃ k : Nat, k ≤ 5 ∧ kv = .int .i64 k ∧ dv = .bool (calmTo c k) ∧ WO w wr B g g8 wt ov O c) (fun kv _ _ => 5 - (intOf kv).toNat)
                  case atStart => exact ⟨0, Nat.zero_le _, rfl, rfl, H6.out⟩
                  case round =>
                    clear H6
                    obtain ⟨k, hk, rfl, rfl, hb⟩ := hrel
                    have H6 := hid hb
                    clear hb
                    by_cases hkt : k < 5
                    · have t0 : ((k : Int) < 5) = True := eq_true (by omega)
                      have t1 : decide ((k : Int) < 5) = true := decide_eq_true (by omega)
                      have t2 : IntKind.i64.wrap ((k : Int) + 1) = ((k + 1 : Nat) : Int) := by rw [IntKind.wrap_i64]; omega
                      have t3 : (k < 5) = True := eq_true hkt
                      have HKN := hid (show k < c.n by rw [H5.out.n]; exact hkt)
                      have hcs := calmTo_succ c k
                      unfold calm at hcs
                      have HCS := hid hcs
                      clear hcs hkt
                      cases hck : calmTo c k
                      · rw [hck] at HCS
                        go_wp2_with fail
                        exact ⟨⟨k + 1, by have := HKN.out; rw [H5.out.n] at this; omega, rfl, by rw [HCS.out]; rfl, H6.out⟩, by have := HKN.out; rw [H5.out.n] at this; simp [intOf]; omega⟩
                      · rw [hck] at HCS
                        go_wp2_with fail
                        with_reducible refine (wo_mac H6.out k HKN.out).mono ?_
                        rintro y w7 ⟨x, rfl, hq, rfl⟩
                        have HQ := hid hq
                        clear hq
                        go_wp2_with fail
                        with_reducible refine (nf_idle HQ.out).mono ?_
                        rintro y w7 ⟨rfl, rfl⟩
                        cases hs0 : ((c.ms k).st == 0)
                        · rw [hs0] at HCS
                          clear HQ
                          go_wp2_with fail
                          exact ⟨⟨k + 1, by have := HKN.out; rw [H5.out.n] at this; omega, rfl, by rw [HCS.out]; rfl, H6.out⟩, by have := HKN.out; rw [H5.out.n] at this; simp [intOf]; omega⟩
                        · rw [hs0] at HCS
                          clear HQ
                          go_wp2_with fail
                          with_reducible refine (wo_mac H6.out k HKN.out).mono ?_
                          rintro y w7 ⟨x', rfl, hq, rfl⟩
                          have HQ := hid hq
                          clear hq
                          go_wp2_with fail
                          with_reducible refine (nf_busy HQ.out).mono ?_
                          rintro y w7 ⟨rfl, rfl⟩
                          clear HQ
                          cases hs1 : (c.ms k).waits
                          · rw [hs1] at HCS
                            go_wp2_with fail
                            exact ⟨⟨k + 1, by have := HKN.out; rw [H5.out.n] at this; omega, rfl, by rw [HCS.out]; rfl, H6.out⟩, by have := HKN.out; rw [H5.out.n] at this; simp [intOf]; omega⟩
                          · rw [hs1] at HCS
                            go_wp2_with fail
                            exact ⟨⟨k + 1, by have := HKN.out; rw [H5.out.n] at this; omega, rfl, by rw [HCS.out]; rfl, H6.out⟩, by have := HKN.out; rw [H5.out.n] at this; simp [intOf]; omega⟩
                    · obtain rfl : k = 5 := by omega
                      rw [HD.out]
                      clear HD
                      go_upto_block 10 with fail
                      (try simp only [Int.cast_ofNat_Int])
                      go_cut [13] (fun s13 wc => ∃ c', Out n S wt b c' ∧ WO w wc B g g8 wt ov O c')
                      case first =>
                        go_wp2_with fail
                        (try simp only [Int.cast_ofNat_Int])
                        go_loopw [13] (fun kv wr => ∃ (k : Nat) (c' : Gc), k ≤ n ∧ kv = .int .i64 k ∧ WO w wr B g g8 wt ov O c' ∧ (d = true → Ak S wt q k b c') ∧ (d = false → c' = c)) (fun kv _ => n - (intOf kv).toNat)
                        case atStart => exact ⟨0, c, Nat.zero_le _, rfl, H6.out, fun e => ⟨H5.out, fun j hj => by rw [if_neg (by omega)]; exact ((HD1.out e).2 j hj).1⟩, fun _ => rfl⟩
                        case round =>
                          clear H6
                          obtain ⟨k, c', hk, rfl, hb, hak, hc'⟩ := hrel
                          have H6 := hid hb
                          have HAK := hid hak
                          have HC' := hid hc'
                          clear hb hak hc'
                          by_cases hkt : k < n
                          · have t0 : ((k : Int) < n) = True := eq_true (by omega)
                            have t1 : decide ((k : Int) < n) = true := decide_eq_true (by omega)
                            have t2 : IntKind.i64.wrap ((k : Int) + 1) = ((k + 1 : Nat) : Int) := by have := HN.out; rw [IntKind.wrap_i64]; omega
                            have t3 : (k < n) = True := eq_true hkt
                            have t4 : ((k : Int) < 4) = True := eq_true (by have := HN.out; omega)
                            have t5 : (k < 4) = True := eq_true (by have := HN.out; omega)
                            have HKT := hid hkt
                            clear hkt
                            cases d
                            · have HBZ := hid (show Out n S wt b c' by rw [HC'.out rfl]; exact out_busy HF.out H5.out HR.out (HD0.out rfl))
                              clear HAK HC'
                              go_wp2_with fail
                              go_meet
                              case rel => exact ⟨c', HBZ.out, H6.out⟩
                            · have y0 := H6.out.cell (i := k) (by have := HN.out; have := HKT.out; omega)
                              have HAK2 := hid (HAK.out rfl)
                              have HRQ := hid ((HD1.out rfl).2 k (by have := HN.out; have := HKT.out; omega)).2
                              clear HAK HC'
                              cases hwk : wt k
                              · rw [hwk] at y0
                                have HAK3 := hid (HAK2.out.skip hwk)
                                clear hwk
                                go_wp2_with fail
                                exact ⟨⟨k + 1, c', HKT.out, rfl, H6.out, fun _ => HAK3.out, fun e => absurd e (by decide)⟩, by have := HKT.out; simp [intOf]; omega⟩
                              · rw [hwk] at y0
                                obtain ⟨a1, a2⟩ := HAK2.out.ask HF.out HKT.out hwk HRQ.out
                                have HA1 := hid a1
                                have HA2 := hid a2
                                clear a1 a2 hwk
                                have hcl := HFR.out k HKT.out
                                obtain ⟨x0, x1, x2, x3⟩ := fr1_cells (hcl.at H6.out.below)
                                clear hcl
                                go_wp2_with fail
                                refine (wo_ask H6.out k (by have := HAK2.out.h5.n; have := HN.out; have := HKT.out; omega) (S k) (HS.out.wf k HKT.out)).mono ?_
                                rintro y w7 ⟨rfl, h7⟩
                                rw [HA1.out]
                                have H7 := hid h7
                                clear h7 H6 x0 x1 x2 x3 y0
                                go_wp2_with fail
                                exact ⟨⟨k + 1, _, HKT.out, rfl, H7.out, fun _ => HA2.out, fun e => absurd e (by decide)⟩, by have := HKT.out; simp [intOf]; omega⟩
                          · obtain rfl : n = k := by omega
                            have t0 : ((n : Int) < n) = False := eq_false (by omega)
                            have HBZ : Hid (Out n S wt b c') := by
                              cases d
                              · exact hid (by rw [HC'.out rfl]; exact out_busy HF.out H5.out HR.out (HD0.out rfl))
                              · exact hid (out_asked HF.out (HAK.out rfl) (HD1.out rfl).1 (fun i hi => ((HD1.out rfl).2 i hi).2) HL.out)
                            clear HAK HC'
                            go_wp2_with fail
                            go_meet
                            case rel => exact ⟨c', HBZ.out, H6.out⟩
                      case rest =>
                        clear H6 H5 HR HL
                        obtain ⟨c', ho, hb⟩ := hcut
                        obtain ⟨h5, ho⟩ := ho
                        have H6 := hid hb
                        have H5 := hid h5
                        have HO := hid ho
                        clear hb h5 ho HD0 HD1
                        go_wp2_with fail
                        with_reducible refine (wo_step H6.out false (by have := H5.out.bn; have e : (c'.step false).bn = c'.bn + 1 := rfl; have := HB9.out; omega)).mono ?_
                        rintro y w7 ⟨v, rfl, h7, h8⟩
                        rcases HO.out with ⟨hk, hl, hr⟩ | ⟨v', hv, hw, he, hr, hm⟩
                        · generalize c'.evs false = L at h8 hk hl
                          obtain ⟨av, cap', rfl, _⟩ := evs_slice h8
                          have H7 := hid (show WOE w w7 B g g8 wt ov O (c'.step false) av cap' L from ⟨h7, _, h8⟩)
                          have HK := hid hk
                          have HLN := hid hl
                          have HR := hid hr
                          clear h7 h8 hk hl hr HO H6
                          generalize c'.step false = c7 at H7 HR H5
                          go_wp2_with fail
                          go_loopw [15, 6, 7] (fun kv lf sv wr => ∃ k : Nat, k ≤ L.length ∧ kv = .int .i64 k ∧ lf = .int .i64 (cntW wt n) ∧ sv = ov ∧ WOE w wr B g g8 wt ov O c7 av cap' L) (fun kv _ _ _ => L.length - (intOf kv).toNat)
                          case atStart => exact ⟨0, Nat.zero_le _, rfl, rfl, rfl, H7.out⟩
                          case round =>
                            clear H7
                            obtain ⟨j, hj, rfl, rfl, rfl, hb⟩ := hrel
                            have H8 := hid hb
                            clear hb
                            by_cases hjt : j < L.length
                            · have t0 : ((j : Int) < L.length) = True := eq_true (by omega)
                              have t1 : decide ((j : Int) < L.length) = true := decide_eq_true (by omega)
                              have t2 : IntKind.i64.wrap ((j : Int) + 1) = ((j + 1 : Nat) : Int) := by have := HLN.out; rw [IntKind.wrap_i64]; omega
                              have t3 : (j < L.length) = True := eq_true hjt
                              obtain ⟨x, hx⟩ : ∃ x, L[j]? = some x := ⟨_, List.getElem?_eq_getElem hjt⟩
                              obtain ⟨q, rfl, y0⟩ := H8.out.get hx
                              obtain ⟨k1, k4, k5⟩ := HK.out x (List.mem_of_getElem? hx)
                              have t4 : (x.kind == 1) = false := by simp [k1]
                              have t5 : (x.kind = 1) = False := eq_false k1
                              have t6 : (x.kind == 4) = false := by simp [k4]
                              have t7 : (x.kind = 4) = False := eq_false k4
                              have t8 : (x.kind == 5) = false := by simp [k5]
                              have t9 : (x.kind = 5) = False := eq_false k5
                              clear k1 k4 k5 hx
                              go_wp2_with fail
                              exact ⟨⟨j + 1, by omega, rfl, rfl, rfl, H8.out⟩, by simp [intOf]; omega⟩
                            · obtain rfl : j = L.length := by omega
                              go_wp2_with fail
                              exact ⟨⟨b + 1, wt, O, c7, _, rfl, rfl, by have := HB9.out; omega, rfl, H8.out.wo, H5.out, HR.out, HGO.out⟩, by have := HB9.out; simp [intOf]; omega⟩
                        · rw [he] at h8
                          obtain ⟨av, cap', rfl, _⟩ := evs_slice h8
                          have h7 := (show WOE w w7 B g g8 wt ov O (c'.step false) av cap' [⟨1, S v', 0⟩] from ⟨h7, _, h8⟩)
                          obtain ⟨q1, rfl⟩ := h7.ptr
                          have H7 := hid h7
                          have HGO2 := hid (Gone.next HF.out HGO.out hv hw hm)
                          have HR := hid hr
                          have HV := hid hv
                          have hcd := cntW_drop hw n hv
                          have HW := hid hw
                          have HCD := hid hcd
                          clear h7 h8 hr HO H6 hm he hv hw hcd
                          generalize c'.step false = c7 at H7 HR H5
                          go_wp2_with fail
                          go_loopw [15, 6, 7] (fun kv lf sv wr => (kv = .int .i64 0 ∧ lf = .int .i64 (cntW wt n) ∧ sv = ov ∧ WOE w wr B g g8 wt ov O c7 (some ⟨q1, 0, none⟩) cap' [⟨1, S v', 0⟩]) ∨ (kv = .int .i64 1 ∧ lf = .int .i64 (cntW (drop1 wt v') n) ∧ WO w wr B g g8 (drop1 wt v') sv (O ++ [S v']) c7)) (fun kv _ _ _ => 1 - (intOf kv).toNat)
                          case atStart => exact .inl ⟨rfl, rfl, rfl, H7.out⟩
                          case round =>
                            clear H7
                            rcases hrel with ⟨rfl, rfl, rfl, hb⟩ | ⟨rfl, rfl, hb⟩
                            · have H8 := hid hb
                              clear hb
                              obtain ⟨y0, y1, y2, y3, y4⟩ := H8.out.one
                              simp only at y0 y1 y2 y3 y4
                              have t4 : IntKind.i64.wrap ((cntW wt n : Int) - 1) = (cntW (drop1 wt v') n : Int) := by have := HCD.out; have := cntW_le wt n; have := HN.out; rw [IntKind.wrap_i64]; omega
                              obtain ⟨v8, w8, r1, r2, r3, r4⟩ := run_app_fr (S v') H8.out.wo.ord H8.out.wo.below.size (by have := HGO.out.len; have := HN.out; omega)
                              have h9 := H8.out.app (S v') r2 r3 r4
                              have H9 := hid h9
                              have R1 := hid r1
                              clear r1 r2 r3 r4 h9
                              go_wp2_with (at_builtin; refine app_frs rfl (.tmp 153) (.tmp 159) rfl rfl rfl rfl R1.out ?_)
                              clear H8 y0 y1 y2 y3 y4 R1
                              go_loopw [16] (fun iv wr => ∃ k : Nat, k ≤ n ∧ iv = .int .i64 k ∧ WOE w wr B g g8 (dropTo wt v' k) v8 (O ++ [S v']) c7 (some ⟨q1, 0, none⟩) cap' [⟨1, S v', 0⟩]) (fun iv _ => n - (intOf iv).toNat)
                              case atStart => exact ⟨0, Nat.zero_le _, rfl, by rw [dropTo_zero]; exact H9.out⟩
                              case round =>
                                clear H9
                                obtain ⟨k, hk, rfl, hb⟩ := hrel
                                have H8 := hid hb
                                clear hb
                                by_cases hkt : k < n
                                · have t0 : ((k : Int) < n) = True := eq_true (by omega)
                                  have t1 : decide ((k : Int) < n) = true := decide_eq_true (by omega)
                                  have t2 : IntKind.i64.wrap ((k : Int) + 1) = ((k + 1 : Nat) : Int) := by have := HN.out; rw [IntKind.wrap_i64]; omega
                                  have t3 : (k < n) = True := eq_true hkt
                                  have t4 : ((k : Int) < 4) = True := eq_true (by have := HN.out; omega)
                                  have t5 : (k < 4) = True := eq_true (by have := HN.out; omega)
                                  have HKT := hid hkt
                                  clear hkt hk
                                  go_wp2_with fail
                                  refine region_text (by kernel_rfl) (by kernel_rfl) (fun β _ W => ∃ wt', WOE w W B g g8 wt' v8 (O ++ [S v']) c7 (some ⟨q1, 0, none⟩) cap' [⟨1, S v', 0⟩] ∧ (β 17 = false → wt' = dropTo wt v' k) ∧ (β 17 = true → wt' = dropTo wt v' (k + 1))) ⟨_, H8.out.drew, fun _ => rfl, fun e => absurd e (by decide)⟩ ?_
                                  clear H8
                                  cases hwk : wt k
                                  · have HWK := hid hwk
                                    have HZ := hid (show (wt k && k != v') = false by rw [hwk]; rfl)
                                    clear hwk
                                    iterate 3 ((try simp only [Act.put, List.setIfInBounds_toArray, List.set_cons_zero, List.set_cons_succ]); (refine t_pure ?_ (fun _ => rfl) (fun β γ W h => h) (fun β γ W h _ => ?_) ?_; rotate_left; · (obtain ⟨wt', h, _, _⟩ := h; obtain ⟨z0, z1, z2, z3, z4⟩ := h.one; obtain ⟨x0, x1, x2, x3⟩ := fr1_cells ((HFR.out k HKT.out).at h.wo.below); clear h; simp only at z0 z1 z2 z3 z4; go_simp; first | rfl | done)))
                                    (try simp only [Act.put, List.setIfInBounds_toArray, List.set_cons_zero, List.set_cons_succ])
                                    refine t_run (.bool false) (fun _ => rfl) (fun β γ W h _ _ hf => ⟨W, ?_, h⟩) ?_
                                    · have h17 : β 17 = false := hf 17 _ rfl (by decide)
                                      obtain ⟨wt', h, h2, _⟩ := h
                                      have z0 := h.wo.cell (i := k) (by have := HN.out; have := HKT.out; omega)
                                      rw [h2 h17, dropTo_at, HWK.out] at z0
                                      clear h h2 h17 hf
                                      go_simp
                                    iterate 1 ((try simp only [Act.put, List.setIfInBounds_toArray, List.set_cons_zero, List.set_cons_succ]); (refine t_pure ?_ (fun _ => rfl) (fun β γ W h => h) (fun β γ W h _ => ?_) ?_; rotate_left; · (obtain ⟨wt', h, _, _⟩ := h; obtain ⟨z0, z1, z2, z3, z4⟩ := h.one; obtain ⟨x0, x1, x2, x3⟩ := fr1_cells ((HFR.out k HKT.out).at h.wo.below); clear h; simp only at z0 z1 z2 z3 z4; go_simp; first | rfl | done)))
                                    iterate 10 ((try simp only [Act.put, List.setIfInBounds_toArray, List.set_cons_zero, List.set_cons_succ]); (refine t_skip (fun _ => rfl) (fun β γ W h => h) ?_))
                                    iterate 2 ((try simp only [Act.put, List.setIfInBounds_toArray, List.set_cons_zero, List.set_cons_succ]); (refine t_pure ?_ (fun _ => rfl) (fun β γ W h => h) (fun β γ W h _ => ?_) ?_; rotate_left; · (obtain ⟨wt', h, _, _⟩ := h; obtain ⟨z0, z1, z2, z3, z4⟩ := h.one; obtain ⟨x0, x1, x2, x3⟩ := fr1_cells ((HFR.out k HKT.out).at h.wo.below); clear h; simp only at z0 z1 z2 z3 z4; go_simp; first | rfl | done)))
                                    (try simp only [Act.put, List.setIfInBounds_toArray, List.set_cons_zero, List.set_cons_succ])
                                    refine t_store (fun _ => rfl) (fun β γ W h hb hn hf => ?_) ?_
                                    · obtain ⟨wt', h, h2, _⟩ := h
                                      obtain rfl := h2 hb
                                      have z0 := h.wo.cell (i := k) (by have := HN.out; have := HKT.out; omega)
                                      have z1 := h.wo.arr.frozen k
                                      have h9 := h.setw k (by have := HN.out; have := HKT.out; omega) false
                                      have e9 := dropTo_upd wt v' k
                                      rw [HZ.out] at e9
                                      rw [e9] at h9
                                      have H10 := hid h9
                                      clear h h9 h2 hn hf hb
                                      exact ⟨_, by go_simp, ⟨_, H10.out, fun e => by simp [up] at e, fun _ => rfl⟩⟩
                                    refine t_end ?_
                                    intro bq gq w9 hall hS3
                                    (try simp only [Act.put, List.setIfInBounds_toArray, List.set_cons_zero, List.set_cons_succ])
                                    obtain ⟨wt', h, _, h3⟩ := hS3
                                    obtain rfl := h3 (hall 17 (by decide))
                                    have H11 := hid h
                                    clear h h3 hall
                                    go_wp2_with fail
                                    exact ⟨⟨k + 1, HKT.out, rfl, H11.out⟩, by have := HKT.out; simp [intOf]; omega⟩
                                  · have HWK := hid hwk
                                    by_cases hkv : v' = k
                                    · subst hkv
                                      have HZ := hid (show (wt v' && v' != v') = false by simp)
                                      clear hwk
                                      iterate 3 ((try simp only [Act.put, List.setIfInBounds_toArray, List.set_cons_zero, List.set_cons_succ]); (refine t_pure ?_ (fun _ => rfl) (fun β γ W h => h) (fun β γ W h _ => ?_) ?_; rotate_left; · (obtain ⟨wt', h, _, _⟩ := h; obtain ⟨z0, z1, z2, z3, z4⟩ := h.one; obtain ⟨x0, x1, x2, x3⟩ := fr1_cells ((HFR.out v' HKT.out).at h.wo.below); clear h; simp only at z0 z1 z2 z3 z4; go_simp; first | rfl | done)))
                                      (try simp only [Act.put, List.setIfInBounds_toArray, List.set_cons_zero, List.set_cons_succ])
                                      refine t_run (.bool true) (fun _ => rfl) (fun β γ W h _ _ hf => ⟨W, ?_, h⟩) ?_
                                      · have h17 : β 17 = false := hf 17 _ rfl (by decide)
                                        obtain ⟨wt', h, h2, _⟩ := h
                                        have z0 := h.wo.cell (i := v') (by have := HN.out; have := HKT.out; omega)
                                        rw [h2 h17, dropTo_at, HWK.out] at z0
                                        clear h h2 h17 hf
                                        go_simp
                                      iterate 1 ((try simp only [Act.put, List.setIfInBounds_toArray, List.set_cons_zero, List.set_cons_succ]); (refine t_pure ?_ (fun _ => rfl) (fun β γ W h => h) (fun β γ W h _ => ?_) ?_; rotate_left; · (obtain ⟨wt', h, _, _⟩ := h; obtain ⟨z0, z1, z2, z3, z4⟩ := h.one; obtain ⟨x0, x1, x2, x3⟩ := fr1_cells ((HFR.out v' HKT.out).at h.wo.below); clear h; simp only at z0 z1 z2 z3 z4; go_simp; first | rfl | done)))
                                      iterate 9 ((try simp only [Act.put, List.setIfInBounds_toArray, List.set_cons_zero, List.set_cons_succ]); (refine t_pure ?_ (fun _ => rfl) (fun β γ W h => h) (fun β γ W h _ => ?_) ?_; rotate_left; · (obtain ⟨wt', h, _, _⟩ := h; obtain ⟨z0, z1, z2, z3, z4⟩ := h.one; obtain ⟨x0, x1, x2, x3⟩ := fr1_cells ((HFR.out v' HKT.out).at h.wo.below); clear h; simp only at z0 z1 z2 z3 z4; go_simp; first | rfl | done)))
                                      (try simp only [Act.put, List.setIfInBounds_toArray, List.set_cons_zero, List.set_cons_succ])
                                      refine t_pure (.bool false) (fun _ => rfl) (fun β γ W h => h) (fun β γ W h _ => ?_) ?_
                                      · clear h
                                        go_simp
                                      iterate 2 ((try simp only [Act.put, List.setIfInBounds_toArray, List.set_cons_zero, List.set_cons_succ]); (refine t_pure ?_ (fun _ => rfl) (fun β γ W h => h) (fun β γ W h _ => ?_) ?_; rotate_left; · (obtain ⟨wt', h, _, _⟩ := h; obtain ⟨z0, z1, z2, z3, z4⟩ := h.one; obtain ⟨x0, x1, x2, x3⟩ := fr1_cells ((HFR.out v' HKT.out).at h.wo.below); clear h; simp only at z0 z1 z2 z3 z4; go_simp; first | rfl | done)))
                                      (try simp only [Act.put, List.setIfInBounds_toArray, List.set_cons_zero, List.set_cons_succ])
                                      refine t_store (fun _ => rfl) (fun β γ W h hb hn hf => ?_) ?_
                                      · obtain ⟨wt', h, h2, _⟩ := h
                                        obtain rfl := h2 hb
                                        have z0 := h.wo.cell (i := v') (by have := HN.out; have := HKT.out; omega)
                                        have z1 := h.wo.arr.frozen v'
                                        have h9 := h.setw v' (by have := HN.out; have := HKT.out; omega) false
                                        have e9 := dropTo_upd wt v' v'
                                        rw [HZ.out] at e9
                                        rw [e9] at h9
                                        have H10 := hid h9
                                        clear h h9 h2 hn hf hb
                                        exact ⟨_, by go_simp, ⟨_, H10.out, fun e => by simp [up] at e, fun _ => rfl⟩⟩
                                      refine t_end ?_
                                      intro bq gq w9 hall hS3
                                      (try simp only [Act.put, List.setIfInBounds_toArray, List.set_cons_zero, List.set_cons_succ])
                                      obtain ⟨wt', h, _, h3⟩ := hS3
                                      obtain rfl := h3 (hall 17 (by decide))
                                      have H11 := hid h
                                      clear h h3 hall
                                      go_wp2_with fail
                                      exact ⟨⟨v' + 1, HKT.out, rfl, H11.out⟩, by have := HKT.out; simp [intOf]; omega⟩
                                    · have HZ := hid (show (wt k && k != v') = true by rw [hwk]; simp; omega)
                                      have HNE := hid (fm_ne (show S k ≠ S v' from fun e => hkv (same_num HF.out HKT.out HV.out e).symm))
                                      clear hwk hkv
                                      iterate 3 ((try simp only [Act.put, List.setIfInBounds_toArray, List.set_cons_zero, List.set_cons_succ]); (refine t_pure ?_ (fun _ => rfl) (fun β γ W h => h) (fun β γ W h _ => ?_) ?_; rotate_left; · (obtain ⟨wt', h, _, _⟩ := h; obtain ⟨z0, z1, z2, z3, z4⟩ := h.one; obtain ⟨x0, x1, x2, x3⟩ := fr1_cells ((HFR.out k HKT.out).at h.wo.below); clear h; simp only at z0 z1 z2 z3 z4; go_simp; first | rfl | done)))
                                      (try simp only [Act.put, List.setIfInBounds_toArray, List.set_cons_zero, List.set_cons_succ])
                                      refine t_run (.bool true) (fun _ => rfl) (fun β γ W h _ _ hf => ⟨W, ?_, h⟩) ?_
                                      · have h17 : β 17 = false := hf 17 _ rfl (by decide)
                                        obtain ⟨wt', h, h2, _⟩ := h
                                        have z0 := h.wo.cell (i := k) (by have := HN.out; have := HKT.out; omega)
                                        rw [h2 h17, dropTo_at, HWK.out] at z0
                                        clear h h2 h17 hf
                                        go_simp
                                      iterate 1 ((try simp only [Act.put, List.setIfInBounds_toArray, List.set_cons_zero, List.set_cons_succ]); (refine t_pure ?_ (fun _ => rfl) (fun β γ W h => h) (fun β γ W h _ => ?_) ?_; rotate_left; · (obtain ⟨wt', h, _, _⟩ := h; obtain ⟨z0, z1, z2, z3, z4⟩ := h.one; obtain ⟨x0, x1, x2, x3⟩ := fr1_cells ((HFR.out k HKT.out).at h.wo.below); clear h; simp only at z0 z1 z2 z3 z4; go_simp; first | rfl | done)))
                                      iterate 9 ((try simp only [Act.put, List.setIfInBounds_toArray, List.set_cons_zero, List.set_cons_succ]); (refine t_pure ?_ (fun _ => rfl) (fun β γ W h => h) (fun β γ W h _ => ?_) ?_; rotate_left; · (obtain ⟨wt', h, _, _⟩ := h; obtain ⟨z0, z1, z2, z3, z4⟩ := h.one; obtain ⟨x0, x1, x2, x3⟩ := fr1_cells ((HFR.out k HKT.out).at h.wo.below); clear h; simp only at z0 z1 z2 z3 z4; go_simp; first | rfl | done)))
                                      (try simp only [Act.put, List.setIfInBounds_toArray, List.set_cons_zero, List.set_cons_succ])
                                      refine t_pure (.bool true) (fun _ => rfl) (fun β γ W h => h) (fun β γ W h _ => ?_) ?_
                                      · have hne := HNE.out
                                        clear h
                                        go_simp
                                      iterate 2 ((try simp only [Act.put, List.setIfInBounds_toArray, List.set_cons_zero, List.set_cons_succ]); (refine t_pure ?_ (fun _ => rfl) (fun β γ W h => h) (fun β γ W h _ => ?_) ?_; rotate_left; · (obtain ⟨wt', h, _, _⟩ := h; obtain ⟨z0, z1, z2, z3, z4⟩ := h.one; obtain ⟨x0, x1, x2, x3⟩ := fr1_cells ((HFR.out k HKT.out).at h.wo.below); clear h; simp only at z0 z1 z2 z3 z4; go_simp; first | rfl | done)))
                                      (try simp only [Act.put, List.setIfInBounds_toArray, List.set_cons_zero, List.set_cons_succ])
                                      refine t_store (fun _ => rfl) (fun β γ W h hb hn hf => ?_) ?_
                                      · obtain ⟨wt', h, h2, _⟩ := h
                                        obtain rfl := h2 hb
                                        have z0 := h.wo.cell (i := k) (by have := HN.out; have := HKT.out; omega)
                                        have z1 := h.wo.arr.frozen k
                                        have h9 := h.setw k (by have := HN.out; have := HKT.out; omega) true
                                        have e9 := dropTo_upd wt v' k
                                        rw [HZ.out] at e9
                                        rw [e9] at h9
                                        have H10 := hid h9
                                        clear h h9 h2 hn hf hb
                                        exact ⟨_, by go_simp, ⟨_, H10.out, fun e => by simp [up] at e, fun _ => rfl⟩⟩
                                      refine t_end ?_
                                      intro bq gq w9 hall hS3
                                      (try simp only [Act.put, List.setIfInBounds_toArray, List.set_cons_zero, List.set_cons_succ])
                                      obtain ⟨wt', h, _, h3⟩ := hS3
                                      obtain rfl := h3 (hall 17 (by decide))
                                      have H11 := hid h
                                      clear h h3 hall
                                      go_wp2_with fail
                                      exact ⟨⟨k + 1, HKT.out, rfl, H11.out⟩, by have := HKT.out; simp [intOf]; omega⟩
                                · obtain rfl : n = k := by omega
                                  have h9 := H8.out.wo
                                  rw [dropTo_end wt HV.out] at h9
                                  have H9 := hid h9
                                  clear h9 H8
                                  go_wp2_with fail
                                  exact ⟨.inr ⟨rfl, rfl, H9.out⟩, by simp [intOf]⟩
                            · have H8 := hid hb
                              clear hb
                              go_wp2_with fail
                              exact ⟨⟨b + 1, drop1 wt v', O ++ [S v'], c7, _, rfl, rfl, by have := HB9.out; omega, rfl, H8.out, H5.out, HR.out, HGO2.out⟩, by have := HB9.out; simp [intOf]; omega⟩
                · have hb9 := race_bound HF.out HR.out
                  have u0 : ((b : Int) < 900) = True := eq_true (by omega)
                  have u1 : decide ((b : Int) < 900) = true := decide_eq_true (by omega)
                  have u3 : (b < 900) = True := eq_true hb9
                  have v0 : (0 < (cntW wt n : Int)) = False := eq_false (by omega)
                  have v1 : decide (0 < (cntW wt n : Int)) = false := decide_eq_false (by omega)
                  have v3 : (0 < cntW wt n) = False := eq_false hl
                  have v4 : ((cntW wt n : Int) > 0) = False := eq_false (by omega)
                  have v5 : ((cntW wt n : Int) == 0) = true := by simp; omega
                  have v6 : ((cntW wt n : Int) = 0) = True := eq_true (by omega)
                  have v7 : (cntW wt n = 0) = True := eq_true (by omega)
                  have hlen : O.length = n := by have := HGO.out.len; omega
                  obtain ⟨av, cap2, e, _⟩ := frow_slice H6.out.ord
                  rw [hlen] at e
                  subst e
                  obtain ⟨q2, rfl⟩ := H6.out.ptr (by have := HN.out; omega)
                  have HLEN := hid hlen
                  clear hb9 hl HR H5 hlen
                  go_wp2_with fail
                  go_loopw [17] (fun iv wr => ∃ i : Nat, 1 ≤ i ∧ i ≤ n ∧ iv = .int .i64 i ∧ WO w wr B g g8 wt (.slice (some ⟨q2, 0, none⟩) n cap2) O c) (fun iv _ => n - (intOf iv).toNat)
                  case atStart => exact ⟨1, Nat.le_refl _, HN.out.1, rfl, H6.out⟩
                  case round =>
                    clear H6
                    obtain ⟨i, hi1, hi2, rfl, hb⟩ := hrel
                    have H6 := hid hb
                    clear hb
                    by_cases hlt : i < n
                    · obtain ⟨p, hp⟩ : ∃ p, p + 1 = i := ⟨i - 1, by omega⟩
                      obtain ⟨x, hx⟩ : ∃ x, O[p]? = some x := ⟨_, List.getElem?_eq_getElem (by have := HLEN.out; omega)⟩
                      obtain ⟨y, hy⟩ : ∃ y, O[i]? = some y := ⟨_, List.getElem?_eq_getElem (by have := HLEN.out; omega)⟩
                      have hc := HGO.out.sort p x y hx (by rw [hp]; exact hy)
                      have HX := hid hx
                      have HY := hid hy
                      have HGX := hid (HGO.out.good x (List.mem_of_getElem? hx))
                      have HGY := hid (HGO.out.good y (List.mem_of_getElem? hy))
                      have HC := hid hc
                      have t0 : ((i : Int) < n) = True := eq_true (by omega)
                      have t1 : decide ((i : Int) < n) = true := decide_eq_true (by omega)
                      have t2 : IntKind.i64.wrap ((i : Int) + 1) = ((i + 1 : Nat) : Int) := by have := HN.out; rw [IntKind.wrap_i64]; omega
                      have t3 : (i < n) = True := eq_true hlt
                      have t4 : IntKind.i64.wrap ((i : Int) - 1) = (p : Int) := by have := HN.out; rw [IntKind.wrap_i64]; omega
                      have t5 : ((p : Int) < n) = True := eq_true (by omega)
                      have t6 : (p < n) = True := eq_true (by omega)
                      have HLT := hid (show 1 ≤ i ∧ i < n from ⟨hi1, hlt⟩)
                      clear hx hy hc hp hlt hi1 hi2
                      go_wp2_with fail
                      refine region_text (by kernel_rfl) (by kernel_rfl) (fun _ _ W => WO w W B g g8 wt (.slice (some ⟨q2, 0, none⟩) n cap2) O c) H6.out.drew ?_
                      clear H6
                      iterate 11 ((try simp only [Act.put, List.setIfInBounds_toArray, List.set_cons_zero, List.set_cons_succ]); first
                        | (refine t_call (.int .i64 (cmpF x y)) (fun _ => rfl) (f := 17) (args := #[.agg #[.bool x.e, .int .u32 x.i, .bool x.r, .string x.d], .agg #[.bool y.e, .int .u32 y.i, .bool y.r, .string y.d]]) ?_ (fun b γ W h _ => (cmp_calls x y W HGX.out HGY.out).mono (fun e w2 h2 => ⟨h2.1, h.later (h2.2)⟩)) ?_; · (intro b γ W h _; clear h; go_simp; done))
                        | (refine t_pure ?_ (fun _ => rfl) (fun b γ W h => h) (fun b γ W h _ => ?_) ?_; rotate_left; · (obtain ⟨x0, x1, x2, x3⟩ := h.fr HX.out; obtain ⟨z0, z1, z2, z3⟩ := h.fr HY.out; clear h; go_simp; first | rfl | done)))
                      refine t_end ?_
                      intro bq gq w3 hall hS3
                      (try simp only [Act.put, List.setIfInBounds_toArray, List.set_cons_zero, List.set_cons_succ])
                      rw [HC.out]
                      have HB3 := hid hS3
                      clear hS3 hall
                      go_wp2_with fail
                      exact ⟨⟨i + 1, by omega, HLT.out.2, rfl, HB3.out⟩, by have := HLT.out; simp [intOf]; omega⟩
                    · obtain rfl : n = i := by omega
                      go_wp2_with fail
                      go_ret
                      exact ⟨rfl, H6.out.below⟩
theorem order_walk (A : Option Addr) (n cap : Nat) (w : World) (h : ∃ S, Frs w A n S) : Calls Try.prog 5 #[.slice A n cap] w fun e w' => e = .returned (.bool true) ∧ Below w.heap.size w w' := by
  obtain ⟨S, hS⟩ := h
  exact order_calls A n cap S w hS
end Go.Proofs.Ytpkpnaedacefaaa.WireL
