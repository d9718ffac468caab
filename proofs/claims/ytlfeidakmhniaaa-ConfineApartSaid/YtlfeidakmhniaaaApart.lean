/- ConfineApart (layer 5): what was sent changes one counter, what came the other one: the walk. Conditions: none beyond the types of the arguments. -/
import Derived.Test.YtlfeidakmhniaaaPConfineRowsx2
import Derived.Test.YtlfeidakmhniaaaRegionB
import Derived.Test.YtlfeidakmhniaaaMem2
import Derived.OpenShut
namespace Go.Proofs.Ytlfeidakmhniaaa.Apart
open Go Go.RowKit Go.Proofs.Ytlfeidakmhniaaa.Lib Go.Proofs.Ytlfeidakmhniaaa.PConfineRows Go.Proofs.YtlfeidakmhniaaaW.PrintWords Go.Proofs.YtlfeidakmhniaaaW.PrintMore
attribute [local go_sem high] eqA32
theorem known_tells : ostinatolaw5_known.f 700 = some true := by decide +kernel
section
variable {P : Program} {ops : Array Oper} {S : (Nat → Bool) → (Nat → Nat) → World → Prop} {Fin : ((Nat → Nat) → Act) → Prop} {i : Nat} {o : Oper} {rest : List Oper} {a : (Nat → Nat) → Act}
/-- New memory, nothing that waits for it having come up. -/
theorem t_alloc2 (hw : ∀ g, Region.wanted o (yielded ops (a g).tmps) = true)
    (h : ∀ b g w, S b g w → b i = false → (∀ j p, ops[j]? = some p → i ∈ needsOf p → b j = false) → ∃ w', (execOp (a g).eval o).run P w = .ok (.value (.pointer (some ⟨w.heap.size, 0, none⟩))) w' ∧ S (up b i) (upd g i w.heap.size) w')
    (hr : TextRun P ops S Fin (i + 1) rest (fun g => (a g).put o.dst (.pointer (some ⟨g i, 0, none⟩)))) : TextRun P ops S Fin i (o :: rest) a :=
  ⟨fun g => .pointer (some ⟨g i, 0, none⟩), fun g g' hg => by simp only; rw [hg i (.inl rfl)], fun b g w hs hb hj hf => .inl ⟨hw g, by
    obtain ⟨w', h1, h2⟩ := h b g w hs hb hf
    unfold Oper.wp
    rw [h1]
    exact ⟨w.heap.size, by simp [upd], h2⟩⟩, hr⟩
end
/-- The pair of cells at γ 6 and γ 7, made and filled or not. -/
def Pair (W : World) (c : Nat) (made filled : Bool) (g : Nat) (x y : Int) : Prop :=
  made = true → c < g ∧ ∃ cs, Blk W g 32 cs ∧ cs.length = 2 ∧ (filled = true → cs = [.int .i64 x, .int .i64 y])
theorem Pair.below {W W' : World} {c g : Nat} {m f : Bool} {x y : Int} (h : Pair W c m f g x y) (hb : Below W.heap.size W W') : Pair W' c m f g x y := fun hm => by
  obtain ⟨h1, cs, h2, h3⟩ := h hm
  exact ⟨h1, cs, h2.below hb, h3⟩
structure Inv (w0 : World) (c : Nat) (s g a0 a1 b0 b1 : Int) (b : Nat → Bool) (γ : Nat → Nat) (W : World) : Prop where
  base : w0.heap.size ≤ c
  blk : Blk W c 32 [.int .i64 s, .int .i64 g]
  below : Below w0.heap.size w0 W
  p : Pair W c (b 6) (b 8) (γ 6) a0 a1
  q : Pair W c (b 7) (b 9) (γ 7) b0 b1
  ne : b 6 = true → b 7 = true → γ 6 ≠ γ 7
theorem Inv.later {w0 : World} {c : Nat} {s g a0 a1 b0 b1 : Int} {b b' : Nat → Bool} {γ : Nat → Nat} {W W' : World} (h : Inv w0 c s g a0 a1 b0 b1 b γ W) (hb : Below W.heap.size W W') (h6 : b' 6 = b 6) (h7 : b' 7 = b 7) (h8 : b' 8 = b 8) (h9 : b' 9 = b 9) : Inv w0 c s g a0 a1 b0 b1 b' γ W' where
  base := h.base
  blk := h.blk.below hb
  below := h.below.trans (hb.mono h.below.size)
  p := by rw [h6, h8]; exact h.p.below hb
  q := by rw [h7, h9]; exact h.q.below hb
  ne := by rw [h6, h7]; exact h.ne

structure Inv2 (w0 : World) (c p q d : Nat) (x y a0 a1 b0 b1 : Int) (W : World) : Prop where
  c : Blk W c 32 [.int .i64 x, .int .i64 y]
  p : Blk W p 32 [.int .i64 a0, .int .i64 a1]
  q : Blk W q 32 [.int .i64 b0, .int .i64 b1]
  d : Blk W d 32 [.int .i64 1001, .int .i64 3]
  below : Below w0.heap.size w0 W
theorem Inv2.later {w0 : World} {c p q d : Nat} {x y a0 a1 b0 b1 : Int} {W W' : World} (h : Inv2 w0 c p q d x y a0 a1 b0 b1 W) (hb : Below W.heap.size W W') : Inv2 w0 c p q d x y a0 a1 b0 b1 W' :=
  ⟨h.c.below hb, h.p.below hb, h.q.below hb, h.d.below hb, h.below.trans (hb.mono h.below.size)⟩
theorem is_yes {x y : Int} (hx : 0 ≤ x ∧ x ≤ 1000) (hy : 0 ≤ y ∧ y ≤ 1000) : confine_Is.f x y = some true := by
  have e1 : mn (mx x 0) 1000 = x := by unfold mn mx; omega
  have e2 : mn (mx y 0) 1000 = y := by unfold mn mx; omega
  unfold confine_Is.f
  rw [e1, e2]
  simp
theorem fact_f {x y a0 a1 b0 b1 : Int} (ha : confine_Sent.f x y false = some (a0, a1)) (hb : confine_Got.f x y false = some (b0, b1)) (hx : 0 ≤ x ∧ x ≤ 1000) (hy : 0 ≤ y ∧ y ≤ 1000) : a1 = y ∧ b0 = x ∧ (a0 < x) = False := by
  unfold confine_Sent.f at ha
  unfold confine_Got.f at hb
  rw [is_yes hx hy] at ha hb
  simp only [Option.bind_some, Bool.false_eq_true, if_false, if_true, Option.some.injEq, Prod.mk.injEq] at ha hb
  refine ⟨ha.2.symm, hb.1.symm, eq_false ?_⟩
  rw [← ha.1]
  unfold mn wrap64
  omega
theorem fact_t {x y a0 a1 b0 b1 : Int} (ha : confine_Sent.f x y true = some (a0, a1)) (hb : confine_Got.f x y true = some (b0, b1)) (hx : 0 ≤ x ∧ x ≤ 1000) (hy : 0 ≤ y ∧ y ≤ 1000) : a1 = y ∧ b0 = x ∧ ((a0 < x) = True ∨ (x = 0 ∧ a0 = 0)) := by
  unfold confine_Sent.f at ha
  unfold confine_Got.f at hb
  rw [is_yes hx hy] at ha hb
  simp only [Option.bind_some, if_true, Option.some.injEq, Prod.mk.injEq] at ha hb
  have hb0 : b0 = x := by split at hb <;> simp at hb <;> exact hb.1.symm
  refine ⟨ha.2.symm, hb0, ?_⟩
  rw [← ha.1]
  by_cases h : x = 0
  · subst h; exact .inr ⟨rfl, by unfold mx wrap64; omega⟩
  · refine .inl (eq_true ?_)
    unfold mx wrap64
    omega
set_option maxRecDepth 100000 in
set_option maxHeartbeats 1600000 in
theorem apart (s g : Int) (ok : Bool) (w : World) (hs0 : 0 ≤ s) (hs1 : s ≤ 65535) (hg0 : 0 ≤ g) (hg1 : g ≤ 65535) (hx : 0 ≤ s % 1001 ∧ s % 1001 ≤ 1000) (hy : 0 ≤ g % 1001 ∧ g % 1001 ≤ 1000)
   (a0 a1 b0 b1 : Int) (ha : confine_Sent.f (s % 1001) (g % 1001) ok = some (a0, a1)) (hb : confine_Got.f (s % 1001) (g % 1001) ok = some (b0, b1)):
    Calls Try.prog 8 #[.int .u16 s, .int .u16 g, .bool ok] w fun e w' => e = .returned (.bool true) ∧ Below w.heap.size w w' := by
  have Ha := Hd.mk ha
  have Hb := Hd.mk hb
  have HX := Hd.mk hx
  have HY := Hd.mk hy
  clear ha hb hx hy
  go_enter Try.func8, Try.ntmps8
  go_wp2_with fail
  refine (ostinatolaw5_known.calls 700 true _ known_tells).mono ?_
  rintro e w1 ⟨rfl, hb⟩
  go_wp2_with fail
  have HC := Blk.new w1 [.int .i64 (s % 1001), .int .i64 (g % 1001)] 32
  have HBl := hb.alloc (o := .cells #[.int .i64 (s % 1001), .int .i64 (g % 1001)] 32) hb.size
  have hcw := hb.size
  clear hb
  refine region_text (by kernel_rfl) (by kernel_rfl) (Inv w w1.heap.size (s % 1001) (g % 1001) a0 a1 b0 b1) ⟨hcw, HC.drew, HBl.drew, fun h => by simp at h, fun h => by simp at h, fun h => by simp at h⟩ ?_
  generalize w1.heap.size = c at *
  refine t_pure (.agg #[.int .i64 (s % 1001), .int .i64 (g % 1001)]) (fun _ => rfl) (fun b γ W h => ⟨h.base, h.blk, h.below, h.p, h.q, h.ne⟩) (fun b γ W h _ => by have x0 := h.blk.cell 0; have x1 := h.blk.cell 1; simp at x0 x1; go_simp) ?_
  refine t_pure (.bool ok) (fun _ => rfl) (fun b γ W h => ⟨h.base, h.blk, h.below, h.p, h.q, h.ne⟩) (fun b γ W h _ => by go_simp) ?_
  refine t_call (.agg #[.int .i64 a0, .int .i64 a1]) (fun _ => rfl) (f := 19) (args := #[.agg #[.int .i64 (s % 1001), .int .i64 (g % 1001)], .bool ok]) (fun b γ W h _ => by go_simp) (fun b γ W h _ => (confine_Sent.calls _ _ _ _ _ W Ha.out).mono ?_) ?_
  · rintro e w2 ⟨rfl, h2⟩
    exact ⟨rfl, h.later h2 rfl rfl rfl rfl⟩
  refine t_pure (.agg #[.int .i64 (s % 1001), .int .i64 (g % 1001)]) (fun _ => rfl) (fun b γ W h => ⟨h.base, h.blk, h.below, h.p, h.q, h.ne⟩) (fun b γ W h _ => by have x0 := h.blk.cell 0; have x1 := h.blk.cell 1; simp at x0 x1; go_simp) ?_
  refine t_pure (.bool ok) (fun _ => rfl) (fun b γ W h => ⟨h.base, h.blk, h.below, h.p, h.q, h.ne⟩) (fun b γ W h _ => by go_simp) ?_
  refine t_call (.agg #[.int .i64 b0, .int .i64 b1]) (fun _ => rfl) (f := 21) (args := #[.agg #[.int .i64 (s % 1001), .int .i64 (g % 1001)], .bool ok]) (fun b γ W h _ => by go_simp) (fun b γ W h _ => (confine_Got.calls _ _ _ _ _ W Hb.out).mono ?_) ?_
  · rintro e w2 ⟨rfl, h2⟩
    exact ⟨rfl, h.later h2 rfl rfl rfl rfl⟩
  refine t_alloc2 (fun _ => rfl) (fun b γ W h hb hf => ⟨W.alloc (.cells #[.int .i64 0, .int .i64 0] 32), by go_simp, ?_⟩) ?_
  · have hf8 := hf 8 _ rfl (by decide)
    refine ⟨h.base, h.blk.alloc _, h.below.alloc h.below.size _, ?_, ?_, ?_⟩
    · intro _
      rw [show upd γ 6 W.heap.size 6 = W.heap.size by simp [upd]]
      exact ⟨h.blk.lt, _, Blk.new W _ _, rfl, fun h8 => by simp [up, hf8] at h8⟩
    · rw [show upd γ 6 W.heap.size 7 = γ 7 by simp [upd]]
      intro hm
      obtain ⟨q1, cs, q2, q3⟩ := h.q hm
      exact ⟨q1, cs, q2.alloc _, q3⟩
    · intro _ h7
      obtain ⟨q1, cs, q2, q3⟩ := h.q h7
      rw [show upd γ 6 W.heap.size 7 = γ 7 by simp [upd], show upd γ 6 W.heap.size 6 = W.heap.size by simp [upd]]
      have := q2.lt
      omega
  refine t_alloc2 (fun _ => rfl) (fun b γ W h hb hf => ⟨W.alloc (.cells #[.int .i64 0, .int .i64 0] 32), by go_simp, ?_⟩) ?_
  · have hf8 := hf 9 _ rfl (by decide)
    refine ⟨h.base, h.blk.alloc _, h.below.alloc h.below.size _, ?_, ?_, ?_⟩
    · rw [show upd γ 7 W.heap.size 6 = γ 6 by simp [upd]]
      intro hm
      obtain ⟨q1, cs, q2, q3⟩ := h.p hm
      exact ⟨q1, cs, q2.alloc _, q3⟩
    · intro _
      rw [show upd γ 7 W.heap.size 7 = W.heap.size by simp [upd]]
      exact ⟨h.blk.lt, _, Blk.new W _ _, rfl, fun h8 => by simp [up, hf8] at h8⟩
    · intro h6 _
      obtain ⟨q1, cs, q2, q3⟩ := h.p h6
      rw [show upd γ 7 W.heap.size 6 = γ 6 by simp [upd], show upd γ 7 W.heap.size 7 = W.heap.size by simp [upd]]
      have := q2.lt
      omega
  refine t_store (fun _ => rfl) (fun b γ W h hb hn hf => ?_) ?_
  · have h6 : b 6 = true := hn 6 (by decide)
    obtain ⟨q1, cs, q2, q3, q4⟩ := h.p h6
    obtain ⟨x, y, rfl⟩ : ∃ x y, cs = [x, y] := by
      match cs, q3 with
      | [x, y], _ => exact ⟨x, y, rfl⟩
    have x0 := q2.cell 0
    have x1 := q2.cell 1
    have f0 := q2.frozen 0
    have f1 := q2.frozen 1
    simp at x0 x1
    have q5 := (q2.set 0 (.int .i64 a0)).set 1 (.int .i64 a1)
    refine ⟨(W.setCell ⟨γ 6, 0, none⟩ (.int .i64 a0)).setCell ⟨γ 6, 1, none⟩ (.int .i64 a1), by go_simp, h.base, ?_, ?_, ?_, ?_, ?_⟩
    · exact (h.blk.far (p := ⟨γ 6, 0, none⟩) (by show c ≠ γ 6; omega) _).far (p := ⟨γ 6, 1, none⟩) (by show c ≠ γ 6; omega) _
    · exact (h.below.setCell (by have := h.base; show w.heap.size ≤ γ 6; omega) _).setCell (by have := h.base; show w.heap.size ≤ γ 6; omega) _
    · intro _
      exact ⟨q1, _, q5, rfl, fun _ => rfl⟩
    · intro h7
      have hne := h.ne h6 h7
      obtain ⟨z1, zs, z2, z3⟩ := h.q h7
      exact ⟨z1, zs, (z2.far (p := ⟨γ 6, 0, none⟩) (fun e => hne e.symm) _).far (p := ⟨γ 6, 1, none⟩) (fun e => hne e.symm) _, z3⟩
    · exact h.ne
  refine t_store (fun _ => rfl) (fun b γ W h hb hn hf => ?_) ?_
  · have h7 : b 7 = true := hn 7 (by decide)
    obtain ⟨q1, cs, q2, q3, q4⟩ := h.q h7
    obtain ⟨x, y, rfl⟩ : ∃ x y, cs = [x, y] := by
      match cs, q3 with
      | [x, y], _ => exact ⟨x, y, rfl⟩
    have x0 := q2.cell 0
    have x1 := q2.cell 1
    have f0 := q2.frozen 0
    have f1 := q2.frozen 1
    simp at x0 x1
    have q5 := (q2.set 0 (.int .i64 b0)).set 1 (.int .i64 b1)
    refine ⟨(W.setCell ⟨γ 7, 0, none⟩ (.int .i64 b0)).setCell ⟨γ 7, 1, none⟩ (.int .i64 b1), by go_simp, h.base, ?_, ?_, ?_, ?_, ?_⟩
    · exact (h.blk.far (p := ⟨γ 7, 0, none⟩) (by show c ≠ γ 7; omega) _).far (p := ⟨γ 7, 1, none⟩) (by show c ≠ γ 7; omega) _
    · exact (h.below.setCell (by have := h.base; show w.heap.size ≤ γ 7; omega) _).setCell (by have := h.base; show w.heap.size ≤ γ 7; omega) _
    · intro h6
      have hne := h.ne h6 h7
      obtain ⟨z1, zs, z2, z3⟩ := h.p h6
      exact ⟨z1, zs, (z2.far (p := ⟨γ 7, 0, none⟩) hne _).far (p := ⟨γ 7, 1, none⟩) hne _, z3⟩
    · intro _
      exact ⟨q1, _, q5, rfl, fun _ => rfl⟩
    · exact h.ne
  refine t_end ?_
  intro bq gq w5 hall hS
  obtain ⟨k1, k2, k3, k4, k5, k6⟩ := hS
  obtain ⟨y1, cs, y2, y3, y4⟩ := k4 (hall 6 (by decide))
  obtain rfl := y4 (hall 8 (by decide))
  obtain ⟨z1, ds, z2, z3, z4⟩ := k5 (hall 7 (by decide))
  obtain rfl := z4 (hall 9 (by decide))
  simp only [Act.put, List.setIfInBounds_toArray, List.set_cons_zero, List.set_cons_succ]
  generalize gq 6 = p at *
  generalize gq 7 = q at *
  clear hall k4 k5 k6 y3 y4 z3 z4 HC HBl hs0 hs1 hg0 hg1
  generalize s % 1001 = x at *
  generalize g % 1001 = y at *
  go_wp2_with fail
  have F1 : (Inv2 w c p q w5.heap.size x y a0 a1 b0 b1 (w5.alloc (.cells #[.int .i64 1001, .int .i64 3] 32)).drew) := ⟨k2.alloc _, y2.alloc _, z2.alloc _, Blk.new w5 _ _, (k3.alloc k3.size _).drew⟩
  clear k2 k3 y2 z2
  generalize w5.heap.size = d at *
  cases ok
  · obtain ⟨h1, h2, h3⟩ := fact_f Ha.out Hb.out HX.out HY.out
    have h1 := h1.symm
    have h2 := h2.symm
    subst h1 h2
    refine region_text (by kernel_rfl) (by kernel_rfl) (fun _ _ W => Inv2 w c p q d x y a0 y x b1 W) F1 ?_
    iterate 58 ((try simp only [Act.put, List.setIfInBounds_toArray, List.set_cons_zero, List.set_cons_succ]); first
      | (refine t_skip (fun _ => rfl) (fun b γ W h => h) ?_)
      | (refine t_call (.agg #[.int .i64 1001, .int .i64 3]) (fun _ => rfl) (f := 19) (args := #[.agg #[.int .i64 1001, .int .i64 3], .bool false]) ?_ (fun b γ W h _ => (confine_Sent.calls _ _ _ _ _ W rfl).mono (fun e w2 h2 => ⟨h2.1, h.later h2.2⟩)) ?_; · (intro b γ W h _; go_simp; done))
      | (refine t_call (.agg #[.int .i64 1001, .int .i64 3]) (fun _ => rfl) (f := 21) (args := #[.agg #[.int .i64 1001, .int .i64 3], .bool false]) ?_ (fun b γ W h _ => (confine_Got.calls _ _ _ _ _ W rfl).mono (fun e w2 h2 => ⟨h2.1, h.later h2.2⟩)) ?_; · (intro b γ W h _; go_simp; done))
      | (refine t_call (.bool false) (fun _ => rfl) (f := 18) (args := #[.agg #[.int .i64 1001, .int .i64 3]]) ?_ (fun b γ W h _ => (confine_Is.calls _ _ _ W rfl).mono (fun e w2 h2 => ⟨h2.1, h.later h2.2⟩)) ?_; · (intro b γ W h _; go_simp; done))
      | (refine t_pure ?_ (fun _ => rfl) (fun b γ W h => h) (fun b γ W h _ => ?_) ?_; rotate_left; · (have x0 := h.c.cell 0; have x1 := h.c.cell 1; have y0 := h.p.cell 0; have y1 := h.p.cell 1; have z0 := h.q.cell 0; have z1 := h.q.cell 1; have d0 := h.d.cell 0; have d1 := h.d.cell 1; simp at x0 x1 y0 y1 z0 z1 d0 d1; go_simp; rfl)))
    refine t_end ?_
    intro bq gq w6 hall hS
    have hbl := hS.below
    (try simp only [Act.put, List.setIfInBounds_toArray, List.set_cons_zero, List.set_cons_succ])
    go_wp2_with fail
    go_ret
    exact ⟨rfl, hbl⟩
  · obtain ⟨h1, h2, h3⟩ := fact_t Ha.out Hb.out HX.out HY.out
    have h1 := h1.symm
    have h2 := h2.symm
    subst h1 h2
    rcases h3 with h3 | ⟨h3, h4⟩
    · refine region_text (by kernel_rfl) (by kernel_rfl) (fun _ _ W => Inv2 w c p q d x y a0 y x b1 W) F1 ?_
      iterate 58 ((try simp only [Act.put, List.setIfInBounds_toArray, List.set_cons_zero, List.set_cons_succ]); first
        | (refine t_skip (fun _ => rfl) (fun b γ W h => h) ?_)
        | (refine t_call (.agg #[.int .i64 1001, .int .i64 3]) (fun _ => rfl) (f := 19) (args := #[.agg #[.int .i64 1001, .int .i64 3], .bool true]) ?_ (fun b γ W h _ => (confine_Sent.calls _ _ _ _ _ W rfl).mono (fun e w2 h2 => ⟨h2.1, h.later h2.2⟩)) ?_; · (intro b γ W h _; go_simp; done))
        | (refine t_call (.agg #[.int .i64 1001, .int .i64 3]) (fun _ => rfl) (f := 21) (args := #[.agg #[.int .i64 1001, .int .i64 3], .bool true]) ?_ (fun b γ W h _ => (confine_Got.calls _ _ _ _ _ W rfl).mono (fun e w2 h2 => ⟨h2.1, h.later h2.2⟩)) ?_; · (intro b γ W h _; go_simp; done))
        | (refine t_call (.bool false) (fun _ => rfl) (f := 18) (args := #[.agg #[.int .i64 1001, .int .i64 3]]) ?_ (fun b γ W h _ => (confine_Is.calls _ _ _ W rfl).mono (fun e w2 h2 => ⟨h2.1, h.later h2.2⟩)) ?_; · (intro b γ W h _; go_simp; done))
        | (refine t_pure ?_ (fun _ => rfl) (fun b γ W h => h) (fun b γ W h _ => ?_) ?_; rotate_left; · (have x0 := h.c.cell 0; have x1 := h.c.cell 1; have y0 := h.p.cell 0; have y1 := h.p.cell 1; have z0 := h.q.cell 0; have z1 := h.q.cell 1; have d0 := h.d.cell 0; have d1 := h.d.cell 1; simp at x0 x1 y0 y1 z0 z1 d0 d1; go_simp; rfl)))
      refine t_end ?_
      intro bq gq w6 hall hS
      have hbl := hS.below
      (try simp only [Act.put, List.setIfInBounds_toArray, List.set_cons_zero, List.set_cons_succ])
      go_wp2_with fail
      go_ret
      exact ⟨rfl, hbl⟩
    · subst h3 h4
      refine region_text (by kernel_rfl) (by kernel_rfl) (fun _ _ W => Inv2 w c p q d 0 y 0 y 0 b1 W) F1 ?_
      iterate 58 ((try simp only [Act.put, List.setIfInBounds_toArray, List.set_cons_zero, List.set_cons_succ]); first
        | (refine t_skip (fun _ => rfl) (fun b γ W h => h) ?_)
        | (refine t_call (.agg #[.int .i64 1001, .int .i64 3]) (fun _ => rfl) (f := 19) (args := #[.agg #[.int .i64 1001, .int .i64 3], .bool true]) ?_ (fun b γ W h _ => (confine_Sent.calls _ _ _ _ _ W rfl).mono (fun e w2 h2 => ⟨h2.1, h.later h2.2⟩)) ?_; · (intro b γ W h _; go_simp; done))
        | (refine t_call (.agg #[.int .i64 1001, .int .i64 3]) (fun _ => rfl) (f := 21) (args := #[.agg #[.int .i64 1001, .int .i64 3], .bool true]) ?_ (fun b γ W h _ => (confine_Got.calls _ _ _ _ _ W rfl).mono (fun e w2 h2 => ⟨h2.1, h.later h2.2⟩)) ?_; · (intro b γ W h _; go_simp; done))
        | (refine t_call (.bool false) (fun _ => rfl) (f := 18) (args := #[.agg #[.int .i64 1001, .int .i64 3]]) ?_ (fun b γ W h _ => (confine_Is.calls _ _ _ W rfl).mono (fun e w2 h2 => ⟨h2.1, h.later h2.2⟩)) ?_; · (intro b γ W h _; go_simp; done))
        | (refine t_pure ?_ (fun _ => rfl) (fun b γ W h => h) (fun b γ W h _ => ?_) ?_; rotate_left; · (have x0 := h.c.cell 0; have x1 := h.c.cell 1; have y0 := h.p.cell 0; have y1 := h.p.cell 1; have z0 := h.q.cell 0; have z1 := h.q.cell 1; have d0 := h.d.cell 0; have d1 := h.d.cell 1; simp at x0 x1 y0 y1 z0 z1 d0 d1; go_simp; rfl)))
      refine t_end ?_
      intro bq gq w6 hall hS
      have hbl := hS.below
      (try simp only [Act.put, List.setIfInBounds_toArray, List.set_cons_zero, List.set_cons_succ])
      go_wp2_with fail
      go_ret
      exact ⟨rfl, hbl⟩
theorem got_some {x y : Int} {ok : Bool} (hx : 0 ≤ x ∧ x ≤ 1000) (hy : 0 ≤ y ∧ y ≤ 1000) : ∃ a0 a1 b0 b1, confine_Sent.f x y ok = some (a0, a1) ∧ confine_Got.f x y ok = some (b0, b1) := by
  unfold confine_Sent.f confine_Got.f
  rw [is_yes hx hy]
  simp only [Option.bind_some, if_true]
  cases ok
  · exact ⟨_, _, _, _, rfl, rfl⟩
  · by_cases h : y > 127
    · simp only [if_true, if_pos h]; exact ⟨_, _, _, _, rfl, rfl⟩
    · simp only [if_true, if_neg h]; exact ⟨_, _, _, _, rfl, rfl⟩
theorem apart_walk (s g : Int) (ok : Bool) (w : World) (hs : 0 ≤ s ∧ s ≤ 65535) (hg : 0 ≤ g ∧ g ≤ 65535) :
    Calls Try.prog 8 #[.int .u16 s, .int .u16 g, .bool ok] w fun e w' => e = .returned (.bool true) ∧ Below w.heap.size w w' := by
  have hx : 0 ≤ s % 1001 ∧ s % 1001 ≤ 1000 := by omega
  have hy : 0 ≤ g % 1001 ∧ g % 1001 ≤ 1000 := by omega
  obtain ⟨a0, a1, b0, b1, h1, h2⟩ := got_some (ok := ok) hx hy
  exact apart s g ok w hs.1 hs.2 hg.1 hg.2 hx hy a0 a1 b0 b1 h1 h2
theorem apart_row (a0 a1 : Int) (a2 : Bool) (W : World) (w0 : (Lit.int .u16 a0).wf = true) (w1 : (Lit.int .u16 a1).wf = true) :
    Calls Try.prog 8 #[.int .u16 a0, .int .u16 a1, .bool a2] W fun e w' => e = .returned (.bool true) ∧ Below W.heap.size W w' := by
  have b0 := bounds_u16 w0
  have b1 := bounds_u16 w1
  exact apart_walk a0 a1 a2 W (by omega) (by omega)
end Go.Proofs.Ytlfeidakmhniaaa.Apart
