/- WireTurned (layer 8): a bit turned somewhere: each node is idle again some time later, nobody is off, and a frame then comes to all. Conditions: none beyond the types of the arguments; what is no frame is let pass. -/
import Derived.Test.YtpkpnaedacefaaaWireKnown
import Derived.Test.YtpkpnaedacefaaaWireTurn
import Derived.Test.YtpkpnaedacefaaaRefF
import Derived.Test.YtpkpnaedacefaaaWireSm
namespace Go.Proofs.Ytpkpnaedacefaaa.WireP
set_option linter.unusedVariables false
set_option linter.unusedSimpArgs false
open Go Go.Proofs.Ytpkpnaedacefaaa.Lib Go.Proofs.Ytpkpnaedacefaaa.Bits Go.Proofs.Ytpkpnaedacefaaa.BitsW Go.Proofs.Ytpkpnaedacefaaa.Frame Go.Proofs.Ytpkpnaedacefaaa.FrameW Go.Proofs.Ytpkpnaedacefaaa.Code Go.Proofs.Ytpkpnaedacefaaa.CodeW Go.Proofs.Ytpkpnaedacefaaa.CodeL Go.Proofs.Ytpkpnaedacefaaa.Mac Go.Proofs.Ytpkpnaedacefaaa.MacW Go.Proofs.Ytpkpnaedacefaaa.WireN Go.Proofs.Ytpkpnaedacefaaa.WireW
/-- Behind i bits, bit a being turned. -/
structure T1 (F : Fm) (a i : Nat) (c : Gc) : Prop where
  n : c.n = 3
  t : c.t = false
  bn : c.bn = i
  same : c.ms 1 = c.ms 2
  ph : Ph F a i (c.ms 0) (c.ms 1)
theorem allD_three (ms : Nat → M) : allD ms 3 = ((ms 0).drive && ((ms 1).drive && (ms 2).drive)) := by
  show ((ms 0).drive && ((ms 1).drive && ((ms 2).drive && true))) = _
  rw [Bool.and_true]
theorem t1_start {F : Fm} (hF : F.Good) (a : Nat) : T1 F a 0 ((Gc.new 3).ask 0 F) ∧ (((Gc.new 3).ms 0).ask F).2 = 0 := by
  obtain ⟨o, e⟩ := one_start (k := 3) (s := 0) hF (by decide)
  refine ⟨⟨rfl, rfl, rfl, rfl, ?_⟩, e⟩
  have h0 := o.ms 0 (by decide)
  have h1 := o.ms 1 (by decide)
  rw [if_pos rfl] at h0
  rw [if_neg (by decide)] at h1
  rw [h0, h1]
  exact ph_start F a
theorem T1.step {F : Fm} (hF : F.Good) {a i : Nat} {c : Gc} (h : T1 F a i c) : T1 F a (i + 1) (c.step (i == a)) := by
  have hn := h.n
  have hb : (allD c.ms c.n != (c.t || (i == a))) = (((c.ms 0).drive && (c.ms 1).drive) != (i == a)) := by
    rw [hn, allD_three, h.t, ← h.same]
    cases (c.ms 0).drive <;> cases (c.ms 1).drive <;> rfl
  obtain ⟨q1, _, _, _⟩ := step_of (c := c) (flip := (i == a)) hb (ms' := fun j => ((c.ms j).sample (((c.ms 0).drive && (c.ms 1).drive) != (i == a))).1) (E := fun j => ((c.ms j).sample (((c.ms 0).drive && (c.ms 1).drive) != (i == a))).2) (fun j _ => rfl)
  refine ⟨hn, rfl, by show c.bn + 1 = _; rw [h.bn], ?_, ?_⟩
  · rw [q1 1 (by omega), q1 2 (by omega), h.same]
  · rw [q1 0 (by omega), q1 1 (by omega)]
    exact ph_step hF h.ph
/-- One that sends g from rest on, one that hears it. -/
def runS (q : M) (g : Fm) (j : Nat) : M := if j < g.ack.length then winM q g j else pauM (sqEnd q g) (j - g.ack.length)
def runL (q : M) (g : Fm) (j : Nat) : M := if j < g.ack.length then lisM q g j else pauM (hrM (gotD q) g g.ack.length) (j - g.ack.length)
def runC (g : Fm) (j : Nat) : Bool := if j < g.ack.length then bitAt g.ack j else true
theorem runS_step {g : Fm} (h : g.Good) {q : M} (hq : Rest q) (j : Nat) : (runS q g j).sample (runC g j) = (runS q g (j + 1), if j < g.ack.length then wiE g j else []) := by
  unfold runC
  by_cases h2 : j < g.ack.length
  · rw [if_pos h2, if_pos h2, show runS q g j = winM q g j from if_pos h2, win_step h h2]
    congr 1
    unfold runS
    by_cases h3 : j + 1 < g.ack.length
    · rw [if_pos h3]
    · rw [if_neg h3, show j + 1 = g.ack.length by omega, win_pau _ h, Nat.sub_self]
  · rw [if_neg h2, if_neg h2, show runS q g j = pauM (sqEnd q g) (j - g.ack.length) from if_neg h2, (pau_rest (win_rest hq g) _).1]
    congr 1
    unfold runS
    rw [if_neg (by omega), show j + 1 - g.ack.length = j - g.ack.length + 1 by omega]
theorem runL_step {g : Fm} (h : g.Good) {q : M} (hq : Rest q) (j : Nat) : (runL q g j).sample (runC g j) = (runL q g (j + 1), if j < g.ack.length then hrE g j else []) := by
  unfold runC
  by_cases h2 : j < g.ack.length
  · rw [if_pos h2, if_pos h2, show runL q g j = lisM q g j from if_pos h2, lis_step h hq h2]
    congr 1
    unfold runL
    by_cases h3 : j + 1 < g.ack.length
    · rw [if_pos h3]
    · rw [if_neg h3, show j + 1 = g.ack.length by omega, lis_pau _ h, Nat.sub_self]
  · rw [if_neg h2, if_neg h2, show runL q g j = pauM (hrM (gotD q) g g.ack.length) (j - g.ack.length) from if_neg h2, (pau_rest (lis_rest hq g) _).1]
    congr 1
    unfold runL
    rw [if_neg (by omega), show j + 1 - g.ack.length = j - g.ack.length + 1 by omega]
theorem run_and {g : Fm} (h : g.Good) {q q' : M} (hq : Rest q) (hq' : Rest q') (j : Nat) : ((runS q g j).drive && (runL q' g j).drive) = runC g j := by
  unfold runC
  by_cases h2 : j < g.ack.length
  · rw [if_pos h2, show runS q g j = winM q g j from if_pos h2, show runL q' g j = lisM q' g j from if_pos h2, win_drive h h2, lis_drive h hq' h2]
    by_cases h9 : j + 9 = g.ack.length
    · rw [if_pos h9, decide_eq_true h9, ack_at9 h9]; rfl
    · rw [if_neg h9, decide_eq_false h9]; cases bitAt g.ack j <;> rfl
  · rw [if_neg h2, show runS q g j = pauM (sqEnd q g) (j - g.ack.length) from if_neg h2, show runL q' g j = pauM (hrM (gotD q') g g.ack.length) (j - g.ack.length) from if_neg h2, (pau_rest (win_rest hq g) _).2, (pau_rest (lis_rest hq' g) _).2]
    rfl
theorem keep_last {h : List Ev} (x : Ev) : (keep (h ++ [x])).getLast? = some x := by
  unfold keep
  rw [List.drop_append_of_le_length (by rw [List.length_append, List.length_singleton]; omega)]
  simp
theorem keep_still {h : List Ev} {x : Ev} (e : h.getLast? = some x) : (keep (h ++ [])).getLast? = some x := by
  rw [List.append_nil]
  have hne : h ≠ [] := fun q => by rw [q] at e; cases e
  have hp : 0 < h.length := List.length_pos_iff.2 hne
  unfold keep
  rw [List.getLast?_eq_getElem?] at e ⊢
  rw [List.length_drop, List.getElem?_drop, ← e]
  congr 1
  omega
/-- Behind j bits of g, which node 1 sends. -/
structure T2 (g : Fm) (q0 q1 q2 : M) (j : Nat) (c : Gc) : Prop where
  n : c.n = 3
  t : c.t = false
  bn : c.bn = 400 + j
  m0 : c.ms 0 = runL q0 g j
  m1 : c.ms 1 = runS q1 g j
  m2 : c.ms 2 = runL q2 g j
  l0 : g.ack.length ≤ j + 1 → (c.hs 0).getLast? = some ⟨2, g, 0⟩
  l1 : g.ack.length ≤ j → (c.hs 1).getLast? = some ⟨1, g, 0⟩
  l2 : g.ack.length ≤ j + 1 → (c.hs 2).getLast? = some ⟨2, g, 0⟩
theorem t2_start {g F : Fm} (hg : g.Good) (hF : F.Good) {a : Nat} (ha : a ≤ 255) {c : Gc} (h : T1 F a 400 c) : Rest (c.ms 0) ∧ Rest (c.ms 1) ∧ Rest (c.ms 2) ∧ ((c.ms 1).ask g).2 = 0 ∧ T2 g (c.ms 0) (c.ms 1) (c.ms 2) 0 (c.ask 1 g) := by
  obtain ⟨r0, r1⟩ := ph_end hF h.ph ha
  have hl := ack_long hg
  have r2 : Rest (c.ms 2) := h.same ▸ r1
  refine ⟨r0, r1, r2, by rw [rest_ask r1 hg], ⟨h.n, h.t, h.bn, ?_, ?_, ?_, fun q => by omega, fun q => by omega, fun q => by omega⟩⟩
  · show c.ms 0 = runL (c.ms 0) g 0
    unfold runL lisM
    rw [if_pos (by omega), if_pos rfl]
  · show ((c.ms 1).ask g).1 = runS (c.ms 1) g 0
    rw [rest_ask r1 hg]
    unfold runS winM
    rw [if_pos (by omega), if_pos (by omega)]
  · show c.ms 2 = runL (c.ms 2) g 0
    unfold runL lisM
    rw [if_pos (by omega), if_pos rfl]
theorem T2.step {g : Fm} (hg : g.Good) {q0 q1 q2 : M} (r0 : Rest q0) (r1 : Rest q1) (r2 : Rest q2) {j : Nat} {c : Gc} (h : T2 g q0 q1 q2 j c) : T2 g q0 q1 q2 (j + 1) (c.step false) := by
  have hl := ack_long hg
  have hn := h.n
  have d1 := run_and hg r1 r0 j
  have d2 := run_and hg r1 r2 j
  have hb : (allD c.ms c.n != (c.t || false)) = runC g j := by
    rw [hn, allD_three, h.t, h.m0, h.m1, h.m2]
    cases e1 : (runS q1 g j).drive <;> cases e2 : (runL q0 g j).drive <;> cases e3 : (runL q2 g j).drive <;> simp_all
  obtain ⟨p1, p2, _, _⟩ := step_of (c := c) (flip := false) hb (ms' := fun j' => ((c.ms j').sample (runC g j)).1) (E := fun j' => ((c.ms j').sample (runC g j)).2) (fun j' _ => rfl)
  have s0 := runL_step hg r0 j
  have s1 := runS_step hg r1 j
  have s2 := runL_step hg r2 j
  have lL : ∀ (h : List Ev), (g.ack.length ≤ j + 1 → h.getLast? = some ⟨2, g, 0⟩) → g.ack.length ≤ j + 1 + 1 → (keep (h ++ (if j < g.ack.length then hrE g j else []))).getLast? = some ⟨2, g, 0⟩ := by
    intro h hh hj
    by_cases e : j + 2 = g.ack.length
    · have : (if j < g.ack.length then hrE g j else []) = [⟨2, g, 0⟩] := by rw [if_pos (by omega)]; unfold hrE; rw [if_neg (by omega), if_pos e]
      rw [this]
      exact keep_last _
    · have : (if j < g.ack.length then hrE g j else []) = [] := by
        split
        · unfold hrE; rw [if_neg (by omega), if_neg e]
        · rfl
      rw [this]
      exact keep_still (hh (by omega))
  refine ⟨hn, rfl, by show c.bn + 1 = 400 + (j + 1); rw [h.bn]; omega, ?_, ?_, ?_, fun q => ?_, fun q => ?_, fun q => ?_⟩
  · rw [p1 0 (by omega), h.m0, s0]
  · rw [p1 1 (by omega), h.m1, s1]
  · rw [p1 2 (by omega), h.m2, s2]
  · rw [p2 0 (by omega), h.m0, s0]
    exact lL _ h.l0 q
  · rw [p2 1 (by omega), h.m1, s1]
    by_cases e : j + 1 = g.ack.length
    · have : (if j < g.ack.length then wiE g j else []) = [⟨1, g, 0⟩] := by rw [if_pos (by omega)]; unfold wiE; rw [if_neg (by omega), if_pos e]
      rw [this]
      exact keep_last _
    · have : (if j < g.ack.length then wiE g j else []) = [] := if_neg (by omega)
      rw [this]
      exact keep_still (h.l1 (by omega))
  · rw [p2 2 (by omega), h.m2, s2]
    exact lL _ h.l2 q
end Go.Proofs.Ytpkpnaedacefaaa.WireP
namespace Go.Proofs.Ytpkpnaedacefaaa.WireL
set_option linter.unusedVariables false
set_option linter.unusedSimpArgs false
open Go Go.RowKit Go.Proofs.Ytpkpnaedacefaaa.Lib Go.Proofs.Ytpkpnaedacefaaa.Bits Go.Proofs.Ytpkpnaedacefaaa.BitsW Go.Proofs.Ytpkpnaedacefaaa.StuffW Go.Proofs.Ytpkpnaedacefaaa.Frame Go.Proofs.Ytpkpnaedacefaaa.FrameW Go.Proofs.Ytpkpnaedacefaaa.Code Go.Proofs.Ytpkpnaedacefaaa.CodeW Go.Proofs.Ytpkpnaedacefaaa.Mac Go.Proofs.Ytpkpnaedacefaaa.MacW Go.Proofs.Ytpkpnaedacefaaa.MacL Go.Proofs.Ytpkpnaedacefaaa.RefW Go.Proofs.Ytpkpnaedacefaaa.WireN Go.Proofs.Ytpkpnaedacefaaa.WireW Go.Proofs.Ytpkpnaedacefaaa.WireP Go.Proofs.Ytpkpnaedacefaaa.PrintMore
attribute [local go_sem] max2_int min2_int max_two min_two
attribute [local go_sem high] eqA24
theorem WB.fr2 {w W : World} {B g p p2 : Nat} {f f2 : Fm} {ps : List (Nat × Fm)} {c : Gc} (h : WB w W B g ((p, f) :: (p2, f2) :: ps) c) : W.cell? ⟨p2, 0, none⟩ = some (.bool f2.e) ∧ W.cell? ⟨p2, 1, none⟩ = some (.int .u32 f2.i) ∧ W.cell? ⟨p2, 2, none⟩ = some (.bool f2.r) ∧ W.cell? ⟨p2, 3, none⟩ = some (.string f2.d) :=
  box_fr (h.box (p2, f2) (List.mem_cons_of_mem _ List.mem_cons_self))
theorem last_at {W : World} {b : Nat} {v : Value} {L : List Ev} {x : Ev} (h : Evs W b v L) (e : L.getLast? = some x) : ∃ (q n cap : Nat), v = .slice (some ⟨q, 0, none⟩) (n + 1) cap ∧ n + 1 = L.length ∧ L[n]? = some x := by
  have hne : L ≠ [] := fun q => by rw [q] at e; cases e
  have hp : 0 < L.length := List.length_pos_iff.2 hne
  obtain ⟨y, L', rfl⟩ : ∃ y L', L = y :: L' := by
    cases L with
    | nil => exact absurd rfl hne
    | cons y L' => exact ⟨y, L', rfl⟩
  obtain ⟨q, cap, rfl, _⟩ := evs_el h
  refine ⟨q, L'.length, cap, rfl, rfl, ?_⟩
  rw [List.getLast?_eq_getElem?] at e
  exact e
/-- One of a row of events, whole. -/
structure E6 (W : World) (q j : Nat) (x : Ev) : Prop where
  all : ∀ i u, i < 6 → (ec x)[i]? = some u → W.cell? ⟨q, j * 6 + i, none⟩ = some u
theorem evs_six {W : World} {b n cap q : Nat} {L : List Ev} (h : Evs W b (.slice (some ⟨q, 0, none⟩) n cap) L) {j : Nat} {x : Ev} (hx : L[j]? = some x) : E6 W q j x := by
  obtain ⟨a', cap', e, hc⟩ := evs_slice h
  injection e with e1 e2 e3
  subst e1
  refine ⟨fun i u hi hu => ?_⟩
  obtain ⟨q', e, _, hh⟩ := hc (j * 6 + i) u ((ec_at hx i hi).trans hu)
  injection e with e
  injection e with e
  subst e
  exact hh
/-- The region that lays three events aside. -/
structure R24 (W0 : World) (xs : Nat → Ev) (b : Nat → Bool) (γ : Nat → Nat) (W : World) : Prop where
  bl : Below W0.heap.size W0 W
  al : ∀ k, k < 3 → b (18 + k) = true → W0.heap.size ≤ γ (18 + k) ∧ Blk W (γ (18 + k)) 34 (if b (21 + k) then ec (xs k) else ec ⟨0, Fm.zero, 0⟩)
  df : ∀ k k', k < 3 → k' < 3 → b (18 + k) = true → b (18 + k') = true → γ (18 + k) = γ (18 + k') → k = k'
  or : ∀ k, k < 3 → b (21 + k) = true → b (18 + k) = true
theorem R24.up {W0 : World} {xs : Nat → Ev} {b : Nat → Bool} {γ : Nat → Nat} {W : World} (h : R24 W0 xs b γ W) (i : Nat) (hi : i < 18) : R24 W0 xs (Lib.up b i) γ W := by
  have e : ∀ k, 18 ≤ k → Lib.up b i k = b k := fun k hk => up_of_ne (by omega)
  exact ⟨h.bl, fun k hk q => by rw [e (18 + k) (by omega)] at q; rw [e (21 + k) (by omega)]; exact h.al k hk q, fun k k' hk hk' q q' => by rw [e (18 + k) (by omega)] at q; rw [e (18 + k') (by omega)] at q'; exact h.df k k' hk hk' q q', fun k hk q => by rw [e (21 + k) (by omega)] at q; rw [e (18 + k) (by omega)]; exact h.or k hk q⟩
theorem R24.alloc {W0 : World} {xs : Nat → Ev} {b : Nat → Bool} {γ : Nat → Nat} {W : World} (h : R24 W0 xs b γ W) (k : Nat) (hk : k < 3) (hb : b (21 + k) = false) : R24 W0 xs (Lib.up b (18 + k)) (Lib.upd γ (18 + k) W.heap.size) (W.alloc (.cells (ec ⟨0, Fm.zero, 0⟩).toArray 34)) := by
  have eu : ∀ i, i ≠ 18 + k → Lib.up b (18 + k) i = b i := fun i hi => up_of_ne hi
  have gu : ∀ i, i ≠ 18 + k → Lib.upd γ (18 + k) W.heap.size i = γ i := fun i hi => by unfold Lib.upd; rw [if_neg hi]
  have gs : Lib.upd γ (18 + k) W.heap.size (18 + k) = W.heap.size := by unfold Lib.upd; rw [if_pos rfl]
  refine ⟨h.bl.alloc h.bl.size _, fun j hj q => ?_, fun j j' hj hj' q q' e => ?_, fun j hj q => ?_⟩
  · by_cases hjk : j = k
    · subst hjk
      rw [gs, eu (21 + j) (by omega), hb]
      exact ⟨h.bl.size, Blk.new W _ _⟩
    · rw [eu (18 + j) (by omega)] at q
      rw [gu (18 + j) (by omega), eu (21 + j) (by omega)]
      obtain ⟨q1, q2⟩ := h.al j hj q
      exact ⟨q1, q2.alloc _⟩
  · by_cases h1 : j = k
    · by_cases h2 : j' = k
      · omega
      · subst h1
        rw [eu (18 + j') (by omega)] at q'
        rw [gs, gu (18 + j') (by omega)] at e
        have := (h.al j' hj' q').2.lt
        omega
    · rw [eu (18 + j) (by omega)] at q
      by_cases h2 : j' = k
      · subst h2
        rw [gs, gu (18 + j) (by omega)] at e
        have := (h.al j hj q).2.lt
        omega
      · rw [eu (18 + j') (by omega)] at q'
        rw [gu (18 + j) (by omega), gu (18 + j') (by omega)] at e
        exact h.df j j' hj hj' q q' e
  · by_cases hjk : j = k
    · subst hjk; exact up_at _ _
    · rw [eu (21 + j) (by omega)] at q
      rw [eu (18 + j) (by omega)]
      exact h.or j hj q
def set6 (W : World) (g : Nat) (x : Ev) : World := (((((W.setCell ⟨g, 0, none⟩ (.int .i64 x.kind)).setCell ⟨g, 1, none⟩ (.bool x.f.e)).setCell ⟨g, 2, none⟩ (.int .u32 x.f.i)).setCell ⟨g, 3, none⟩ (.bool x.f.r)).setCell ⟨g, 4, none⟩ (.string x.f.d)).setCell ⟨g, 5, none⟩ (.int .i64 x.err)
theorem set6_blk {W : World} {g : Nat} {y x : Ev} (h : Blk W g 34 (ec y)) : Blk (set6 W g x) g 34 (ec x) := by
  have := (((((h.set 0 (.int .i64 x.kind)).set 1 (.bool x.f.e)).set 2 (.int .u32 x.f.i)).set 3 (.bool x.f.r)).set 4 (.string x.f.d)).set 5 (.int .i64 x.err)
  exact this
theorem set6_far {W : World} {g g' : Nat} {T : TypeId} {cs : List Value} {x : Ev} (h : Blk W g' T cs) (hne : g' ≠ g) : Blk (set6 W g x) g' T cs :=
  (((((h.far (p := ⟨g, 0, none⟩) hne _).far (p := ⟨g, 1, none⟩) hne _).far (p := ⟨g, 2, none⟩) hne _).far (p := ⟨g, 3, none⟩) hne _).far (p := ⟨g, 4, none⟩) hne _).far (p := ⟨g, 5, none⟩) hne _
theorem set6_below {W0 W : World} {B g : Nat} {x : Ev} (h : Below B W0 W) (hg : B ≤ g) : Below B W0 (set6 W g x) :=
  (((((h.setCell (p := ⟨g, 0, none⟩) hg _).setCell (p := ⟨g, 1, none⟩) hg _).setCell (p := ⟨g, 2, none⟩) hg _).setCell (p := ⟨g, 3, none⟩) hg _).setCell (p := ⟨g, 4, none⟩) hg _).setCell (p := ⟨g, 5, none⟩) hg _
theorem R24.store {W0 : World} {xs : Nat → Ev} {b : Nat → Bool} {γ : Nat → Nat} {W : World} (h : R24 W0 xs b γ W) (k : Nat) (hk : k < 3) (h18 : b (18 + k) = true) (hb : b (21 + k) = false) : R24 W0 xs (Lib.up b (21 + k)) γ (set6 W (γ (18 + k)) (xs k)) := by
  have eu : ∀ i, i ≠ 21 + k → Lib.up b (21 + k) i = b i := fun i hi => up_of_ne hi
  obtain ⟨a1, a2⟩ := h.al k hk h18
  rw [hb] at a2
  refine ⟨set6_below h.bl a1, fun j hj q => ?_, fun j j' hj hj' q q' e => ?_, fun j hj q => ?_⟩
  · by_cases hjk : j = k
    · subst hjk
      rw [show Lib.up b (21 + j) (21 + j) = true from up_at _ _]
      exact ⟨a1, set6_blk (y := ⟨0, Fm.zero, 0⟩) a2⟩
    · rw [eu (18 + j) (by omega)] at q
      rw [eu (21 + j) (by omega)]
      obtain ⟨q1, q2⟩ := h.al j hj q
      exact ⟨q1, set6_far q2 (fun e => hjk (h.df j k hj hk q h18 e))⟩
  · rw [eu (18 + j) (by omega)] at q
    rw [eu (18 + j') (by omega)] at q'
    exact h.df j j' hj hj' q q' e
  · rw [eu (18 + j) (by omega)]
    by_cases hjk : j = k
    · subst hjk; exact h18
    · rw [eu (21 + j) (by omega)] at q
      exact h.or j hj q
set_option maxRecDepth 100000 in
set_option maxHeartbeats 6400000 in
theorem turned_calls (f g : Fm) (a : Int) (w : World) (hf : f.wf) (hg : g.wf) (ha : 0 ≤ a ∧ a < 256) : Calls Try.prog 6 #[.agg #[.bool f.e, .int .u32 f.i, .bool f.r, .string f.d], .agg #[.bool g.e, .int .u32 g.i, .bool g.r, .string g.d], .int .u8 a] w fun e w' => e = .returned (.bool true) ∧ Below w.heap.size w w' := by
  obtain ⟨f0, f1, f2, f3⟩ := f
  obtain ⟨g0, g1, g2, g3⟩ := g
  have HW := hid hf
  have HV := hid hg
  obtain ⟨at_, hat⟩ : ∃ at_ : Nat, a = (at_ : Int) := ⟨a.toNat, by omega⟩
  subst hat
  have HA := hid (show at_ ≤ 255 by omega)
  obtain ⟨wf1, hw1⟩ : ∃ x : World, x = w.alloc (.cells #[.bool f0, .int .u32 f1, .bool f2, .string f3] 24) := ⟨_, rfl⟩
  have hb1 : Below w.heap.size w wf1 := by rw [hw1]; exact (Below.refl w.heap.size w).alloc (Nat.le_refl _) _
  have hx1 : Blk wf1 w.heap.size 24 (fc ⟨f0, f1, f2, f3⟩) := by rw [hw1]; exact Blk.new w (fc ⟨f0, f1, f2, f3⟩) _
  have hs1 : wf1.heap.size = w.heap.size + 1 := by rw [hw1]; simp
  have hb2 : Below w.heap.size w (wf1.alloc (.cells #[.bool g0, .int .u32 g1, .bool g2, .string g3] 24)) := hb1.alloc hb1.size _
  have hx2 : Blk (wf1.alloc (.cells #[.bool g0, .int .u32 g1, .bool g2, .string g3] 24)) wf1.heap.size 24 (fc ⟨g0, g1, g2, g3⟩) := Blk.new wf1 (fc ⟨g0, g1, g2, g3⟩) _
  have hx1 := hx1.alloc (.cells #[.bool g0, .int .u32 g1, .bool g2, .string g3] 24)
  rw [hw1] at hb2 hx1 hx2
  have hsz : (w.alloc (.cells #[.bool f0, .int .u32 f1, .bool f2, .string f3] 24)).heap.size = w.heap.size + 1 := by simp
  rw [hsz] at hx2
  have HB := hid hb2
  have HX := hid hx1
  have HY := hid hx2
  clear hb1 hb2 hx1 hx2 hs1 hw1 hf hg hsz ha
  simp only
  go_enter Try.func6, Try.ntmps6
  go_wp2_with fail
  clear hx1
  with_reducible refine (known_calls _).mono ?_
  rintro y w1 ⟨rfl, hb⟩
  have HX1 := hid (HX.out.below hb)
  have HY1 := hid (HY.out.below hb)
  have HB1 := hid (HB.out.trans (hb.mono HB.out.size))
  clear hb HX HY HB
  generalize hp : w.heap.size = p at HX1 HY1
  have HP := hid hp
  clear hp
  obtain ⟨x0, x1, x2, x3⟩ := box_fr HX1.out
  obtain ⟨z0, z1, z2, z3⟩ := box_fr HY1.out
  simp only at x0 x1 x2 x3 z0 z1 z2 z3
  by_cases h8 : 8 < f3.size
  · have u0 : (8 < (f3.size : Int)) = True := eq_true (by omega)
    have u1 : decide (8 < (f3.size : Int)) = true := decide_eq_true (by omega)
    have u2 : (8 < f3.size) = True := eq_true h8
    clear h8
    go_wp2_with fail
    go_ret
    exact ⟨rfl, HP.out ▸ HB1.out⟩
  · have u0 : (8 < (f3.size : Int)) = False := eq_false (by omega)
    have u1 : decide (8 < (f3.size : Int)) = false := decide_eq_false (by omega)
    have u2 : (8 < f3.size) = False := eq_false h8
    clear h8
    by_cases h8 : 8 < g3.size
    · have v0 : (8 < (g3.size : Int)) = True := eq_true (by omega)
      have v1 : decide (8 < (g3.size : Int)) = true := decide_eq_true (by omega)
      have v2 : (8 < g3.size) = True := eq_true h8
      clear h8
      go_wp2_with fail
      go_ret
      exact ⟨rfl, HP.out ▸ HB1.out⟩
    · have v0 : (8 < (g3.size : Int)) = False := eq_false (by omega)
      have v1 : decide (8 < (g3.size : Int)) = false := decide_eq_false (by omega)
      have v2 : (8 < g3.size) = False := eq_false h8
      clear h8
      go_wp2_with fail
      refine (ris_calls f0 f1 f2 f3 w1).mono ?_
      rintro y w2 ⟨rfl, hb⟩
      have HX2 := hid (HX1.out.below hb)
      have HY2 := hid (HY1.out.below hb)
      have HB2 := hid (HB1.out.trans (hb.mono (HP.out ▸ HB1.out.size)))
      clear hb HX1 HY1 HB1 x0 x1 x2 x3 z0 z1 z2 z3
      obtain ⟨x0, x1, x2, x3⟩ := box_fr HX2.out
      obtain ⟨z0, z1, z2, z3⟩ := box_fr HY2.out
      simp only at x0 x1 x2 x3 z0 z1 z2 z3
      cases hok : okF f0 f1 f2 f3
      · go_wp2_with fail
        go_ret
        exact ⟨rfl, HP.out ▸ HB2.out⟩
      · have HG := hid (show Fm.Good ⟨f0, f1, f2, f3⟩ from ⟨hok, HW.out⟩)
        clear hok
        go_wp2_with fail
        refine (ris_calls g0 g1 g2 g3 w2).mono ?_
        rintro y w3 ⟨rfl, hb⟩
        have HX3 := hid (HX2.out.below hb)
        have HY3 := hid (HY2.out.below hb)
        have HB3 := hid (HB2.out.trans (hb.mono (HP.out ▸ HB2.out.size)))
        clear hb HX2 HY2 HB2 x0 x1 x2 x3 z0 z1 z2 z3
        cases hok : okF g0 g1 g2 g3
        · go_wp2_with fail
          go_ret
          exact ⟨rfl, HP.out ▸ HB3.out⟩
        · have HGG := hid (show Fm.Good ⟨g0, g1, g2, g3⟩ from ⟨hok, HV.out⟩)
          clear hok u0 u1 u2 v0 v1 v2
          go_wp2_with fail
          refine (wb_new (ps := [(p, ⟨f0, f1, f2, f3⟩), (p + 1, ⟨g0, g1, g2, g3⟩)]) 3 HB3.out (fun x hx => by
            rcases List.mem_cons.1 hx with rfl | hx
            · exact HX3.out
            · obtain rfl := List.mem_singleton.1 hx; exact HY3.out)).mono ?_
          rintro y w4 ⟨g, rfl, h4⟩
          have h4 : WB w w4 w3.heap.size g [(p, ⟨f0, f1, f2, f3⟩), (p + 1, ⟨g0, g1, g2, g3⟩)] (Gc.new 3) := h4
          have H4 := hid h4
          generalize w3.heap.size = B at H4
          clear h4 HX3 HY3 HB3
          obtain ⟨x0, x1, x2, x3⟩ := WB.fr H4.out
          simp only at x0 x1 x2 x3
          go_wp2_with fail
          obtain ⟨o1, o2⟩ := t1_start HG.out at_
          have HO1 := hid o1
          have HO2 := hid o2
          clear o1 o2
          refine (wb_ask H4.out 0 (by decide) ⟨f0, f1, f2, f3⟩ HW.out).mono ?_
          rintro y w5 ⟨rfl, h5⟩
          rw [HO2.out]
          have H5 := hid h5
          clear h5 H4 HO2 x0 x1 x2 x3
          go_wp2_with fail
          go_loopw [8] (fun i wr => ∃ (j : Nat) (c : Gc), j ≤ 400 ∧ i = .int .i64 j ∧ WB w wr B g [(p, ⟨f0, f1, f2, f3⟩), (p + 1, ⟨g0, g1, g2, g3⟩)] c ∧ T1 ⟨f0, f1, f2, f3⟩ at_ j c) (fun i _ => 400 - (intOf i).toNat)
          case atStart => exact ⟨0, _, Nat.zero_le _, rfl, H5.out, HO1.out⟩
          case round =>
            clear H5 HO1
            obtain ⟨j, c, hj, rfl, hb, ho⟩ := hrel
            have H6 := hid hb
            have HO := hid ho
            clear hb ho
            by_cases hlt : j < 400
            · have u0 : ((j : Int) < 400) = True := eq_true (by omega)
              have u1 : decide ((j : Int) < 400) = true := decide_eq_true (by omega)
              have u2 : IntKind.i64.wrap ((j : Int) + 1) = ((j + 1 : Nat) : Int) := by rw [IntKind.wrap_i64]; omega
              have u3 : (j < 400) = True := eq_true hlt
              have HBN := hid (show c.bn ≤ 1000000 by rw [HO.out.bn]; omega)
              have HO7 := hid (HO.out.step HG.out)
              cases he : (j == at_)
              · rw [he] at HO7
                have hne : j ≠ at_ := fun e => by rw [e] at he; simp at he
                have v0 : ((j : Int) == (at_ : Int)) = false := by simp; omega
                have v1 : ((j : Int) = (at_ : Int)) = False := eq_false (by omega)
                have v2 : IntKind.i64.wrap (at_ : Int) = (at_ : Int) := by have := HA.out; rw [IntKind.wrap_i64]; omega
                clear he hne
                go_wp2_with fail
                refine (wb_step H6.out false HBN.out).mono ?_
                rintro y w7 ⟨v, rfl, h7, _⟩
                have H7 := hid h7
                clear h7 H6
                go_wp2_with fail
                exact ⟨⟨j + 1, _, by omega, rfl, H7.out, HO7.out⟩, by simp [intOf]; omega⟩
              · rw [he] at HO7
                have hee : j = at_ := by simpa using he
                have v0 : ((j : Int) == (at_ : Int)) = true := by simp; omega
                have v1 : ((j : Int) = (at_ : Int)) = True := eq_true (by omega)
                have v2 : IntKind.i64.wrap (at_ : Int) = (at_ : Int) := by have := HA.out; rw [IntKind.wrap_i64]; omega
                clear he hee
                go_wp2_with fail
                refine (wb_step H6.out true HBN.out).mono ?_
                rintro y w7 ⟨v, rfl, h7, _⟩
                have H7 := hid h7
                clear h7 H6
                go_wp2_with fail
                exact ⟨⟨j + 1, _, by omega, rfl, H7.out, HO7.out⟩, by simp [intOf]; omega⟩
            · obtain rfl : j = 400 := by omega
              obtain ⟨r0, r1, r2, a0, t0⟩ := t2_start HGG.out HG.out HA.out HO.out
              have HR0 := hid r0
              have HR1 := hid r1
              have HR2 := hid r2
              have HA0 := hid a0
              have HT0 := hid t0
              clear r0 r1 r2 a0 t0
              have HRR := hid (show ∀ k, k < 3 → WireP.Rest (c.ms k) from fun k hk => by
                match k, hk with
                | 0, _ => exact HR0.out
                | 1, _ => exact HR1.out
                | 2, _ => exact HR2.out)
              go_wp2_with fail
              simp only [Int.cast_ofNat_Int]
              go_loopw [9] (fun i wr => ∃ k : Nat, k ≤ 3 ∧ i = .int .i64 k ∧ WB w wr B g [(p, ⟨f0, f1, f2, f3⟩), (p + 1, ⟨g0, g1, g2, g3⟩)] c) (fun i _ => 3 - (intOf i).toNat)
              case atStart => exact ⟨0, Nat.zero_le _, rfl, H6.out⟩
              case round =>
                clear H6
                obtain ⟨k, hk, rfl, hb⟩ := hrel
                have H6 := hid hb
                clear hb
                by_cases hkt : k < 3
                · have t0 : ((k : Int) < 3) = True := eq_true (by omega)
                  have t1 : decide ((k : Int) < 3) = true := decide_eq_true (by omega)
                  have t2 : IntKind.i64.wrap ((k : Int) + 1) = ((k + 1 : Nat) : Int) := by rw [IntKind.wrap_i64]; omega
                  have t3 : (k < 3) = True := eq_true hkt
                  have HKN := hid (show k < c.n by rw [HO.out.n]; exact hkt)
                  have HS0 := hid (show ((c.ms k).st == 0) = true by rw [(HRR.out k hkt).st]; rfl)
                  have HS1 := hid (HRR.out k hkt).waits
                  go_wp2_with fail
                  with_reducible refine (wb_mac H6.out k HKN.out).mono ?_
                  rintro y w7 ⟨q, rfl, hq, rfl⟩
                  have HQ := hid hq
                  clear hq
                  go_wp2_with fail
                  with_reducible refine (nf_idle HQ.out).mono ?_
                  rintro y w7 ⟨rfl, rfl⟩
                  rw [HS0.out]
                  clear HQ
                  go_wp2_with fail
                  with_reducible refine (wb_mac H6.out k HKN.out).mono ?_
                  rintro y w7 ⟨q, rfl, hq, rfl⟩
                  have HQ := hid hq
                  clear hq
                  go_wp2_with fail
                  with_reducible refine (nf_busy HQ.out).mono ?_
                  rintro y w7 ⟨rfl, rfl⟩
                  rw [HS1.out]
                  clear HQ
                  go_wp2_with fail
                  exact ⟨⟨k + 1, by omega, rfl, H6.out⟩, by simp [intOf]; omega⟩
                · obtain rfl : k = 3 := by omega
                  obtain ⟨z0, z1, z2, z3⟩ := WB.fr2 H6.out
                  simp only at z0 z1 z2 z3
                  go_wp2_with fail
                  refine (wb_ask H6.out 1 (by rw [HO.out.n]; decide) ⟨g0, g1, g2, g3⟩ HV.out).mono ?_
                  rintro y w7 ⟨rfl, h7⟩
                  rw [HA0.out]
                  have H7 := hid h7
                  clear h7 H6 z0 z1 z2 z3 HRR HA0
                  generalize c.ms 0 = q0 at HR0 HT0
                  generalize c.ms 1 = q1 at HR1 HT0
                  generalize c.ms 2 = q2 at HR2 HT0
                  go_wp2_with fail
                  try simp only [Int.cast_ofNat_Int]
                  go_loopw [10] (fun i wr => ∃ (j : Nat) (c : Gc), j ≤ 200 ∧ i = .int .i64 j ∧ WB w wr B g [(p, ⟨f0, f1, f2, f3⟩), (p + 1, ⟨g0, g1, g2, g3⟩)] c ∧ T2 ⟨g0, g1, g2, g3⟩ q0 q1 q2 j c) (fun i _ => 200 - (intOf i).toNat)
                  case atStart => exact ⟨0, _, Nat.zero_le _, rfl, H7.out, HT0.out⟩
                  case round =>
                    clear H7 HT0 HO
                    obtain ⟨j, c, hj, rfl, hb, ho⟩ := hrel
                    have H6 := hid hb
                    have HO := hid ho
                    clear hb ho
                    by_cases hlt : j < 200
                    · have u0 : ((j : Int) < 200) = True := eq_true (by omega)
                      have u1 : decide ((j : Int) < 200) = true := decide_eq_true (by omega)
                      have u2 : IntKind.i64.wrap ((j : Int) + 1) = ((j + 1 : Nat) : Int) := by rw [IntKind.wrap_i64]; omega
                      have u3 : (j < 200) = True := eq_true hlt
                      have HBN := hid (show c.bn ≤ 1000000 by rw [HO.out.bn]; omega)
                      have HO7 := hid (HO.out.step HGG.out HR0.out HR1.out HR2.out)
                      go_wp2_with fail
                      refine (wb_step H6.out false HBN.out).mono ?_
                      rintro y w7 ⟨v, rfl, h7, _⟩
                      have H7 := hid h7
                      clear h7 H6
                      go_wp2_with fail
                      exact ⟨⟨j + 1, _, by omega, rfl, H7.out, HO7.out⟩, by simp [intOf]; omega⟩
                    · obtain rfl : j = 200 := by omega
                      have hl := ack_short HGG.out
                      have HL0 := hid (HO.out.l0 (by omega))
                      have HL1 := hid (HO.out.l1 (by omega))
                      have HL2 := hid (HO.out.l2 (by omega))
                      have EN := hid HO.out.n
                      clear hl HO
                      go_wp2_with fail
                      refine (wb_heard H6.out 0 (by rw [EN.out]; decide)).mono ?_
                      rintro y w7 ⟨v, rfl, h7, _, h7'⟩
                      obtain ⟨s1, n1, k1, rfl, m1, l1⟩ := last_at h7 HL0.out
                      have H7 := hid h7'
                      have HE1 := hid (show ∃ b, Evs w7 b (.slice (some ⟨s1, 0, none⟩) (n1 + 1) k1) (c.hs 0) from ⟨_, h7⟩)
                      have HM1 := hid (show n1 + 1 ≤ 1000 by rw [m1]; obtain ⟨F, q, _⟩ := H7.out.out; exact Nat.le_trans (q.short 0 (by rw [EN.out]; decide)) (by decide))
                      have HN1 := hid l1
                      clear h7 h7' H6 m1 l1 HL0
                      go_wp2_with fail
                      refine (wb_heard H7.out 1 (by rw [EN.out]; decide)).mono ?_
                      rintro y w8 ⟨v, rfl, h8, k8, h8'⟩
                      obtain ⟨s2, n2, k2, rfl, m2, l2⟩ := last_at h8 HL1.out
                      have H8 := hid h8'
                      have HE1 := hid (show ∃ b, Evs w8 b (.slice (some ⟨s1, 0, none⟩) (n1 + 1) k1) (c.hs 0) by obtain ⟨b, q⟩ := HE1.out; exact ⟨b, evs_below q k8⟩)
                      have HE2 := hid (show ∃ b, Evs w8 b (.slice (some ⟨s2, 0, none⟩) (n2 + 1) k2) (c.hs 1) from ⟨_, h8⟩)
                      have HM2 := hid (show n2 + 1 ≤ 1000 by rw [m2]; obtain ⟨F, q, _⟩ := H8.out.out; exact Nat.le_trans (q.short 1 (by rw [EN.out]; decide)) (by decide))
                      have HN2 := hid l2
                      clear h8 h8' k8 H7 m2 l2 HL1
                      go_wp2_with fail
                      refine (wb_heard H8.out 2 (by rw [EN.out]; decide)).mono ?_
                      rintro y w9 ⟨v, rfl, h9, k9, h9'⟩
                      obtain ⟨s3, n3, k3, rfl, m3, l3⟩ := last_at h9 HL2.out
                      have H9 := hid h9'
                      have HE1 := hid (show ∃ b, Evs w9 b (.slice (some ⟨s1, 0, none⟩) (n1 + 1) k1) (c.hs 0) by obtain ⟨b, q⟩ := HE1.out; exact ⟨b, evs_below q k9⟩)
                      have HE2 := hid (show ∃ b, Evs w9 b (.slice (some ⟨s2, 0, none⟩) (n2 + 1) k2) (c.hs 1) by obtain ⟨b, q⟩ := HE2.out; exact ⟨b, evs_below q k9⟩)
                      have HE3 := hid (show ∃ b, Evs w9 b (.slice (some ⟨s3, 0, none⟩) (n3 + 1) k3) (c.hs 2) from ⟨_, h9⟩)
                      have HM3 := hid (show n3 + 1 ≤ 1000 by rw [m3]; obtain ⟨F, q, _⟩ := H9.out.out; exact Nat.le_trans (q.short 2 (by rw [EN.out]; decide)) (by decide))
                      have HN3 := hid l3
                      clear h9 h9' k9 H8 m3 l3 HL2
                      go_wp2_with fail
                      refine region_text (by kernel_rfl) (by kernel_rfl) (R24 w9 (fun k => ⟨if k = 1 then 1 else 2, ⟨g0, g1, g2, g3⟩, 0⟩)) ⟨(Below.refl _ _).drew, fun k hk e => absurd e Bool.false_ne_true, fun k k' hk hk' e => absurd e Bool.false_ne_true, fun k hk e => absurd e Bool.false_ne_true⟩ ?_
                      refine t_pure (.slice (some ⟨s1, 0, none⟩) (n1 + 1) k1) (fun _ => rfl) (fun b γ W h => h.up _ (by decide)) (fun b γ W h _ => by go_simp) ?_
                      refine t_pure (.slice (some ⟨s1, 0, none⟩) (n1 + 1) k1) (fun _ => rfl) (fun b γ W h => h.up _ (by decide)) (fun b γ W h _ => by go_simp) ?_
                      refine t_pure (.int .i64 ((n1 + 1 : Nat) : Int)) (fun _ => rfl) (fun b γ W h => h.up _ (by decide)) (fun b γ W h _ => by go_simp) ?_
                      refine t_pure (.int .i64 (n1 : Int)) (fun _ => rfl) (fun b γ W h => h.up _ (by decide)) (fun b γ W h _ => by have q := HM1.out; have q2 : IntKind.i64.wrap (n1 : Int) = (n1 : Int) := (by rw [IntKind.wrap_i64]; omega); go_simp) ?_
                      refine t_pure (.pointer (some ⟨s1, n1 * 6, none⟩)) (fun _ => rfl) (fun b γ W h => h.up _ (by decide)) (fun b γ W h _ => by have q3 : ((n1 : Int) + 1 ≤ n1) = False := eq_false (by omega); go_simp) ?_
                      refine t_pure (.agg #[.int .i64 2, .bool g0, .int .u32 g1, .bool g2, .string g3, .int .i64 0]) (fun _ => rfl) (fun b γ W h => h.up _ (by decide)) (fun b γ W h _ => ?_) ?_
                      · obtain ⟨bb, hbb⟩ := HE1.out
                        have y := (evs_six (evs_below hbb h.bl) HN1.out).all
                        have y0 := y 0 _ (by decide) rfl
                        have y1 := y 1 _ (by decide) rfl
                        have y2 := y 2 _ (by decide) rfl
                        have y3 := y 3 _ (by decide) rfl
                        have y4 := y 4 _ (by decide) rfl
                        have y5 := y 5 _ (by decide) rfl
                        simp only [Nat.add_zero] at y0 y1 y2 y3 y4 y5
                        clear y hbb h
                        go_simp
                      refine t_pure (.slice (some ⟨s2, 0, none⟩) (n2 + 1) k2) (fun _ => rfl) (fun b γ W h => h.up _ (by decide)) (fun b γ W h _ => by go_simp) ?_
                      refine t_pure (.slice (some ⟨s2, 0, none⟩) (n2 + 1) k2) (fun _ => rfl) (fun b γ W h => h.up _ (by decide)) (fun b γ W h _ => by go_simp) ?_
                      refine t_pure (.int .i64 ((n2 + 1 : Nat) : Int)) (fun _ => rfl) (fun b γ W h => h.up _ (by decide)) (fun b γ W h _ => by go_simp) ?_
                      refine t_pure (.int .i64 (n2 : Int)) (fun _ => rfl) (fun b γ W h => h.up _ (by decide)) (fun b γ W h _ => by have q := HM2.out; have q2 : IntKind.i64.wrap (n2 : Int) = (n2 : Int) := (by rw [IntKind.wrap_i64]; omega); go_simp) ?_
                      refine t_pure (.pointer (some ⟨s2, n2 * 6, none⟩)) (fun _ => rfl) (fun b γ W h => h.up _ (by decide)) (fun b γ W h _ => by have q3 : ((n2 : Int) + 1 ≤ n2) = False := eq_false (by omega); go_simp) ?_
                      refine t_pure (.agg #[.int .i64 1, .bool g0, .int .u32 g1, .bool g2, .string g3, .int .i64 0]) (fun _ => rfl) (fun b γ W h => h.up _ (by decide)) (fun b γ W h _ => ?_) ?_
                      · obtain ⟨bb, hbb⟩ := HE2.out
                        have y := (evs_six (evs_below hbb h.bl) HN2.out).all
                        have y0 := y 0 _ (by decide) rfl
                        have y1 := y 1 _ (by decide) rfl
                        have y2 := y 2 _ (by decide) rfl
                        have y3 := y 3 _ (by decide) rfl
                        have y4 := y 4 _ (by decide) rfl
                        have y5 := y 5 _ (by decide) rfl
                        simp only [Nat.add_zero] at y0 y1 y2 y3 y4 y5
                        clear y hbb h
                        go_simp
                      refine t_pure (.slice (some ⟨s3, 0, none⟩) (n3 + 1) k3) (fun _ => rfl) (fun b γ W h => h.up _ (by decide)) (fun b γ W h _ => by go_simp) ?_
                      refine t_pure (.slice (some ⟨s3, 0, none⟩) (n3 + 1) k3) (fun _ => rfl) (fun b γ W h => h.up _ (by decide)) (fun b γ W h _ => by go_simp) ?_
                      refine t_pure (.int .i64 ((n3 + 1 : Nat) : Int)) (fun _ => rfl) (fun b γ W h => h.up _ (by decide)) (fun b γ W h _ => by go_simp) ?_
                      refine t_pure (.int .i64 (n3 : Int)) (fun _ => rfl) (fun b γ W h => h.up _ (by decide)) (fun b γ W h _ => by have q := HM3.out; have q2 : IntKind.i64.wrap (n3 : Int) = (n3 : Int) := (by rw [IntKind.wrap_i64]; omega); go_simp) ?_
                      refine t_pure (.pointer (some ⟨s3, n3 * 6, none⟩)) (fun _ => rfl) (fun b γ W h => h.up _ (by decide)) (fun b γ W h _ => by have q3 : ((n3 : Int) + 1 ≤ n3) = False := eq_false (by omega); go_simp) ?_
                      refine t_pure (.agg #[.int .i64 2, .bool g0, .int .u32 g1, .bool g2, .string g3, .int .i64 0]) (fun _ => rfl) (fun b γ W h => h.up _ (by decide)) (fun b γ W h _ => ?_) ?_
                      · obtain ⟨bb, hbb⟩ := HE3.out
                        have y := (evs_six (evs_below hbb h.bl) HN3.out).all
                        have y0 := y 0 _ (by decide) rfl
                        have y1 := y 1 _ (by decide) rfl
                        have y2 := y 2 _ (by decide) rfl
                        have y3 := y 3 _ (by decide) rfl
                        have y4 := y 4 _ (by decide) rfl
                        have y5 := y 5 _ (by decide) rfl
                        simp only [Nat.add_zero] at y0 y1 y2 y3 y4 y5
                        clear y hbb h
                        go_simp
                      refine t_any (fun γ => .pointer (some ⟨γ 18, 0, none⟩)) (fun γ γ' hg => by simp only; rw [hg 18 (.inl rfl)]) (fun _ => rfl) (fun b γ W h hb _ hf => ⟨W.heap.size, W.alloc (.cells (ec ⟨0, Fm.zero, 0⟩).toArray 34), ?_, h.alloc 0 (by decide) (hf 21 _ rfl (by decide))⟩) ?_
                      · have e : Lib.upd γ 18 W.heap.size 18 = W.heap.size := by simp [Lib.upd]
                        rw [e]
                        clear e h hf
                        go_simp
                        rfl
                      refine t_any (fun γ => .pointer (some ⟨γ 19, 0, none⟩)) (fun γ γ' hg => by simp only; rw [hg 19 (.inl rfl)]) (fun _ => rfl) (fun b γ W h hb _ hf => ⟨W.heap.size, W.alloc (.cells (ec ⟨0, Fm.zero, 0⟩).toArray 34), ?_, h.alloc 1 (by decide) (hf 22 _ rfl (by decide))⟩) ?_
                      · have e : Lib.upd γ 19 W.heap.size 19 = W.heap.size := by simp [Lib.upd]
                        rw [e]
                        clear e h hf
                        go_simp
                        rfl
                      refine t_any (fun γ => .pointer (some ⟨γ 20, 0, none⟩)) (fun γ γ' hg => by simp only; rw [hg 20 (.inl rfl)]) (fun _ => rfl) (fun b γ W h hb _ hf => ⟨W.heap.size, W.alloc (.cells (ec ⟨0, Fm.zero, 0⟩).toArray 34), ?_, h.alloc 2 (by decide) (hf 23 _ rfl (by decide))⟩) ?_
                      · have e : Lib.upd γ 20 W.heap.size 20 = W.heap.size := by simp [Lib.upd]
                        rw [e]
                        clear e h hf
                        go_simp
                        rfl
                      refine t_store (fun _ => rfl) (fun b γ W h hb hn hf => ⟨set6 W (γ 18) ⟨2, ⟨g0, g1, g2, g3⟩, 0⟩, ?_, h.store 0 (by decide) (hn 18 (by decide)) hb⟩) ?_
                      · have h1 := (h.al 0 (by decide) (hn 18 (by decide))).2
                        rw [show b (21 + 0) = false from hb] at h1
                        have c0 := h1.cell 0
                        have c1 := h1.cell 1
                        have c2 := h1.cell 2
                        have c3 := h1.cell 3
                        have c4 := h1.cell 4
                        have c5 := h1.cell 5
                        have f0 := h1.frozen 0
                        have f1 := h1.frozen 1
                        have f2 := h1.frozen 2
                        have f3 := h1.frozen 3
                        have f4 := h1.frozen 4
                        have f5 := h1.frozen 5
                        simp only [Bool.false_eq_true, if_false, ec, List.getElem?_cons_zero, List.getElem?_cons_succ, Nat.reduceAdd] at c0 c1 c2 c3 c4 c5 f0 f1 f2 f3 f4 f5
                        clear h h1 hn hf
                        unfold set6
                        go_simp
                      refine t_store (fun _ => rfl) (fun b γ W h hb hn hf => ⟨set6 W (γ 19) ⟨1, ⟨g0, g1, g2, g3⟩, 0⟩, ?_, h.store 1 (by decide) (hn 19 (by decide)) hb⟩) ?_
                      · have h1 := (h.al 1 (by decide) (hn 19 (by decide))).2
                        rw [show b (21 + 1) = false from hb] at h1
                        have c0 := h1.cell 0
                        have c1 := h1.cell 1
                        have c2 := h1.cell 2
                        have c3 := h1.cell 3
                        have c4 := h1.cell 4
                        have c5 := h1.cell 5
                        have f0 := h1.frozen 0
                        have f1 := h1.frozen 1
                        have f2 := h1.frozen 2
                        have f3 := h1.frozen 3
                        have f4 := h1.frozen 4
                        have f5 := h1.frozen 5
                        simp only [Bool.false_eq_true, if_false, ec, List.getElem?_cons_zero, List.getElem?_cons_succ, Nat.reduceAdd] at c0 c1 c2 c3 c4 c5 f0 f1 f2 f3 f4 f5
                        clear h h1 hn hf
                        unfold set6
                        go_simp
                      refine t_store (fun _ => rfl) (fun b γ W h hb hn hf => ⟨set6 W (γ 20) ⟨2, ⟨g0, g1, g2, g3⟩, 0⟩, ?_, h.store 2 (by decide) (hn 20 (by decide)) hb⟩) ?_
                      · have h1 := (h.al 2 (by decide) (hn 20 (by decide))).2
                        rw [show b (21 + 2) = false from hb] at h1
                        have c0 := h1.cell 0
                        have c1 := h1.cell 1
                        have c2 := h1.cell 2
                        have c3 := h1.cell 3
                        have c4 := h1.cell 4
                        have c5 := h1.cell 5
                        have f0 := h1.frozen 0
                        have f1 := h1.frozen 1
                        have f2 := h1.frozen 2
                        have f3 := h1.frozen 3
                        have f4 := h1.frozen 4
                        have f5 := h1.frozen 5
                        simp only [Bool.false_eq_true, if_false, ec, List.getElem?_cons_zero, List.getElem?_cons_succ, Nat.reduceAdd] at c0 c1 c2 c3 c4 c5 f0 f1 f2 f3 f4 f5
                        clear h h1 hn hf
                        unfold set6
                        go_simp
                      refine t_end ?_
                      intro bq gq w10 hall hS
                      simp only [Act.put, List.setIfInBounds_toArray, List.set_cons_zero, List.set_cons_succ]
                      have s1 := (hS.al 0 (by decide) (hall 18 (by decide))).2
                      have s2 := (hS.al 1 (by decide) (hall 19 (by decide))).2
                      have s3 := (hS.al 2 (by decide) (hall 20 (by decide))).2
                      rw [hall 21 (by decide)] at s1
                      rw [hall 22 (by decide)] at s2
                      rw [hall 23 (by decide)] at s3
                      have H10 := hid (H9.out.later hS.bl)
                      simp only [Nat.add_zero, Nat.reduceAdd, if_true, Nat.zero_ne_one, if_false, ec] at s1 s2 s3
                      generalize gq 18 = r1 at s1 ⊢
                      generalize gq 19 = r2 at s2 ⊢
                      generalize gq 20 = r3 at s3 ⊢
                      have a0 := s1.cell 0
                      have a1 := s1.cell 1
                      have a2 := s1.cell 2
                      have a3 := s1.cell 3
                      have a4 := s1.cell 4
                      have b0 := s2.cell 0
                      have b1 := s2.cell 1
                      have b2 := s2.cell 2
                      have b3 := s2.cell 3
                      have b4 := s2.cell 4
                      have c0 := s3.cell 0
                      have c1 := s3.cell 1
                      have c2 := s3.cell 2
                      have c3 := s3.cell 3
                      have c4 := s3.cell 4
                      simp only [List.getElem?_cons_zero, List.getElem?_cons_succ] at a0 a1 a2 a3 a4 b0 b1 b2 b3 b4 c0 c1 c2 c3 c4
                      obtain ⟨z0, z1, z2, z3⟩ := WB.fr2 H10.out
                      simp only at z0 z1 z2 z3
                      clear s1 s2 s3 hS hall HE1 HE2 HE3 HN1 HN2 HN3 H9
                      go_wp2_with fail
                      go_ret
                      exact ⟨rfl, H10.out.below⟩
theorem turned_walk (e1 : Bool) (i1 : Int) (r1 : Bool) (d1 : ByteArray) (e2 : Bool) (i2 : Int) (r2 : Bool) (d2 : ByteArray) (a : Int) (w : World) (h1 : (Lit.int .u32 i1).wf = true) (_ : d1.size ≤ 9223372036854775807) (h2 : (Lit.int .u32 i2).wf = true) (_ : d2.size ≤ 9223372036854775807) (h3 : (Lit.int .u8 a).wf = true) :
    Calls Try.prog 6 #[.agg #[.bool e1, .int .u32 i1, .bool r1, .string d1], .agg #[.bool e2, .int .u32 i2, .bool r2, .string d2], .int .u8 a] w fun e w' => e = .returned (.bool true) ∧ Below w.heap.size w w' := by
  simp [Lit.wf, IntKind.min, IntKind.max, IntKind.signed, IntKind.bits] at h1 h2 h3
  exact turned_calls ⟨e1, i1, r1, d1⟩ ⟨e2, i2, r2, d2⟩ a w (by show 0 ≤ i1 ∧ i1 < 4294967296; omega) (by show 0 ≤ i2 ∧ i2 < 4294967296; omega) (by omega)
end Go.Proofs.Ytpkpnaedacefaaa.WireL
