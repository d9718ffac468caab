/- WireAlone (layer 8): one node alone is off some time, and the wire is quiet from then on. Conditions: none beyond the types of the arguments; what is no frame is let pass. -/
import Derived.Test.YtpkpnaedacefaaaWireKnown
import Derived.Test.YtpkpnaedacefaaaMacOwn
import Derived.Test.YtpkpnaedacefaaaRefF
namespace Go.Proofs.Ytpkpnaedacefaaa.WireP
set_option linter.unusedVariables false
set_option linter.unusedSimpArgs false
open Go Go.Proofs.Ytpkpnaedacefaaa.Lib Go.Proofs.Ytpkpnaedacefaaa.Bits Go.Proofs.Ytpkpnaedacefaaa.BitsW Go.Proofs.Ytpkpnaedacefaaa.Frame Go.Proofs.Ytpkpnaedacefaaa.FrameW Go.Proofs.Ytpkpnaedacefaaa.Code Go.Proofs.Ytpkpnaedacefaaa.CodeW Go.Proofs.Ytpkpnaedacefaaa.CodeL Go.Proofs.Ytpkpnaedacefaaa.Mac Go.Proofs.Ytpkpnaedacefaaa.MacW Go.Proofs.Ytpkpnaedacefaaa.WireN Go.Proofs.Ytpkpnaedacefaaa.WireW
/-- A node that was asked. -/
def askd (m : M) (f : Fm) : M := { m with waits := true, f := f }
theorem askd_ask {f : Fm} (hf : f.Good) {m : M} (h7 : m.st ≠ 7) (hw : m.waits = false) : m.ask f = (askd m f, 0) := by
  unfold M.ask
  rw [if_neg h7, if_neg (by rw [hf.ok]; decide), if_neg (by rw [hw]; decide)]
  rfl
theorem busy_ask {f : Fm} (hf : f.Good) {m : M} (h7 : m.st ≠ 7) (hw : m.waits = true) : m.ask f = (m, 72) := by
  unfold M.ask
  rw [if_neg h7, if_neg (by rw [hf.ok]; decide), if_pos hw]
theorem askd_drive (m : M) (f : Fm) (h0 : m.st ≠ 0) (h1 : m.st ≠ 1) : (askd m f).drive = m.drive := by
  unfold M.drive askd
  rw [if_neg h0, if_neg h1, if_neg h0]
theorem askd_sample (m : M) (f : Fm) {c : Bool} (h : m.st = 3 ∨ m.st = 4 ∨ m.st = 5 ∨ (m.st = 6 ∧ c = true)) : (askd m f).sample c = (askd (m.sample c).1 f, (m.sample c).2) := by
  have e : (askd m f).st = m.st := rfl
  unfold M.sample
  rw [e]
  rcases h with h | h | h | ⟨h, rfl⟩
  · rw [h]
    simp only [show ¬ (3 : Int) = 0 by decide, show ¬ (3 : Int) = 1 by decide, show ¬ (3 : Int) = 2 by decide, if_false, if_true]
    unfold M.counted askd
    simp only
    split <;> rfl
  · rw [h]
    simp only [show ¬ (4 : Int) = 0 by decide, show ¬ (4 : Int) = 1 by decide, show ¬ (4 : Int) = 2 by decide, show ¬ (4 : Int) = 3 by decide, if_false, if_true]
    cases c <;> rfl
  · rw [h]
    simp only [show ¬ (5 : Int) = 0 by decide, show ¬ (5 : Int) = 1 by decide, show ¬ (5 : Int) = 2 by decide, show ¬ (5 : Int) = 3 by decide, show ¬ (5 : Int) = 4 by decide, if_false, if_true]
    cases c
    · rfl
    · simp only [if_true]
      unfold M.counted askd
      simp only
      split <;> rfl
  · rw [h]
    simp only [show ¬ (6 : Int) = 0 by decide, show ¬ (6 : Int) = 1 by decide, show ¬ (6 : Int) = 2 by decide, show ¬ (6 : Int) = 3 by decide, show ¬ (6 : Int) = 4 by decide, show ¬ (6 : Int) = 5 by decide, if_false, if_true]
    unfold M.counted askd
    simp only
    split <;> rfl
/-- The node alone on a wire, asked at each bit. -/
def Lone (f : Fm) (i : Nat) (x : M) : Prop :=
  (i < 9000 ∧ ∃ (m : M) (F : Nat), Alone f i m F ∧ ((x = m ∧ (m.waits = false ∨ (m.st = 1 ∧ m.waits = true))) ∨ (x = askd m f ∧ m.waits = false ∧ m.st ≠ 1))) ∨ (x.st = 7 ∧ i ≤ 9000)
theorem still_sample (m : M) {c : Bool} (h : m.st = 3 ∨ m.st = 4 ∨ m.st = 5 ∨ (m.st = 6 ∧ c = true)) : (m.sample c).2 = [] ∧ (m.sample c).1.waits = m.waits := by
  unfold M.sample
  rcases h with h | h | h | ⟨h, rfl⟩
  · rw [h]
    simp only [show ¬ (3 : Int) = 0 by decide, show ¬ (3 : Int) = 1 by decide, show ¬ (3 : Int) = 2 by decide, if_false, if_true]
    unfold M.counted
    split <;> simp
  · rw [h]
    simp only [show ¬ (4 : Int) = 0 by decide, show ¬ (4 : Int) = 1 by decide, show ¬ (4 : Int) = 2 by decide, show ¬ (4 : Int) = 3 by decide, if_false, if_true]
    cases c <;> simp
  · rw [h]
    simp only [show ¬ (5 : Int) = 0 by decide, show ¬ (5 : Int) = 1 by decide, show ¬ (5 : Int) = 2 by decide, show ¬ (5 : Int) = 3 by decide, show ¬ (5 : Int) = 4 by decide, if_false, if_true]
    cases c
    · simp
    · simp only [if_true]
      unfold M.counted
      split <;> simp
  · rw [h]
    simp only [show ¬ (6 : Int) = 0 by decide, show ¬ (6 : Int) = 1 by decide, show ¬ (6 : Int) = 2 by decide, show ¬ (6 : Int) = 3 by decide, show ¬ (6 : Int) = 4 by decide, show ¬ (6 : Int) = 5 by decide, if_false, if_true]
    unfold M.counted
    split <;> simp
theorem alone_kinds {f : Fm} {i : Nat} {m : M} {F : Nat} (h : Alone f i m F) : (m.st = 0 ∧ m.waits = false) ∨ (m.st = 1 ∧ m.waits = true) ∨ ((m.st = 3 ∨ m.st = 4 ∨ m.st = 5 ∨ (m.st = 6 ∧ m.drive = true)) ∧ m.waits = false) := by
  rcases h with ⟨hi, rfl, _⟩ | ⟨k, t, q, _, hq, _, hc⟩
  · have e : nw i = { M.new with left := 3 - (i : Int) } := if_pos hi
    exact .inr (.inr ⟨.inr (.inr (.inr ⟨by rw [e]; rfl, nw_drive i⟩)), by rw [e]; rfl⟩)
  · rcases hc with ⟨_, rfl, _⟩ | ⟨_, _, rfl, _⟩ | ⟨_, h1, h2, rfl, _⟩ | ⟨_, h1, h2, rfl, _⟩
    · exact .inl ⟨hq.st, hq.waits⟩
    · exact .inr (.inl ⟨rfl, rfl⟩)
    · rw [flag_eq (by omega)]
      exact .inr (.inr ⟨.inl rfl, rfl⟩)
    · obtain ⟨j, hj⟩ : ∃ j, j = t + 2 - f.ack.length := ⟨_, rfl⟩
      rw [← hj]
      have hj10 : j ≤ 10 := by omega
      by_cases h0 : j = 0
      · subst h0
        exact .inr (.inr ⟨.inr (.inl rfl), rfl⟩)
      · by_cases h7 : j ≤ 7
        · rw [rec_eq1 h0 h7]
          exact .inr (.inr ⟨.inr (.inr (.inl rfl)), rfl⟩)
        · have hd := rec_drive (nxM q f) (k := j) (by omega)
          rw [rec_eq2 (by omega) hj10] at hd ⊢
          exact .inr (.inr ⟨.inr (.inr (.inr ⟨rfl, hd⟩)), rfl⟩)
theorem lone_start (f : Fm) : Lone f 0 M.new := .inl ⟨by decide, M.new, 0, alone_start f, .inl ⟨rfl, .inl rfl⟩⟩
theorem lone_round {f : Fm} (hf : f.Good) {i : Nat} {x : M} (h : Lone f i x) (h7 : x.st ≠ 7) : (x.ask f).2 ≠ 73 ∧ i < 9000 ∧ Lone f (i + 1) ((x.ask f).1.sample (x.ask f).1.drive).1 := by
  rcases h with ⟨_, m, F, ha, hx⟩ | ⟨h, _⟩
  · obtain ⟨hi, hF, hr⟩ := alone_round hf ha
    have next : ∀ (m2 : M) (F2 : Nat), Alone f (i + 1) m2 F2 → Lone f (i + 1) m2 := fun m2 F2 h2 => by
      refine .inl ⟨by omega, m2, F2, h2, .inl ⟨rfl, ?_⟩⟩
      rcases alone_kinds h2 with ⟨_, q⟩ | ⟨q1, q2⟩ | ⟨_, q⟩
      · exact .inl q
      · exact .inr ⟨q1, q2⟩
      · exact .inl q
    rcases alone_kinds ha with ⟨k1, k2⟩ | ⟨k1, k2⟩ | ⟨k1, k2⟩
    · have e : x.ask f = (askd m f, 0) ∨ x.ask f = (askd m f, 72) := by
        rcases hx with ⟨rfl, _⟩ | ⟨rfl, _⟩
        · exact .inl (askd_ask hf (by rw [k1]; decide) k2)
        · exact .inr (busy_ask hf (by show m.st ≠ 7; rw [k1]; decide) rfl)
      have e1 : (x.ask f).1 = askd m f ∧ (x.ask f).2 ≠ 73 := by
        rcases e with e | e <;> rw [e]
        · exact ⟨rfl, by show (0 : Int) ≠ 73; decide⟩
        · exact ⟨rfl, by show (72 : Int) ≠ 73; decide⟩
      refine ⟨e1.2, by omega, ?_⟩
      rw [e1.1]
      rcases hr with ⟨_, _, m1, a1, a2, m2, a3, a4⟩ | ⟨q, _⟩ | ⟨q, _⟩ | ⟨q, _⟩
      · rw [askd_ask hf (by rw [k1]; decide) k2] at a1
        injection a1 with a1
        subst a1
        rw [a2, a3]
        exact next m2 F a4
      · rw [k1] at q; cases q
      · rw [k1] at q; cases q
      · rw [k1] at q; cases q
    · rcases hx with ⟨rfl, _⟩ | ⟨rfl, q, _⟩
      · rw [busy_ask hf h7 k2]
        refine ⟨by show (72 : Int) ≠ 73; decide, by omega, ?_⟩
        rcases hr with ⟨q, _⟩ | ⟨_, m2, a3, a4⟩ | ⟨_, m2, a3, a4⟩ | ⟨_, _, z, a3, a4, _⟩
        · rw [k1] at q; cases q
        · show Lone f (i + 1) (x.sample x.drive).1
          rw [a3]; exact next m2 F a4
        · show Lone f (i + 1) (x.sample x.drive).1
          rw [a3]; exact next m2 _ a4
        · show Lone f (i + 1) (x.sample x.drive).1
          rw [a3]; exact .inr ⟨a4, by omega⟩
      · rw [q] at k2; cases k2
    · have h0 : m.st ≠ 0 ∧ m.st ≠ 1 ∧ m.st ≠ 7 := by rcases k1 with h | h | h | ⟨h, _⟩ <;> rw [h] <;> decide
      have e1 : (x.ask f).1 = askd m f ∧ (x.ask f).2 ≠ 73 := by
        rcases hx with ⟨rfl, _⟩ | ⟨rfl, _⟩
        · rw [askd_ask hf h0.2.2 k2]; exact ⟨rfl, by show (0 : Int) ≠ 73; decide⟩
        · rw [busy_ask hf (show (askd m f).st ≠ 7 from h0.2.2) rfl]; exact ⟨rfl, by show (72 : Int) ≠ 73; decide⟩
      refine ⟨e1.2, by omega, ?_⟩
      have k3 : m.st = 3 ∨ m.st = 4 ∨ m.st = 5 ∨ (m.st = 6 ∧ m.drive = true) := k1
      obtain ⟨s1, s2⟩ := still_sample m (c := m.drive) k3
      rw [e1.1, askd_drive m f h0.1 h0.2.1, askd_sample m f k3]
      have fin : ∀ m2 F2, (m.sample m.drive).1 = m2 → Alone f (i + 1) m2 F2 → Lone f (i + 1) (askd (m.sample m.drive).1 f) := fun m2 F2 e h2 => by
        rw [e] at s2 ⊢
        refine .inl ⟨by omega, m2, F2, h2, .inr ⟨rfl, by rw [s2, k2], fun h1 => ?_⟩⟩
        rcases alone_kinds h2 with ⟨q, _⟩ | ⟨_, q⟩ | ⟨q, _⟩
        · rw [h1] at q; cases q
        · rw [s2, k2] at q; cases q
        · rw [h1] at q; rcases q with q | q | q | ⟨q, _⟩ <;> cases q
      rcases hr with ⟨q, _⟩ | ⟨_, m2, a3, a4⟩ | ⟨_, m2, a3, a4⟩ | ⟨_, _, z, a3, a4, _⟩
      · exact absurd (by simpa using q) h0.1
      · exact fin m2 F (by rw [a3]) a4
      · exact fin m2 _ (by rw [a3]) a4
      · rw [a3] at s1; cases s1
  · exact absurd h h7
/-- A wire with one node. -/
structure W1 (c : Gc) (i : Nat) : Prop where
  n : c.n = 1
  t : c.t = false
  bn : c.bn = i
theorem allD_one (ms : Nat → M) : allD ms 1 = (ms 0).drive := by
  show ((ms 0).drive && true) = _
  rw [Bool.and_true]
theorem w1_step {c : Gc} {i : Nat} (h : W1 c i) : W1 (c.step false) (i + 1) ∧ (c.step false).ms 0 = ((c.ms 0).sample (c.ms 0).drive).1 ∧ (c.step false).l = more c.l (c.ms 0).drive := by
  have hd : allD c.ms c.n = (c.ms 0).drive := by rw [h.n, allD_one]
  have hb : (allD c.ms c.n != (c.t || false)) = (c.ms 0).drive := by rw [hd, h.t]; cases (c.ms 0).drive <;> rfl
  obtain ⟨q1, _, _, q4⟩ := step_of (c := c) (flip := false) hb (ms' := fun j => ((c.ms j).sample (c.ms 0).drive).1) (E := fun j => ((c.ms j).sample (c.ms 0).drive).2) (fun j _ => rfl)
  exact ⟨⟨h.n, rfl, by show c.bn + 1 = _; rw [h.bn]⟩, q1 0 (by rw [h.n]; decide), q4⟩
theorem lone_step {f : Fm} (hf : f.Good) {c : Gc} {i : Nat} (h : W1 c i) (hl : Lone f i (c.ms 0)) (h7 : (c.ms 0).st ≠ 7) : W1 ((c.ask 0 f).step false) (i + 1) ∧ Lone f (i + 1) (((c.ask 0 f).step false).ms 0) := by
  have e : (c.ask 0 f).ms 0 = ((c.ms 0).ask f).1 := rfl
  obtain ⟨q1, q2, _⟩ := w1_step (c := c.ask 0 f) (i := i) ⟨h.n, h.t, h.bn⟩
  refine ⟨q1, ?_⟩
  rw [q2, e]
  exact (lone_round hf hl h7).2.2
theorem off_step {m : M} (h : m.st = 7) : m.drive = true ∧ m.sample true = (m, []) ∧ ∀ f, m.ask f = (m, 73) := by
  refine ⟨?_, ?_, fun f => ?_⟩
  · unfold M.drive; rw [h]; rfl
  · unfold M.sample
    rw [h]
    rfl
  · unfold M.ask; rw [if_pos h]
/-- The latest k bits of the wire were 1. -/
def Ones (l : List UInt8) (k : Nat) : Prop := ∃ z, l = z ++ List.replicate k 49
theorem ones_more {l : List UInt8} {k : Nat} (h : Ones l k) (hk : k ≤ 200) : Ones (more l true) (k + 1) := by
  obtain ⟨z, rfl⟩ := h
  unfold more
  rw [if_pos rfl]
  by_cases hl : 8000 ≤ (z ++ List.replicate k 49).length
  · rw [if_pos hl]
    rw [List.length_append, List.length_replicate] at hl ⊢
    refine ⟨z.drop (z.length + k - 4000), ?_⟩
    rw [List.drop_append, show z.length + k - 4000 - z.length = 0 by omega, List.drop_zero, List.append_assoc, List.replicate_succ']
  · rw [if_neg hl]
    exact ⟨z, by rw [List.append_assoc, List.replicate_succ']⟩
theorem ones_tail {l : List UInt8} (h : Ones l 200) : ∃ z, BusW.tailOf l = z ++ List.replicate 200 49 := by
  obtain ⟨z, rfl⟩ := h
  unfold BusW.tailOf
  rw [List.length_append, List.length_replicate]
  refine ⟨z.drop (z.length + 200 - 4000), ?_⟩
  rw [List.drop_append, show z.length + 200 - 4000 - z.length = 0 by omega, List.drop_zero]
end Go.Proofs.Ytpkpnaedacefaaa.WireP
namespace Go.Proofs.Ytpkpnaedacefaaa.WireL
set_option linter.unusedVariables false
set_option linter.unusedSimpArgs false
open Go Go.RowKit Go.Proofs.Ytpkpnaedacefaaa.Lib Go.Proofs.Ytpkpnaedacefaaa.Bits Go.Proofs.Ytpkpnaedacefaaa.BitsW Go.Proofs.Ytpkpnaedacefaaa.StuffW Go.Proofs.Ytpkpnaedacefaaa.Frame Go.Proofs.Ytpkpnaedacefaaa.FrameW Go.Proofs.Ytpkpnaedacefaaa.Code Go.Proofs.Ytpkpnaedacefaaa.CodeW Go.Proofs.Ytpkpnaedacefaaa.Mac Go.Proofs.Ytpkpnaedacefaaa.MacW Go.Proofs.Ytpkpnaedacefaaa.MacL Go.Proofs.Ytpkpnaedacefaaa.RefW Go.Proofs.Ytpkpnaedacefaaa.WireN Go.Proofs.Ytpkpnaedacefaaa.WireW Go.Proofs.Ytpkpnaedacefaaa.WireP Go.Proofs.Ytpkpnaedacefaaa.PrintMore
attribute [local go_sem] max2_int min2_int max_two min_two
attribute [local go_sem high] eqA24
set_option maxRecDepth 100000 in
set_option maxHeartbeats 6400000 in
theorem alone_calls (f : Fm) (w : World) (hf : f.wf) : Calls Try.prog 7 #[.agg #[.bool f.e, .int .u32 f.i, .bool f.r, .string f.d]] w fun e w' => e = .returned (.bool true) ∧ Below w.heap.size w w' := by
  obtain ⟨f0, f1, f2, f3⟩ := f
  have HW := hid hf
  have hB := (Below.refl w.heap.size w).alloc (Nat.le_refl _) (.cells #[.bool f0, .int .u32 f1, .bool f2, .string f3] 24)
  have hb0 : Blk (w.alloc (.cells #[.bool f0, .int .u32 f1, .bool f2, .string f3] 24)) w.heap.size 24 (fc ⟨f0, f1, f2, f3⟩) := Blk.new w (fc ⟨f0, f1, f2, f3⟩) _
  have HB := hid hB
  have HX := hid hb0
  clear hB hb0 hf
  simp only
  go_enter Try.func7, Try.ntmps7
  go_wp2_with fail
  with_reducible refine (known_calls _).mono ?_
  rintro y w1 ⟨rfl, hb⟩
  have HX1 := hid (HX.out.below hb)
  have HB1 := hid (HB.out.trans (hb.mono HB.out.size))
  clear hb HX HB
  obtain ⟨x0, x1, x2, x3⟩ := box_fr HX1.out
  simp only at x0 x1 x2 x3
  by_cases h8 : 8 < f3.size
  · have u0 : (8 < (f3.size : Int)) = True := eq_true (by omega)
    have u1 : decide (8 < (f3.size : Int)) = true := decide_eq_true (by omega)
    have u2 : (8 < f3.size) = True := eq_true h8
    clear h8
    go_wp2_with fail
    go_ret
    exact ⟨rfl, HB1.out⟩
  · have u0 : (8 < (f3.size : Int)) = False := eq_false (by omega)
    have u1 : decide (8 < (f3.size : Int)) = false := decide_eq_false (by omega)
    have u2 : (8 < f3.size) = False := eq_false h8
    clear h8
    go_wp2_with fail
    refine (ris_calls f0 f1 f2 f3 w1).mono ?_
    rintro y w2 ⟨rfl, hb⟩
    have HX2 := hid (HX1.out.below hb)
    have HB2 := hid (HB1.out.trans (hb.mono HB1.out.size))
    clear hb HX1 HB1 x0 x1 x2 x3
    obtain ⟨x0, x1, x2, x3⟩ := box_fr HX2.out
    simp only at x0 x1 x2 x3
    cases hok : okF f0 f1 f2 f3
    · go_wp2_with fail
      go_ret
      exact ⟨rfl, HB2.out⟩
    · have HG := hid (show Fm.Good ⟨f0, f1, f2, f3⟩ from ⟨hok, HW.out⟩)
      clear hok
      go_wp2_with fail
      refine (wb_new (ps := [(w.heap.size, ⟨f0, f1, f2, f3⟩)]) 1 HB2.out (fun x hx => by obtain rfl := List.mem_singleton.1 hx; exact HX2.out)).mono ?_
      rintro y w3 ⟨g, rfl, h3⟩
      have h3 : WB w w3 w2.heap.size g [(w.heap.size, ⟨f0, f1, f2, f3⟩)] (Gc.new 1) := h3
      have H3 := hid h3
      generalize w2.heap.size = B at H3
      clear h3 HX2 HB2 x0 x1 x2 x3 u0 u1 u2
      generalize w.heap.size = p at H3 ⊢
      go_upto_block 0 with fail
      go_cut [4] (fun s4 wc => ∃ (c : Gc) (i : Nat), i ≤ 9000 ∧ WB w wc B g [(p, ⟨f0, f1, f2, f3⟩)] c ∧ W1 c i ∧ (c.ms 0).st = 7)
      case first =>
        go_wp2_with fail
        go_loopw [4] (fun i wr => ∃ (j : Nat) (c : Gc), j ≤ 9000 ∧ i = .int .i64 j ∧ WB w wr B g [(p, ⟨f0, f1, f2, f3⟩)] c ∧ W1 c j ∧ Lone ⟨f0, f1, f2, f3⟩ j (c.ms 0)) (fun i _ => 9000 - (intOf i).toNat)
        case atStart => exact ⟨0, _, Nat.zero_le _, rfl, H3.out, ⟨rfl, rfl, rfl⟩, lone_start _⟩
        case round =>
          clear H3
          obtain ⟨j, c, hj, rfl, hb, ho, hl⟩ := hrel
          have H6 := hid hb
          have HO := hid ho
          have HL := hid hl
          clear hb ho hl
          obtain ⟨x0, x1, x2, x3⟩ := WB.fr H6.out
          simp only at x0 x1 x2 x3
          by_cases hlt : j < 9000
          · have u0 : ((j : Int) < 9000) = True := eq_true (by omega)
            have u1 : decide ((j : Int) < 9000) = true := decide_eq_true (by omega)
            have u2 : IntKind.i64.wrap ((j : Int) + 1) = ((j + 1 : Nat) : Int) := by rw [IntKind.wrap_i64]; omega
            have u3 : (j < 9000) = True := eq_true hlt
            go_wp2_with fail
            refine (wb_ask H6.out 0 (by rw [HO.out.n]; decide) ⟨f0, f1, f2, f3⟩ HW.out).mono ?_
            rintro y w7 ⟨rfl, h7⟩
            have H7 := hid h7
            clear h7 H6 x0 x1 x2 x3
            by_cases hs : (c.ms 0).st = 7
            · rw [(off_step hs).2.2]
              have HS := hid (show ((c.ask 0 ⟨f0, f1, f2, f3⟩).ms 0).st = 7 by show ((c.ms 0).ask _).1.st = 7; rw [(off_step hs).2.2]; exact hs)
              clear hs
              go_wp2_with fail
              go_meet
              case rel => exact ⟨_, j, by omega, H7.out, ⟨HO.out.n, HO.out.t, HO.out.bn⟩, HS.out⟩
            · obtain ⟨q1, q2⟩ := lone_step HG.out HO.out HL.out hs
              have q3 := (lone_round HG.out HL.out hs).1
              have Q1 := hid q1
              have Q2 := hid q2
              generalize ((c.ms 0).ask ⟨f0, f1, f2, f3⟩).2 = e at q3 ⊢
              have HBN := hid (show (c.ask 0 ⟨f0, f1, f2, f3⟩).bn ≤ 1000000 from Nat.le_trans (Nat.le_of_eq HO.out.bn) (by omega))
              have t0 : (e == 73) = false := by simp [q3]
              have t1 : (e = 73) = False := eq_false q3
              clear q1 q2 q3 hs
              go_wp2_with fail
              with_reducible refine (wb_step H7.out false HBN.out).mono ?_
              rintro y w8 ⟨v, rfl, h8, _⟩
              have H8 := hid h8
              clear h8 H7
              go_wp2_with fail
              exact ⟨⟨j + 1, _, by omega, rfl, H8.out, Q1.out, Q2.out⟩, by simp [intOf]; omega⟩
          · obtain rfl : j = 9000 := by omega
            have hs : (c.ms 0).st = 7 := by
              rcases HL.out with ⟨h, _⟩ | ⟨h, _⟩
              · omega
              · exact h
            have HS := hid hs
            clear hs
            go_wp2_with fail
            go_meet
            case rel => exact ⟨c, 9000, Nat.le_refl _, H6.out, HO.out, HS.out⟩
      case rest =>
        clear H3
        obtain ⟨c, i, hi, hb, ho, h7⟩ := hcut
        have H6 := hid hb
        have HO := hid ho
        have H7 := hid h7
        have HI := hid hi
        clear hb ho h7 hi
        go_wp2_with fail
        go_loopw [7] (fun k wr => ∃ (j : Nat) (c : Gc), j ≤ 200 ∧ k = .int .i64 j ∧ WB w wr B g [(p, ⟨f0, f1, f2, f3⟩)] c ∧ W1 c (i + j) ∧ (c.ms 0).st = 7 ∧ Ones c.l j) (fun i _ => 200 - (intOf i).toNat)
        case atStart => exact ⟨0, _, Nat.zero_le _, rfl, H6.out, HO.out, H7.out, _, (List.append_nil _).symm⟩
        case round =>
          clear H6 HO H7
          obtain ⟨j, c, hj, rfl, hb, ho, h7, hon⟩ := hrel
          have H6 := hid hb
          have HO := hid ho
          have H7 := hid h7
          have HN := hid hon
          clear hb ho h7 hon
          by_cases hlt : j < 200
          · have u0 : ((j : Int) < 200) = True := eq_true (by omega)
            have u1 : decide ((j : Int) < 200) = true := decide_eq_true (by omega)
            have u2 : IntKind.i64.wrap ((j : Int) + 1) = ((j + 1 : Nat) : Int) := by rw [IntKind.wrap_i64]; omega
            have u3 : (j < 200) = True := eq_true hlt
            go_wp2_with fail
            with_reducible refine (wb_step H6.out false (by rw [HO.out.bn]; have := HI.out; omega)).mono ?_
            rintro y w8 ⟨v, rfl, h8, _⟩
            obtain ⟨q1, q2, q3⟩ := w1_step HO.out
            obtain ⟨o1, o2, _⟩ := off_step H7.out
            rw [o1] at q2 q3
            rw [o2] at q2
            have H8 := hid h8
            have Q1 := hid q1
            have Q2 := hid (show ((c.step false).ms 0).st = 7 by rw [q2]; exact H7.out)
            have Q3 := hid (show Ones (c.step false).l (j + 1) by rw [q3]; exact ones_more HN.out hj)
            clear h8 H6 q1 q2 q3 o1 o2
            go_wp2_with fail
            exact ⟨⟨j + 1, _, by omega, rfl, H8.out, Q1.out, Q2.out, Q3.out⟩, by simp [intOf]; omega⟩
          · obtain rfl : j = 200 := by omega
            obtain ⟨F, hwi, _⟩ := H6.out.out
            have HWI := hid hwi
            clear hwi
            go_wp2_with fail
            refine (wi_bus HWI.out).mono ?_
            rintro y w8 ⟨gb, bv, rfl, hbus, hll, rfl⟩
            have HBU := hid hbus
            have HLL := hid hll
            clear hbus hll
            go_wp2_with fail
            refine (BusW.trace_calls _ gb bv c.l _ c.t _ HBU.out (by have := HLL.out; omega)).mono ?_
            rintro y w9 ⟨rfl, hb9⟩
            obtain ⟨z, hz⟩ := ones_tail HN.out
            rw [hz]
            have H9 := hid (H6.out.later hb9)
            have hzl : z.length + 200 ≤ 4000 := by
              have := congrArg List.length hz
              unfold BusW.tailOf at this
              rw [List.length_drop, List.length_append, List.length_replicate] at this
              omega
            clear hb9 H6 HBU HLL hz HWI
            obtain ⟨s, hs⟩ : ∃ s : ByteArray, s = ⟨(z ++ List.replicate 200 49).toArray⟩ := ⟨_, rfl⟩
            have hsz : s.size = z.length + 200 := by
              rw [hs]
              show (z ++ List.replicate 200 49).toArray.size = _
              simp
            have hix : ∀ j, j < 200 → ∀ W : World, (Instr.index 9 (.string s) (.int .i64 ((z.length + j : Nat) : Int))).run Try.prog W = .ok (.int .u8 49) W := by
              intro j hj W
              have h0 : (0 : Int) ≤ ((z.length + j : Nat) : Int) := Int.natCast_nonneg _
              have hx : s[z.length + j]? = some 49 := by
                have e : s[z.length + j]? = s.data[z.length + j]? := rfl
                rw [e, hs]
                show (z ++ List.replicate 200 49).toArray[z.length + j]? = _
                rw [List.getElem?_toArray, List.getElem?_append_right (by omega), Nat.add_sub_cancel_left, List.getElem?_replicate, if_pos hj]
              simp only [Instr.index, asIntOf, Sem.run_bind, Sem.run_pure, Result.andThen_ok, run_underlying Try.underlying9, if_pos h0, Int.toNat_natCast, hx]
              rfl
            rw [← hs]
            have HSZ := hid hsz
            have HIX := hid hix
            obtain ⟨q, hq⟩ : ∃ q, q = z.length := ⟨_, rfl⟩
            rw [← hq] at HSZ HIX hzl
            clear hs hsz hix hq
            have HQ := hid hzl
            have y1 : IntKind.i64.wrap ((s.size : Int) - 200) = (q : Int) := by rw [HSZ.out, IntKind.wrap_i64]; omega
            clear hzl
            go_wp2_with fail
            clear y1
            go_loopw [9, 6] (fun i b wr => ∃ j : Nat, j ≤ 200 ∧ i = .int .i64 ((q + j : Nat) : Int) ∧ b = .bool true ∧ WB w wr B g [(p, ⟨f0, f1, f2, f3⟩)] c) (fun i _ _ => q + 200 - (intOf i).toNat)
            case atStart => exact ⟨0, Nat.zero_le _, rfl, rfl, H9.out⟩
            case round =>
              clear H9
              obtain ⟨j, hj, rfl, rfl, hb⟩ := hrel
              have H8 := hid hb
              clear hb
              by_cases hjt : j < 200
              · have t0 : (((q + j : Nat) : Int) < s.size) = True := eq_true (by rw [HSZ.out]; omega)
                have t1 : decide (((q + j : Nat) : Int) < s.size) = true := decide_eq_true (by rw [HSZ.out]; omega)
                have t2 : IntKind.i64.wrap (((q + j : Nat) : Int) + 1) = ((q + (j + 1) : Nat) : Int) := by have := HQ.out; rw [IntKind.wrap_i64]; omega
                have t3 : (q + j < s.size) = True := eq_true (by rw [HSZ.out]; omega)
                have t4 := HIX.out j hjt
                obtain ⟨r, hr⟩ : ∃ r, r = q + j := ⟨_, rfl⟩
                rw [← hr] at t0 t1 t2 t3 t4 ⊢
                have HR := hid hr
                clear hr
                go_wp2_with fail
                exact ⟨⟨j + 1, by omega, rfl, rfl, H8.out⟩, by have := HR.out; simp [intOf]; omega⟩
              · obtain rfl : j = 200 := by omega
                have t0 : (((q + 200 : Nat) : Int) < s.size) = False := eq_false (by rw [HSZ.out]; omega)
                have t1 : decide (((q + 200 : Nat) : Int) < s.size) = false := decide_eq_false (by rw [HSZ.out]; omega)
                have t3 : (q + 200 < s.size) = False := eq_false (by rw [HSZ.out]; omega)
                obtain ⟨r, hr⟩ : ∃ r, r = q + 200 := ⟨_, rfl⟩
                rw [← hr] at t0 t1 t3 ⊢
                clear hr
                obtain ⟨x0, x1, x2, x3⟩ := WB.fr H8.out
                simp only at x0 x1 x2 x3
                go_wp2_with fail
                refine (wb_ask H8.out 0 (by rw [HO.out.n]; decide) ⟨f0, f1, f2, f3⟩ HW.out).mono ?_
                rintro y w10 ⟨rfl, h10⟩
                rw [(off_step H7.out).2.2]
                have H10 := hid h10
                clear h10 H8
                go_wp2_with fail
                go_ret
                exact ⟨rfl, H10.out.below⟩
theorem alone_walk (e : Bool) (i : Int) (r : Bool) (d : ByteArray) (w : World) (h : (Lit.int .u32 i).wf = true) (_ : d.size ≤ 9223372036854775807) :
    Calls Try.prog 7 #[.agg #[.bool e, .int .u32 i, .bool r, .string d]] w fun e w' => e = .returned (.bool true) ∧ Below w.heap.size w w' := by
  simp [Lit.wf, IntKind.min, IntKind.max, IntKind.signed, IntKind.bits] at h
  exact alone_calls ⟨e, i, r, d⟩ w (by show 0 ≤ i ∧ i < 4294967296; omega)
end Go.Proofs.Ytpkpnaedacefaaa.WireL
