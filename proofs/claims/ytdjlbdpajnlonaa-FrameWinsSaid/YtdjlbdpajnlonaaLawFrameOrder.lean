/- FrameOrder (layer 3): of two frames one wins, or they have one identifier and kind; who wins against one that wins against a third wins against that. Conditions: none beyond the types of the arguments; longer data and what is no frame are let pass. -/
import Derived.Test.YtdjlbdpajnlonaaFrameKnown
import Derived.Test.YtdjlbdpajnlonaaFrameMathB
import Derived.OpenShut
namespace Go.Proofs.Ytdjlbdpajnlonaa.FrameL
set_option linter.unusedVariables false
set_option linter.unusedSimpArgs false
open Go Go.RowKit Go.Proofs.Ytdjlbdpajnlonaa.Lib Go.Proofs.Ytdjlbdpajnlonaa.Bits Go.Proofs.Ytdjlbdpajnlonaa.BitsW Go.Proofs.Ytdjlbdpajnlonaa.Frame Go.Proofs.Ytdjlbdpajnlonaa.FrameW Go.Proofs.YtdjlbdpajnlonaaW.PrintMore
attribute [local go_sem] max2_int min2_int max_two min_two
attribute [local go_sem high] QFr.eqA24

/-- Three frames in memory. -/
structure Three (w0 w : World) (g1 g2 g3 : Nat) (e1 : Bool) (i1 : Int) (r1 : Bool) (d1 : ByteArray) (e2 : Bool) (i2 : Int) (r2 : Bool) (d2 : ByteArray) (e3 : Bool) (i3 : Int) (r3 : Bool) (d3 : ByteArray) : Prop where
  fst : Blk w g1 24 [.bool e1, .int .u32 i1, .bool r1, .string d1]
  snd : Blk w g2 24 [.bool e2, .int .u32 i2, .bool r2, .string d2]
  thd : Blk w g3 24 [.bool e3, .int .u32 i3, .bool r3, .string d3]
  below : Below w0.heap.size w0 w
theorem Three.later {w0 w w' : World} {g1 g2 g3 : Nat} {e1 : Bool} {i1 : Int} {r1 : Bool} {d1 : ByteArray} {e2 : Bool} {i2 : Int} {r2 : Bool} {d2 : ByteArray} {e3 : Bool} {i3 : Int} {r3 : Bool} {d3 : ByteArray}
    (h : Three w0 w g1 g2 g3 e1 i1 r1 d1 e2 i2 r2 d2 e3 i3 r3 d3) (hb : Below w.heap.size w w') : Three w0 w' g1 g2 g3 e1 i1 r1 d1 e2 i2 r2 d2 e3 i3 r3 d3 :=
  ⟨h.fst.below hb, h.snd.below hb, h.thd.below hb, h.below.trans (hb.mono h.below.size)⟩
theorem Three.make (w : World) (e1 : Bool) (i1 : Int) (r1 : Bool) (d1 : ByteArray) (e2 : Bool) (i2 : Int) (r2 : Bool) (d2 : ByteArray) (e3 : Bool) (i3 : Int) (r3 : Bool) (d3 : ByteArray) :
    Three w (((w.alloc (.cells #[.bool e1, .int .u32 i1, .bool r1, .string d1] 24)).alloc (.cells #[.bool e2, .int .u32 i2, .bool r2, .string d2] 24)).alloc (.cells #[.bool e3, .int .u32 i3, .bool r3, .string d3] 24))
      w.heap.size (w.heap.size + 1) (w.heap.size + 2) e1 i1 r1 d1 e2 i2 r2 d2 e3 i3 r3 d3 := by
  have s1 : (w.alloc (.cells #[.bool e1, .int .u32 i1, .bool r1, .string d1] 24)).heap.size = w.heap.size + 1 := by simp
  have s2 : ((w.alloc (.cells #[.bool e1, .int .u32 i1, .bool r1, .string d1] 24)).alloc (.cells #[.bool e2, .int .u32 i2, .bool r2, .string d2] 24)).heap.size = w.heap.size + 2 := by simp
  refine ⟨((Blk.new w _ _).alloc _).alloc _, ?_, ?_, (((Below.refl _ _).alloc (Nat.le_refl _) _).alloc (by simp) _).alloc (by simp; omega) _⟩
  · have := (Blk.new (w.alloc (.cells #[.bool e1, .int .u32 i1, .bool r1, .string d1] 24)) [.bool e2, .int .u32 i2, .bool r2, .string d2] 24).alloc (.cells #[.bool e3, .int .u32 i3, .bool r3, .string d3] 24)
    rw [s1] at this
    exact this
  · have := Blk.new ((w.alloc (.cells #[.bool e1, .int .u32 i1, .bool r1, .string d1] 24)).alloc (.cells #[.bool e2, .int .u32 i2, .bool r2, .string d2] 24)) [.bool e3, .int .u32 i3, .bool r3, .string d3] 24
    rw [s2] at this
    exact this
set_option maxRecDepth 100000 in
set_option maxHeartbeats 1600000 in
theorem few_calls (e : Bool) (i : Int) (r : Bool) (d : ByteArray) (w : World) : Calls Try.prog 12 #[.agg #[.bool e, .int .u32 i, .bool r, .string d]] w fun x w' => x = .returned (.bool (decide ((d.size : Int) ≤ 20))) ∧ Below w.heap.size w w' := by
  go_enter Try.func12, Try.ntmps12
  go_wp2
  go_ret
  exact ⟨rfl, (Below.refl _ _).alloc (Nat.le_refl _) _⟩
theorem Plug_cmp (e1 : Bool) (i1 : Int) (r1 : Bool) (d1 : ByteArray) (e2 : Bool) (i2 : Int) (r2 : Bool) (d2 : ByteArray) (b1 : 0 ≤ i1 ∧ i1 < 4294967296) (b2 : 0 ≤ i2 ∧ i2 < 4294967296) (w : World) :
    Calls Try.prog 21 #[.agg #[.bool e1, .int .u32 i1, .bool r1, .string d1], .agg #[.bool e2, .int .u32 i2, .bool r2, .string d2]] w fun y w' => y = .returned (.int .i64 (FrameEq.cmpF e1 i1 r1 d1 e2 i2 r2 d2)) ∧ Below w.heap.size w w' :=
  Plug.frame_Cmp.calls e1 i1 r1 d1 e2 i2 r2 d2 _ w (by unfold Plug.frame_Cmp.f; rw [if_pos ⟨b1, b2⟩])
/-- What is known of three frames' order. -/
def Rel (e1 : Bool) (i1 : Int) (r1 : Bool) (e2 : Bool) (i2 : Int) (r2 : Bool) (X V Y Z : Int) : Prop :=
  (X = 0 ∨ X = 1 ∨ X = -1) ∧ V = -X ∧ (X = 0 ↔ i1 = i2 ∧ e1 = e2 ∧ r1 = r2) ∧ (X ≤ 0 → Y ≤ 0 → Z ≤ 0 ∧ (X < 0 → Z < 0))
theorem ok_lt {e : Bool} {i : Int} {r : Bool} {d : ByteArray} (h : okF e i r d = true) (b : 0 ≤ i ∧ i < 4294967296) : i.toNat < if e then 536870912 else 2048 := by
  cases e
  · have := (FrameEq.okF_std i r d h).1; simp; omega
  · have := (FrameEq.okF_ext i r d h).1; simp; omega
theorem B_data (a b : List Bool) : (B a).data.toList = (B b).data.toList ↔ a = b := by
  rw [B_toList, B_toList, Facts.map_sg_inj]
theorem order_facts {e1 : Bool} {i1 : Int} {r1 : Bool} {d1 : ByteArray} {e2 : Bool} {i2 : Int} {r2 : Bool} {d2 : ByteArray} {e3 : Bool} {i3 : Int} {r3 : Bool} {d3 : ByteArray}
    (k1 : okF e1 i1 r1 d1 = true) (k2 : okF e2 i2 r2 d2 = true) (k3 : okF e3 i3 r3 d3 = true) (b1 : 0 ≤ i1 ∧ i1 < 4294967296) (b2 : 0 ≤ i2 ∧ i2 < 4294967296) (b3 : 0 ≤ i3 ∧ i3 < 4294967296) :
    Rel e1 i1 r1 e2 i2 r2 (FrameEq.cmpF e1 i1 r1 d1 e2 i2 r2 d2) (FrameEq.cmpF e2 i2 r2 d2 e1 i1 r1 d1) (FrameEq.cmpF e2 i2 r2 d2 e3 i3 r3 d3) (FrameEq.cmpF e1 i1 r1 d1 e3 i3 r3 d3) := by
  rw [cmpF_cb, cmpF_cb, cmpF_cb, cmpF_cb]
  refine ⟨cb_vals _ _, cb_swap _ _, ?_, fun h1 h2 => cb_trans _ _ _ h1 h2⟩
  rw [cb_zero, FrameEq.arbF_ok k1, FrameEq.arbF_ok k2, B_data]
  constructor
  · intro h
    obtain ⟨h1, h2, h3⟩ := arb_inj (ok_lt k1 b1) (ok_lt k2 b2) h
    exact ⟨by omega, h1, h3⟩
  · rintro ⟨rfl, rfl, rfl⟩; rfl
theorem order_cases {e1 : Bool} {i1 : Int} {r1 : Bool} {e2 : Bool} {i2 : Int} {r2 : Bool} {X V Y Z : Int} (h : Rel e1 i1 r1 e2 i2 r2 X V Y Z) :
    (X = 1 ∧ V = -1 ∧ ((i1 == i2) = false ∨ ((i1 == i2) = true ∧ (e1 == e2) = false) ∨ ((i1 == i2) = true ∧ (e1 == e2) = true ∧ (r1 == r2) = false))) ∨
    (X = 0 ∧ V = 0 ∧ (i1 == i2) = true ∧ (e1 == e2) = true ∧ (r1 == r2) = true ∧ ((0 < Y) = True ∨ ((0 < Y) = False ∧ (Z ≤ 0) = True))) ∨
    (X = -1 ∧ V = 1 ∧ ((i1 == i2) = false ∨ ((i1 == i2) = true ∧ (e1 == e2) = false) ∨ ((i1 == i2) = true ∧ (e1 == e2) = true ∧ (r1 == r2) = false)) ∧ ((0 < Y) = True ∨ ((0 < Y) = False ∧ (Z ≤ 0) = True ∧ (Z < 0) = True))) := by
  obtain ⟨h1, h2, h3, h4⟩ := h
  have hno : X ≠ 0 → ((i1 == i2) = false ∨ ((i1 == i2) = true ∧ (e1 == e2) = false) ∨ ((i1 == i2) = true ∧ (e1 == e2) = true ∧ (r1 == r2) = false)) := by
    intro hx
    by_cases ha : i1 = i2
    · by_cases hb : e1 = e2
      · by_cases hc : r1 = r2
        · exact absurd (h3.2 ⟨ha, hb, hc⟩) hx
        · exact .inr (.inr ⟨beq_iff_eq.2 ha, beq_iff_eq.2 hb, beq_eq_false_iff_ne.2 hc⟩)
      · exact .inr (.inl ⟨beq_iff_eq.2 ha, beq_eq_false_iff_ne.2 hb⟩)
    · exact .inl (beq_eq_false_iff_ne.2 ha)
  rcases h1 with rfl | rfl | rfl
  · obtain ⟨ha, hb, hc⟩ := h3.1 rfl
    refine .inr (.inl ⟨rfl, by omega, beq_iff_eq.2 ha, beq_iff_eq.2 hb, beq_iff_eq.2 hc, ?_⟩)
    by_cases hy : 0 < Y
    · exact .inl (eq_true hy)
    · exact .inr ⟨eq_false hy, eq_true (h4 (by omega) (by omega)).1⟩
  · exact .inl ⟨rfl, by omega, hno (by decide)⟩
  · refine .inr (.inr ⟨rfl, by omega, hno (by decide), ?_⟩)
    by_cases hy : 0 < Y
    · exact .inl (eq_true hy)
    · exact .inr ⟨eq_false hy, eq_true (h4 (by omega) (by omega)).1, eq_true ((h4 (by omega) (by omega)).2 (by omega))⟩

set_option maxRecDepth 100000 in
set_option maxHeartbeats 6400000 in
theorem order_calls (e1 : Bool) (i1 : Int) (r1 : Bool) (d1 : ByteArray) (e2 : Bool) (i2 : Int) (r2 : Bool) (d2 : ByteArray) (e3 : Bool) (i3 : Int) (r3 : Bool) (d3 : ByteArray) (w : World) (b1 : 0 ≤ i1 ∧ i1 < 4294967296) (b2 : 0 ≤ i2 ∧ i2 < 4294967296) (b3 : 0 ≤ i3 ∧ i3 < 4294967296) :
    Calls Try.prog 6 #[.agg #[.bool e1, .int .u32 i1, .bool r1, .string d1], .agg #[.bool e2, .int .u32 i2, .bool r2, .string d2], .agg #[.bool e3, .int .u32 i3, .bool r3, .string d3]] w fun e w' => e = .returned (.bool true) ∧ Below w.heap.size w w' := by
  have HF := Three.make w e1 i1 r1 d1 e2 i2 r2 d2 e3 i3 r3 d3
  go_enter Try.func6, Try.ntmps6
  go_wp2_with fail
  refine (known_calls _).mono ?_
  rintro x w1 ⟨rfl, hb⟩
  have HF := HF.later hb
  clear hb
  generalize hg : w.heap.size = g at *
  have HG := hid hg
  clear hg
  obtain ⟨x0, x1, x2, x3⟩ := frame_res HF.fst
  obtain ⟨y0, y1, y2, y3⟩ := frame_res HF.snd
  obtain ⟨z0, z1, z2, z3⟩ := frame_res HF.thd
  go_wp2_with (first
    | (go_at_call 12; with_reducible refine (few_calls _ _ _ _ _).mono ?_; rintro x w2 ⟨rfl, hb⟩; have HF' := HF.later hb; clear HF hb x0 x1 x2 x3 y0 y1 y2 y3 z0 z1 z2 z3; have HF := HF'; clear HF'; obtain ⟨x0, x1, x2, x3⟩ := frame_res HF.fst; obtain ⟨y0, y1, y2, y3⟩ := frame_res HF.snd; obtain ⟨z0, z1, z2, z3⟩ := frame_res HF.thd)
    | (go_at_call 13; with_reducible refine (frame_is _ _ _ _ _).mono ?_; rintro x w2 ⟨rfl, hb⟩; have HF' := HF.later hb; clear HF hb x0 x1 x2 x3 y0 y1 y2 y3 z0 z1 z2 z3; have HF := HF'; clear HF'; obtain ⟨x0, x1, x2, x3⟩ := frame_res HF.fst; obtain ⟨y0, y1, y2, y3⟩ := frame_res HF.snd; obtain ⟨z0, z1, z2, z3⟩ := frame_res HF.thd))
  all_goals try (go_ret; exact ⟨rfl, HF.below⟩)
  have k1 : okF e1 i1 r1 d1 = true := by assumption
  have k2 : okF e2 i2 r2 d2 = true := by assumption
  have k3' : (!okF e3 i3 r3 d3) = false := by assumption
  have k3 : okF e3 i3 r3 d3 = true := by simpa using k3'
  have hrel := order_facts k1 k2 k3 b1 b2 b3
  have HC12 := hid (Plug_cmp e1 i1 r1 d1 e2 i2 r2 d2 b1 b2)
  have HC23 := hid (Plug_cmp e2 i2 r2 d2 e3 i3 r3 d3 b2 b3)
  have HC13 := hid (Plug_cmp e1 i1 r1 d1 e3 i3 r3 d3 b1 b3)
  have HC21 := hid (Plug_cmp e2 i2 r2 d2 e1 i1 r1 d1 b2 b1)
  clear k1 k2 k3 k3' b1 b2 b3 x0 x1 x2 x3 y0 y1 y2 y3 z0 z1 z2 z3
  generalize FrameEq.cmpF e1 i1 r1 d1 e2 i2 r2 d2 = X at *
  generalize FrameEq.cmpF e2 i2 r2 d2 e3 i3 r3 d3 = Y at *
  generalize FrameEq.cmpF e1 i1 r1 d1 e3 i3 r3 d3 = Z at *
  generalize FrameEq.cmpF e2 i2 r2 d2 e1 i1 r1 d1 = V at *
  have HREL := hid hrel
  clear hrel
  have hsz := HF.below.size
  refine region_text (by kernel_rfl) (by kernel_rfl) (fun _ _ W => Three w W g (g + 1) (g + 2) e1 i1 r1 d1 e2 i2 r2 d2 e3 i3 r3 d3) ⟨HF.fst.drew, HF.snd.drew, HF.thd.drew, HF.below.drew⟩ ?_
  refine t_pure (.agg #[.bool e1, .int .u32 i1, .bool r1, .string d1]) (fun _ => rfl) (fun b γ W h => h) (fun b γ W h _ => by obtain ⟨x0, x1, x2, x3⟩ := frame_res h.fst; go_simp) ?_
  refine t_pure (.agg #[.bool e2, .int .u32 i2, .bool r2, .string d2]) (fun _ => rfl) (fun b γ W h => h) (fun b γ W h _ => by obtain ⟨x0, x1, x2, x3⟩ := frame_res h.snd; go_simp) ?_
  refine t_call (.int .i64 X) (fun _ => rfl) (f := 21) (args := #[.agg #[.bool e1, .int .u32 i1, .bool r1, .string d1], .agg #[.bool e2, .int .u32 i2, .bool r2, .string d2]]) (fun b γ W h _ => by go_simp) (fun b γ W h _ => (HC12.out W).mono (fun e w2 h2 => ⟨h2.1, h.later h2.2⟩)) ?_
  refine t_pure (.agg #[.bool e2, .int .u32 i2, .bool r2, .string d2]) (fun _ => rfl) (fun b γ W h => h) (fun b γ W h _ => by obtain ⟨x0, x1, x2, x3⟩ := frame_res h.snd; go_simp) ?_
  refine t_pure (.agg #[.bool e3, .int .u32 i3, .bool r3, .string d3]) (fun _ => rfl) (fun b γ W h => h) (fun b γ W h _ => by obtain ⟨x0, x1, x2, x3⟩ := frame_res h.thd; go_simp) ?_
  refine t_call (.int .i64 Y) (fun _ => rfl) (f := 21) (args := #[.agg #[.bool e2, .int .u32 i2, .bool r2, .string d2], .agg #[.bool e3, .int .u32 i3, .bool r3, .string d3]]) (fun b γ W h _ => by go_simp) (fun b γ W h _ => (HC23.out W).mono (fun e w2 h2 => ⟨h2.1, h.later h2.2⟩)) ?_
  refine t_pure (.agg #[.bool e1, .int .u32 i1, .bool r1, .string d1]) (fun _ => rfl) (fun b γ W h => h) (fun b γ W h _ => by obtain ⟨x0, x1, x2, x3⟩ := frame_res h.fst; go_simp) ?_
  refine t_pure (.agg #[.bool e3, .int .u32 i3, .bool r3, .string d3]) (fun _ => rfl) (fun b γ W h => h) (fun b γ W h _ => by obtain ⟨x0, x1, x2, x3⟩ := frame_res h.thd; go_simp) ?_
  refine t_call (.int .i64 Z) (fun _ => rfl) (f := 21) (args := #[.agg #[.bool e1, .int .u32 i1, .bool r1, .string d1], .agg #[.bool e3, .int .u32 i3, .bool r3, .string d3]]) (fun b γ W h _ => by go_simp) (fun b γ W h _ => (HC13.out W).mono (fun e w2 h2 => ⟨h2.1, h.later h2.2⟩)) ?_
  refine t_pure (.int .i64 X) (fun _ => rfl) (fun b γ W h => h) (fun b γ W h _ => by go_simp) ?_
  refine t_pure (.int .i64 Y) (fun _ => rfl) (fun b γ W h => h) (fun b γ W h _ => by go_simp) ?_
  refine t_pure (.int .i64 Z) (fun _ => rfl) (fun b γ W h => h) (fun b γ W h _ => by go_simp) ?_
  refine t_end ?_
  intro bq gq w5 hall HF5
  clear hall HF
  have HF := HF5
  clear HF5
  obtain ⟨x0, x1, x2, x3⟩ := frame_res HF.fst
  obtain ⟨y0, y1, y2, y3⟩ := frame_res HF.snd
  simp only [Act.put, List.setIfInBounds_toArray, List.set_cons_zero, List.set_cons_succ]
  rcases order_cases HREL.out with ⟨rfl, rfl, hs⟩ | ⟨rfl, rfl, h1, h2, h3, hs⟩ | ⟨rfl, rfl, hs, hs2⟩
  · rcases hs with ha | ⟨ha, hb⟩ | ⟨ha, hb, hc⟩
    all_goals
      go_wp2_with (go_at_call 21; with_reducible refine (HC21.out _).mono ?_; rintro x w2 ⟨rfl, hb⟩; have HF' := HF.later hb; clear HF hb x0 x1 x2 x3 y0 y1 y2 y3; have HF := HF'; clear HF')
      go_ret
      exact ⟨rfl, HF.below⟩
  · rcases hs with hy | ⟨hy, hz⟩
    all_goals
      go_wp2_with (go_at_call 21; with_reducible refine (HC21.out _).mono ?_; rintro x w2 ⟨rfl, hb⟩; have HF' := HF.later hb; clear HF hb x0 x1 x2 x3 y0 y1 y2 y3; have HF := HF'; clear HF')
      go_ret
      exact ⟨rfl, HF.below⟩
  · rcases hs with ha | ⟨ha, hb⟩ | ⟨ha, hb, hc⟩ <;> rcases hs2 with hy | ⟨hy, hz⟩
    all_goals
      go_wp2_with (go_at_call 21; with_reducible refine (HC21.out _).mono ?_; rintro x w2 ⟨rfl, hb⟩; have HF' := HF.later hb; clear HF hb x0 x1 x2 x3 y0 y1 y2 y3; have HF := HF'; clear HF')
      go_ret
      exact ⟨rfl, HF.below⟩
theorem order_walk (e1 : Bool) (i1 : Int) (r1 : Bool) (d1 : ByteArray) (e2 : Bool) (i2 : Int) (r2 : Bool) (d2 : ByteArray) (e3 : Bool) (i3 : Int) (r3 : Bool) (d3 : ByteArray) (w : World)
    (w1 : (Lit.int .u32 i1).wf = true) (_ : d1.size ≤ 9223372036854775807) (w2 : (Lit.int .u32 i2).wf = true) (_ : d2.size ≤ 9223372036854775807) (w3 : (Lit.int .u32 i3).wf = true) (_ : d3.size ≤ 9223372036854775807) :
    Calls Try.prog 6 #[.agg #[.bool e1, .int .u32 i1, .bool r1, .string d1], .agg #[.bool e2, .int .u32 i2, .bool r2, .string d2], .agg #[.bool e3, .int .u32 i3, .bool r3, .string d3]] w fun e w' => e = .returned (.bool true) ∧ Below w.heap.size w w' := by
  have b1 := bounds_u32 w1
  have b2 := bounds_u32 w2
  have b3 := bounds_u32 w3
  exact order_calls e1 i1 r1 d1 e2 i2 r2 d2 e3 i3 r3 d3 w (by omega) (by omega) (by omega)
end Go.Proofs.Ytdjlbdpajnlonaa.FrameL
