/- FrameWins (layer 3): on a wire where 0 wins the one that loses sees another bit than its own at the first one at which they differ, and the winner none. Conditions: none beyond the types of the arguments; what is no frame is let pass. -/
import Derived.Test.YtdjlbdpajnlonaaLawFrameOrder
namespace Go.Proofs.Ytdjlbdpajnlonaa.FrameL
set_option linter.unusedVariables false
set_option linter.unusedSimpArgs false
open Go Go.RowKit Go.Proofs.Ytdjlbdpajnlonaa.Lib Go.Proofs.Ytdjlbdpajnlonaa.Bits Go.Proofs.Ytdjlbdpajnlonaa.BitsW Go.Proofs.Ytdjlbdpajnlonaa.Frame Go.Proofs.Ytdjlbdpajnlonaa.FrameW Go.Proofs.YtdjlbdpajnlonaaW.PrintMore
attribute [local go_sem] max2_int min2_int max_two min_two
attribute [local go_sem high] QFr.eqA24

theorem first_apart : ∀ a b : List Bool, cmpL a b ≠ 0 → ∃ (p : List Bool) (c : Bool) (s u : List Bool), a = p ++ c :: s ∧ b = p ++ (!c) :: u ∧ cmpL a b = if c then 1 else -1
  | [], b, h => by simp [cmpL] at h
  | a :: l, [], h => by simp [cmpL] at h
  | a :: l, b :: m, h => by
    by_cases hab : a = b
    · subst hab
      have e : cmpL (a :: l) (a :: m) = cmpL l m := by simp [cmpL]
      rw [e] at h
      obtain ⟨p, c, s, u, h1, h2, h3⟩ := first_apart l m h
      exact ⟨a :: p, c, s, u, by rw [h1]; rfl, by rw [h2]; rfl, by rw [e, h3]⟩
    · refine ⟨[], a, l, m, rfl, ?_, ?_⟩
      · cases a <;> cases b <;> simp at hab ⊢
      · simp [cmpL, hab]
theorem zip_self : ∀ p : List Bool, List.zipWith (· && ·) p p = p
  | [] => rfl
  | a :: p => by rw [List.zipWith_cons_cons, zip_self p, Bool.and_self]
/-- What is known of two frames' first bits. -/
theorem wins_facts {e1 : Bool} {i1 : Int} {r1 : Bool} {d1 : ByteArray} {e2 : Bool} {i2 : Int} {r2 : Bool} {d2 : ByteArray} (k1 : okF e1 i1 r1 d1 = true) (k2 : okF e2 i2 r2 d2 = true) :
    (FrameEq.cmpF e1 i1 r1 d1 e2 i2 r2 d2 = 0 ∧ arbF e1 i1 r1 d1 = arbF e2 i2 r2 d2) ∨
    ∃ (p : List Bool) (c : Bool) (s u : List Bool), p.length + 1 + s.length ≤ 33 ∧ p.length + 1 + u.length ≤ 33 ∧ arbF e1 i1 r1 d1 = B (p ++ c :: s) ∧ arbF e2 i2 r2 d2 = B (p ++ (!c) :: u) ∧ FrameEq.cmpF e1 i1 r1 d1 e2 i2 r2 d2 = if c then 1 else -1 := by
  have hc : FrameEq.cmpF e1 i1 r1 d1 e2 i2 r2 d2 = cmpL (arbL e1 i1.toNat r1) (arbL e2 i2.toNat r2) := by
    exact FrameEq.cmpF_ok k1 k2
  rw [FrameEq.arbF_ok k1, FrameEq.arbF_ok k2]
  by_cases h : cmpL (arbL e1 i1.toNat r1) (arbL e2 i2.toNat r2) = 0
  · left
    refine ⟨hc.trans h, ?_⟩
    rcases arb_apart e1 i1.toNat r1 e2 i2.toNat r2 with hl | hl
    · rw [(cmpL_zero _ _ hl).1 h]
    · exact absurd h hl
  · right
    obtain ⟨p, c, s, u, h1, h2, h3⟩ := first_apart _ _ h
    have l1 := arbL_length e1 i1.toNat r1
    have l2 := arbL_length e2 i2.toNat r2
    rw [h1] at l1
    rw [h2] at l2
    simp only [List.length_append, List.length_cons] at l1 l2
    refine ⟨p, c, s, u, ?_, ?_, by rw [h1], by rw [h2], hc.trans h3⟩
    · clear h h1 h2 h3 l2; split at l1 <;> omega
    · clear h h1 h2 h3 l1; split at l2 <;> omega
theorem B_pre (p : List Bool) (c : Bool) (s : List Bool) : (B (p ++ c :: s)).extract 0 (p.length + 1) = B (p ++ [c]) := by
  rw [Facts.B_extract, List.drop_zero, Nat.sub_zero]
  congr 1
  rw [List.take_append, List.take_of_length_le (by omega)]
  simp
/-- Two frames in memory. -/
structure Two (w0 w : World) (g1 g2 : Nat) (e1 : Bool) (i1 : Int) (r1 : Bool) (d1 : ByteArray) (e2 : Bool) (i2 : Int) (r2 : Bool) (d2 : ByteArray) : Prop where
  fst : Blk w g1 24 [.bool e1, .int .u32 i1, .bool r1, .string d1]
  snd : Blk w g2 24 [.bool e2, .int .u32 i2, .bool r2, .string d2]
  below : Below w0.heap.size w0 w
theorem Two.later {w0 w w' : World} {g1 g2 : Nat} {e1 : Bool} {i1 : Int} {r1 : Bool} {d1 : ByteArray} {e2 : Bool} {i2 : Int} {r2 : Bool} {d2 : ByteArray}
    (h : Two w0 w g1 g2 e1 i1 r1 d1 e2 i2 r2 d2) (hb : Below w.heap.size w w') : Two w0 w' g1 g2 e1 i1 r1 d1 e2 i2 r2 d2 :=
  ⟨h.fst.below hb, h.snd.below hb, h.below.trans (hb.mono h.below.size)⟩
theorem Two.make (w : World) (e1 : Bool) (i1 : Int) (r1 : Bool) (d1 : ByteArray) (e2 : Bool) (i2 : Int) (r2 : Bool) (d2 : ByteArray) :
    Two w ((w.alloc (.cells #[.bool e1, .int .u32 i1, .bool r1, .string d1] 24)).alloc (.cells #[.bool e2, .int .u32 i2, .bool r2, .string d2] 24))
      w.heap.size (w.heap.size + 1) e1 i1 r1 d1 e2 i2 r2 d2 := by
  have s1 : (w.alloc (.cells #[.bool e1, .int .u32 i1, .bool r1, .string d1] 24)).heap.size = w.heap.size + 1 := by simp
  refine ⟨(Blk.new w _ _).alloc _, ?_, ((Below.refl _ _).alloc (Nat.le_refl _) _).alloc (by simp) _⟩
  have := Blk.new (w.alloc (.cells #[.bool e1, .int .u32 i1, .bool r1, .string d1] 24)) [.bool e2, .int .u32 i2, .bool r2, .string d2] 24
  rw [s1] at this
  exact this
theorem Plug_arb (e : Bool) (i : Int) (r : Bool) (d : ByteArray) (b : 0 ≤ i ∧ i < 4294967296) (w : World) :
    Calls Try.prog 17 #[.agg #[.bool e, .int .u32 i, .bool r, .string d]] w fun y w' => y = .returned (.string (arbF e i r d)) ∧ Below w.heap.size w w' :=
  Plug.frame_Arb.calls e i r d _ w (by unfold Plug.frame_Arb.f; rw [if_pos b])
theorem B_byte (p : List Bool) (c : Bool) (s : List Bool) (h : p.length < (B (p ++ c :: s)).size) : (((B (p ++ c :: s))[p.length]'h).toNat : Int) = if c then 49 else 48 := by
  have h2 : p.length < (B (p ++ c :: s)).data.toList.length := by rw [size_list]; exact h
  have e : (B (p ++ c :: s))[p.length]'h = (B (p ++ c :: s)).data.toList[p.length]'h2 := by rw [Array.getElem_toList]; rfl
  rw [e]
  simp only [B_toList, List.getElem_map]
  rw [List.getElem_append_right (Nat.le_refl _)]
  simp only [Nat.sub_self, List.getElem_cons_zero]
  cases c <;> rfl
theorem B_bytes (p : List Bool) (s : List Bool) (j : Nat) (hj : j < p.length) (h : j < (B (p ++ s)).size) : (((B (p ++ s))[j]'h).toNat : Int) = ((sg (p[j]'hj)).toNat : Int) := by
  have h2 : j < (B (p ++ s)).data.toList.length := by rw [size_list]; exact h
  have e : (B (p ++ s))[j]'h = (B (p ++ s)).data.toList[j]'h2 := by rw [Array.getElem_toList]; rfl
  rw [e]
  simp only [B_toList, List.getElem_map]
  rw [List.getElem_append_left hj]
theorem and_pre (p : List Bool) (c : Bool) : List.zipWith (· && ·) (p ++ [c]) (p ++ [!c]) = p ++ [false] := by
  rw [List.zipWith_append (by rfl), zip_self]
  cases c <;> rfl
/-- Two rows that differ first at a place. -/
theorem pair_facts (p : List Bool) (c : Bool) (s u : List Bool) (hs : p.length + 1 + s.length ≤ 33) (hu : p.length + 1 + u.length ≤ 33) :
    ∃ (X Y V V' : ByteArray) (D : Nat), B (p ++ c :: s) = X ∧ B (p ++ (!c) :: u) = Y ∧ D < X.size ∧ D < Y.size ∧ X.size ≤ 33 ∧ Y.size ≤ 33 ∧
      (∀ (hx : D < X.size) (hy : D < Y.size), ((X[D]'hx).toNat : Int) = (if c then 49 else 48) ∧ ((Y[D]'hy).toNat : Int) = (if c then 48 else 49)) ∧
      (∀ (j : Nat), j < D → ∀ (hx : j < X.size) (hy : j < Y.size), ∃ v : Int, ((X[j]'hx).toNat : Int) = v ∧ ((Y[j]'hy).toNat : Int) = v) ∧
      X.extract 0 (D + 1) = V ∧ Y.extract 0 (D + 1) = V' ∧ (V.toList == V'.toList) = false ∧ (V'.toList == V.toList) = false ∧ Plug.ostinatoref1_And.f V V' = some (if c then V' else V) := by
  refine ⟨_, _, B (p ++ [c]), B (p ++ [!c]), p.length, rfl, rfl, ?_, ?_, ?_, ?_, ?_, ?_, B_pre _ _ _, B_pre _ _ _, ?_, ?_, ?_⟩
  · rw [B_size]; simp
  · rw [B_size]; simp
  · rw [B_size]; simp; omega
  · rw [B_size]; simp; omega
  · intro hx hy
    rw [B_byte, B_byte]
    cases c <;> exact ⟨rfl, rfl⟩
  · intro j hj hx hy
    exact ⟨_, B_bytes _ _ j hj hx, B_bytes _ _ j hj hy⟩
  · rw [Facts.B_list, Facts.B_list, beq_eq_false_iff_ne]
    intro h
    have := Facts.map_sg_inj.1 h
    simp at this
  · rw [Facts.B_list, Facts.B_list, beq_eq_false_iff_ne]
    intro h
    have := Facts.map_sg_inj.1 h
    simp at this
  · unfold Plug.ostinatoref1_And.f
    rw [if_pos (by rw [B_size, B_size]; simp; omega), bitsOf_B, bitsOf_B, and_pre]
    cases c <;> rfl
set_option maxRecDepth 100000 in
set_option maxHeartbeats 6400000 in
theorem wins_calls (e1 : Bool) (i1 : Int) (r1 : Bool) (d1 : ByteArray) (e2 : Bool) (i2 : Int) (r2 : Bool) (d2 : ByteArray) (w : World) (b1 : 0 ≤ i1 ∧ i1 < 4294967296) (b2 : 0 ≤ i2 ∧ i2 < 4294967296) :
    Calls Try.prog 7 #[.agg #[.bool e1, .int .u32 i1, .bool r1, .string d1], .agg #[.bool e2, .int .u32 i2, .bool r2, .string d2]] w fun e w' => e = .returned (.bool true) ∧ Below w.heap.size w w' := by
  have HF := Two.make w e1 i1 r1 d1 e2 i2 r2 d2
  have HB1 := hid b1
  have HB2 := hid b2
  clear b1 b2
  go_enter Try.func7, Try.ntmps7
  go_wp2_with fail
  refine (known_calls _).mono ?_
  rintro x w1 ⟨rfl, hb⟩
  have HF := HF.later hb
  clear hb
  generalize hg : w.heap.size = g at *
  have HG := hid hg
  clear hg
  obtain ⟨x0, x1, x2, x3⟩ := frame_res HF.fst
  obtain ⟨y0, y1, y2, y3⟩ := frame_res HF.snd
  go_wp2_with (first
    | (go_at_call 12; with_reducible refine (few_calls _ _ _ _ _).mono ?_; rintro x w2 ⟨rfl, hb⟩; have HF' := HF.later hb; clear HF hb x0 x1 x2 x3 y0 y1 y2 y3; have HF := HF'; clear HF'; obtain ⟨x0, x1, x2, x3⟩ := frame_res HF.fst; obtain ⟨y0, y1, y2, y3⟩ := frame_res HF.snd)
    | (go_at_call 13; with_reducible refine (frame_is _ _ _ _ _).mono ?_; rintro x w2 ⟨rfl, hb⟩; have HF' := HF.later hb; clear HF hb x0 x1 x2 x3 y0 y1 y2 y3; have HF := HF'; clear HF'; obtain ⟨x0, x1, x2, x3⟩ := frame_res HF.fst; obtain ⟨y0, y1, y2, y3⟩ := frame_res HF.snd))
  all_goals try (go_ret; exact ⟨rfl, HF.below⟩)
  have k1 : okF e1 i1 r1 d1 = true := by assumption
  have k2' : (!okF e2 i2 r2 d2) = false := by assumption
  have k2 : okF e2 i2 r2 d2 = true := by simpa using k2'
  have hw := wins_facts k1 k2
  have HP1 := hid (Plug_arb e1 i1 r1 d1 HB1.out)
  have HP2 := hid (Plug_arb e2 i2 r2 d2 HB2.out)
  have HC12 := hid (Plug_cmp e1 i1 r1 d1 e2 i2 r2 d2 HB1.out HB2.out)
  generalize FrameEq.cmpF e1 i1 r1 d1 e2 i2 r2 d2 = K at *
  generalize arbF e1 i1 r1 d1 = X at *
  generalize arbF e2 i2 r2 d2 = Y at *
  clear k1 k2 k2' x0 x1 x2 x3 y0 y1 y2 y3
  refine region_text (by kernel_rfl) (by kernel_rfl) (fun _ _ W => Two w W g (g + 1) e1 i1 r1 d1 e2 i2 r2 d2) ⟨HF.fst.drew, HF.snd.drew, HF.below.drew⟩ ?_
  clear HF
  iterate 6 ((try simp only [Act.put, List.setIfInBounds_toArray, List.set_cons_zero, List.set_cons_succ]); first
    | (refine t_skip (fun _ => rfl) (fun b γ W h => h) ?_)
    | (refine t_call (.string X) (fun _ => rfl) (f := 17) (args := #[.agg #[.bool e1, .int .u32 i1, .bool r1, .string d1]]) ?_ (fun b γ W h _ => (HP1.out W).mono (fun e w2 h2 => ⟨h2.1, h.later h2.2⟩)) ?_; · (intro b γ W h _; go_simp; done))
    | (refine t_call (.string Y) (fun _ => rfl) (f := 17) (args := #[.agg #[.bool e2, .int .u32 i2, .bool r2, .string d2]]) ?_ (fun b γ W h _ => (HP2.out W).mono (fun e w2 h2 => ⟨h2.1, h.later h2.2⟩)) ?_; · (intro b γ W h _; go_simp; done))
    | (refine t_pure ?_ (fun _ => rfl) (fun b γ W h => h) (fun b γ W h _ => ?_) ?_; rotate_left; · (obtain ⟨x0, x1, x2, x3⟩ := frame_res h.fst; obtain ⟨y0, y1, y2, y3⟩ := frame_res h.snd; go_simp; rfl)))
  refine t_end ?_
  intro bq gq w5 hall HF
  simp only [Act.put, List.setIfInBounds_toArray, List.set_cons_zero, List.set_cons_succ]
  clear hall
  obtain ⟨x0, x1, x2, x3⟩ := frame_res HF.fst
  obtain ⟨y0, y1, y2, y3⟩ := frame_res HF.snd
  go_wp2_with fail
  refine (HC12.out _).mono ?_
  rintro x w6 ⟨rfl, hb⟩
  have HB := HF.below.trans (hb.mono HF.below.size)
  clear HF hb x0 x1 x2 x3 y0 y1 y2 y3 HP1 HP2 HC12
  rcases hw with ⟨rfl, rfl⟩ | ⟨p, c, s, u, hs, hu, rfl, rfl, rfl⟩
  · go_wp2_with fail
    go_ret
    exact ⟨rfl, HB⟩
  · obtain ⟨X, Y, V, V', D, hX, hY, f1, f2, f3, f4, f5, f6, f7, f8, f9, f10, f11⟩ := pair_facts p c s u hs hu
    rw [hX, hY]
    clear hX hY hs hu
    have F6 := hid f6
    have F11 := hid f11
    have HW := hid HG.out
    have f5' := f5 f1 f2
    clear f5 f6 f11
    cases c
    all_goals simp only [Bool.false_eq_true, if_false, if_true, Int.reduceNeg, reduceIte] at f5' ⊢
    all_goals
      obtain ⟨f51, f52⟩ := f5'
      have f12 := F11.out
      simp only [Bool.false_eq_true, if_false, if_true] at f12
      have F12 := hid f12
      clear f12 F11
      go_wp2_with fail
      go_loopw [8] (fun i wr => ∃ j : Nat, j ≤ D ∧ i = .int .i64 j ∧ Below w.heap.size w wr) (fun i _ => D - (intOf i).toNat)
      case atStart => exact ⟨0, Nat.zero_le _, rfl, HB⟩
      case round =>
        clear HB
        obtain ⟨j, hj, rfl, HB⟩ := hrel
        by_cases hlt : j < D
        · have hx : j < X.size := by omega
          have hy : j < Y.size := by omega
          obtain ⟨v, hv1, hv2⟩ := F6.out j hlt hx hy
          have u0 : 0 ≤ (j : Int) := Int.natCast_nonneg _
          have u1 : (j : Int) ≤ 33 := by omega
          have HX := hid f51
          have HY := hid f52
          clear f51 f52
          go_wp2_with fail
          refine region_text (by kernel_rfl) (by kernel_rfl) (fun _ _ W => Below w.heap.size w W) HB.drew ?_
          clear HB
          iterate 19 ((try simp only [Act.put, List.setIfInBounds_toArray, List.set_cons_zero, List.set_cons_succ]); first
            | (refine t_skip (fun _ => rfl) (fun b γ W h => h) ?_)
            | (refine t_pure ?_ (fun _ => rfl) (fun b γ W h => h) (fun b γ W h _ => ?_) ?_; rotate_left; · (go_simp; rfl)))
          refine t_end ?_
          intro bq gq w9 hall HB
          clear hall
          (try simp only [Act.put, List.setIfInBounds_toArray, List.set_cons_zero, List.set_cons_succ])
          go_wp2_with fail
          go_roundw
          case rel => exact ⟨j + 1, by omega, by go_num, HB⟩
          case measure => simp [intOf]; omega
        · obtain rfl : j = D := by omega
          have u0 : 0 ≤ (j : Int) := Int.natCast_nonneg _
          have u1 : (j : Int) ≤ 33 := by omega
          have g1 : ((X.size : Int) ≤ (j : Int)) = False := eq_false (by omega)
          have g2 : ((Y.size : Int) ≤ (j : Int)) = False := eq_false (by omega)
          have hwr : IntKind.i64.wrap ((j : Int) + 1) = (j : Int) + 1 := by rw [IntKind.wrap_i64]; omega
          have v0 : (0 : Int) ≤ (j : Int) + 1 := by omega
          have v1 : (j : Int) + 1 ≤ (X.size : Int) := by omega
          have v2 : (j : Int) + 1 ≤ (Y.size : Int) := by omega
          go_wp2_with fail
          refine region_text (by kernel_rfl) (by kernel_rfl) (fun _ _ W => Below w.heap.size w W) HB.drew ?_
          clear HB
          iterate 19 ((try simp only [Act.put, List.setIfInBounds_toArray, List.set_cons_zero, List.set_cons_succ]); first
            | (refine t_skip (fun _ => rfl) (fun b γ W h => h) ?_)
            | (refine t_pure ?_ (fun _ => rfl) (fun b γ W h => h) (fun b γ W h _ => ?_) ?_; rotate_left; · (go_simp; rfl)))
          refine t_end ?_
          intro bq gq w9 hall HB
          clear hall
          (try simp only [Act.put, List.setIfInBounds_toArray, List.set_cons_zero, List.set_cons_succ])
          go_wp2_with fail
          refine region_text (by kernel_rfl) (by kernel_rfl) (fun _ _ W => Below w.heap.size w W) HB.drew ?_
          clear HB
          iterate 10 ((try simp only [Act.put, List.setIfInBounds_toArray, List.set_cons_zero, List.set_cons_succ]); first
            | (refine t_skip (fun _ => rfl) (fun b γ W h => h) ?_)
            | (refine t_call (.string _) (fun _ => rfl) (f := 25) (args := #[.string V, .string V']) ?_ (fun b γ W h _ => (Plug.ostinatoref1_And.calls V V' _ W F12.out).mono (fun e w2 h2 => ⟨h2.1, h.trans (h2.2.below.mono h.size)⟩)) ?_; · (intro b γ W h _; go_simp; done))
            | (refine t_pure ?_ (fun _ => rfl) (fun b γ W h => h) (fun b γ W h _ => ?_) ?_; rotate_left; · (go_simp; rfl)))
          refine t_end ?_
          intro bq gq w9 hall HB
          clear hall
          (try simp only [Act.put, List.setIfInBounds_toArray, List.set_cons_zero, List.set_cons_succ])
          go_wp2_with fail
          go_ret
          exact ⟨rfl, HB⟩
theorem wins_walk (e1 : Bool) (i1 : Int) (r1 : Bool) (d1 : ByteArray) (e2 : Bool) (i2 : Int) (r2 : Bool) (d2 : ByteArray) (w : World) (w1 : (Lit.int .u32 i1).wf = true) (_ : d1.size ≤ 9223372036854775807) (w2 : (Lit.int .u32 i2).wf = true) (_ : d2.size ≤ 9223372036854775807) :
    Calls Try.prog 7 #[.agg #[.bool e1, .int .u32 i1, .bool r1, .string d1], .agg #[.bool e2, .int .u32 i2, .bool r2, .string d2]] w fun e w' => e = .returned (.bool true) ∧ Below w.heap.size w w' :=
  wins_calls e1 i1 r1 d1 e2 i2 r2 d2 w (by have := bounds_u32 w1; omega) (by have := bounds_u32 w2; omega)
end Go.Proofs.Ytdjlbdpajnlonaa.FrameL
