/- The walks of package mac: a bit of a frame that the node sends. -/
import Derived.Test.YtpkpnaedacefaaaGreatMacE
namespace Go.Proofs.YtpkpnaedacefaaaGreat.MacW
set_option linter.unusedVariables false
set_option linter.unusedSimpArgs false
open Go Go.RowKit Go.Proofs.YtpkpnaedacefaaaGreat.Lib Go.Proofs.YtpkpnaedacefaaaGreat.Bits Go.Proofs.YtpkpnaedacefaaaGreat.BitsW Go.Proofs.YtpkpnaedacefaaaGreat.StuffW Go.Proofs.YtpkpnaedacefaaaGreat.Frame Go.Proofs.YtpkpnaedacefaaaGreat.FrameW Go.Proofs.YtpkpnaedacefaaaGreat.Code Go.Proofs.YtpkpnaedacefaaaGreat.CodeW Go.Proofs.YtpkpnaedacefaaaGreat.Mac Go.Proofs.YtpkpnaedacefaaaGreat.PrintMore
attribute [local go_sem] max2_int min2_int max_two min_two
theorem sg_low (c : Bool) : (((sg c).toNat : Int) == 48) = !c := by cases c <;> rfl
theorem sg_bne (c d : Bool) : (((sg c).toNat : Int) != ((sg d).toNat : Int)) = (c != d) := by cases c <;> cases d <;> rfl
attribute [local go_sem] sg_test sg_low sg_bne
theorem grown_far {w w1 : World} {row : Option Nat} {q : Nat} (h : w.grownBy w1 row) (hq : w.heap.size ≤ q) (i : Nat) (u : Value) : w.grownBy (w1.setCell ⟨q, i, none⟩ u) row :=
  ⟨h.os, h.tape, h.output, by simpa using h.size, fun k hk hne => (Below.heap_setCell w1 ⟨q, i, none⟩ u k (by show k ≠ q; omega)).trans (h.block k hk hne)⟩
theorem at_far {w W : World} {g q : Nat} {m : M} (h : At w W g m) (hq : w.heap.size ≤ q) (hne : g ≠ q) (i : Nat) (u : Value) : At w (W.setCell ⟨q, i, none⟩ u) g m := ⟨h.blk.far (p := ⟨q, i, none⟩) hne u, grown_far h.grown hq i u⟩
/-- The region in which the frame is kept. -/
structure SnA (w : World) (g : Nat) (m : M) (b : Nat → Bool) (γ : Nat → Nat) (W : World) : Prop where
  node : At w W g m
  ord : b 16 = true → b 15 = true
  box0 : b 15 = true → b 16 = false → Blk W (γ 15) 35 [.bool false, .int .u32 0, .bool false, .string ⟨#[]⟩]
  box1 : b 16 = true → Blk W (γ 15) 35 (fc m.f)
  ne : b 15 = true → g ≠ γ 15 ∧ w.heap.size ≤ γ 15
theorem SnA.up {w : World} {g : Nat} {m : M} {b : Nat → Bool} {γ : Nat → Nat} {W : World} (h : SnA w g m b γ W) (i : Nat) (h15 : i ≠ 15) (h16 : i ≠ 16) : SnA w g m (up b i) γ W := by
  have e15 : Lib.up b i 15 = b 15 := up_of_ne (fun e => h15 e.symm)
  have e16 : Lib.up b i 16 = b 16 := up_of_ne (fun e => h16 e.symm)
  exact ⟨h.node, by rw [e15, e16]; exact h.ord, by rw [e15, e16]; exact h.box0, by rw [e16]; exact h.box1, by rw [e15]; exact h.ne⟩
/-- The node, and the frame that is kept. -/
structure Sn (w : World) (g p : Nat) (m : M) (f : Fm) (W : World) : Prop where
  node : At w W g m
  box : Blk W p 35 (fc f)
theorem Sn.drew {w : World} {g p : Nat} {m : M} {f : Fm} {W : World} (h : Sn w g p m f W) : Sn w g p m f W.drew := ⟨at_drew h.node, h.box.drew⟩
theorem Sn.fr {w : World} {g p : Nat} {m : M} {f : Fm} {W : World} (h : Sn w g p m f W) : W.cell? ⟨p, 0, none⟩ = some (.bool f.e) ∧ W.cell? ⟨p, 1, none⟩ = some (.int .u32 f.i) ∧ W.cell? ⟨p, 2, none⟩ = some (.bool f.r) ∧ W.cell? ⟨p, 3, none⟩ = some (.string f.d) :=
  ⟨h.box.cell 0, h.box.cell 1, h.box.cell 2, h.box.cell 3⟩
theorem grown_row {w W W' : World} {g p : Nat} (h : w.grownBy W (some g)) (k : W.grownBy W' (some p)) (hp : w.heap.size ≤ p) : w.grownBy W' (some g) :=
  ⟨k.os.trans h.os, k.tape.trans h.tape, k.output.trans h.output, Nat.le_trans h.size k.size, fun i hi hne => (k.block i (Nat.lt_of_lt_of_le hi h.size) (by simp only [ne_eq, Option.some.injEq]; omega)).trans (h.block i hi hne)⟩
theorem evs_ne {W : World} {base p : Nat} {T : TypeId} {cs : List Value} {v : Value} {L : List Ev} (h : Evs W base v L) (hb : Blk W p T cs) (hT : T ≠ 60) : v.ownBlock ≠ some p := by
  rcases h.2 with ⟨rfl, _⟩ | ⟨g, cap, cur, rfl, h3, h4, _⟩
  · simp [Value.ownBlock]
  · simp only [Value.ownBlock, ne_eq, Option.some.injEq]
    intro e
    subst e
    have := hb.symm.trans h4
    simp only [Option.some.injEq, Obj.cells.injEq] at this
    exact hT this.2.1
theorem flags_len (m : M) (x : Ev) : (m.flags x).2.length ≤ 10 := by
  unfold M.flags
  split <;> simp
theorem hears_len (m : M) (c : Bool) : (m.hears c).2.length ≤ 10 := by
  unfold M.hears
  split
  · exact flags_len _ _
  · split <;> simp
/-- The region in which a lost frame is told. -/
structure SnB (w : World) (g p : Nat) (m0 m1 : M) (f : Fm) (x : Ev) (L : List Ev) (b : Nat → Bool) (γ : Nat → Nat) (W : World) : Prop where
  node : At w W g (if b 5 then m1 else m0)
  box : Blk W p 35 (fc f)
  ord : b 6 = true → b 2 = true ∧ b 5 = true
  ev1 : b 2 = true → b 6 = false → Evs W w.heap.size (.slice (some ⟨γ 2, 0, none⟩) 1 1) [x]
  ev2 : b 5 = true → b 6 = false → Evs W w.heap.size (decV L.length (γ 5)) L
  out : b 6 = true → Evs W w.heap.size (decV (x :: L).length (γ 6)) (x :: L)
theorem SnB.up {w : World} {g p : Nat} {m0 m1 : M} {f : Fm} {x : Ev} {L : List Ev} {b : Nat → Bool} {γ : Nat → Nat} {W : World} (h : SnB w g p m0 m1 f x L b γ W) (i : Nat) (h2 : i ≠ 2) (h5 : i ≠ 5) (h6 : i ≠ 6) : SnB w g p m0 m1 f x L (up b i) γ W := by
  have e2 : Lib.up b i 2 = b 2 := up_of_ne (fun e => h2 e.symm)
  have e5 : Lib.up b i 5 = b 5 := up_of_ne (fun e => h5 e.symm)
  have e6 : Lib.up b i 6 = b 6 := up_of_ne (fun e => h6 e.symm)
  exact ⟨by rw [e5]; exact h.node, h.box, by rw [e2, e5, e6]; exact h.ord, by rw [e2, e6]; exact h.ev1, by rw [e5, e6]; exact h.ev2, by rw [e6]; exact h.out⟩
/-- The last bits of a node's frame, and whether its bit is another's. -/
theorem cases_of (d c k a : Bool) : (d = true ∧ c = false ∧ a = true) ∨ (k = true ∧ c = true) ∨ (k = false ∧ ((d = true ∧ c = false ∧ a = false) ∨ (d = false ∧ c = true))) ∨
    ((d = true ∧ c = false ∧ a = false ∧ k = true) ∨ (d = true ∧ c = true ∧ k = false) ∨ (d = false ∧ c = false ∧ k = false) ∨ (d = false ∧ c = false ∧ k = true)) := by
  revert d c k a; decide
set_option maxRecDepth 100000 in
set_option maxHeartbeats 6400000 in
theorem sends_calls (g : Nat) (m : M) (c : Bool) (w : World) (hb : Blk w g MT (mc m)) (hi : m.r.Inv) (he : m.r.en ≤ 1000) (hp : m.pos < m.bits.length) (hL : m.bits.length ≤ 1000) : Calls Tryz.prog 40 #[.pointer (some ⟨g, 0, none⟩), .int .u8 ((sg c).toNat : Int)] w fun e w' =>
    ∃ v, e = .returned v ∧ At w w' g (m.sends c).1 ∧ Evs w' w.heap.size v (m.sends c).2 := by
  have H0 := hid (here_refl hb)
  have HB := hid (idx_bit m.bits m.pos hp)
  have hX : m.sends c = if m.bits.getD m.pos false = true ∧ c = false ∧ m.pos < m.arb then ((m.done.hears c).1, ⟨3, m.f, 0⟩ :: (m.done.hears c).2)
    else if m.pos + 9 = m.bits.length ∧ c = true then m.fails m.f 71
    else if ¬ m.pos + 9 = m.bits.length ∧ c ≠ m.bits.getD m.pos false then m.fails m.f 70
    else if m.pos + 1 < m.bits.length then ({ m with r := (m.r.push c).1, pos := m.pos + 1 }, [])
    else (M.pauses { m.done with r := (m.r.push c).1, sent := sentV m.sent m.got true }, [⟨1, m.f, 0⟩]) := rfl
  generalize m.sends c = X at hX
  generalize m.bits.getD m.pos false = d at hX HB
  have HF := hid (fun x W h => fails_calls g m m.f x W h)
  have hP := fun W h => npush_calls g m c W h (inv_ok hi (by omega)) (by have := hi.len; omega) hi.rn (by omega)
  generalize m.r.push c = z at hX hP
  obtain ⟨r', q⟩ := z
  simp only at hX hP
  have HP := hid hP
  clear hP
  have HDD := hid (fun W h => done_calls g m W h)
  have HH := hid (fun W h => hears_calls g m.done false W h hi he)
  have HGL := hid hb.lt
  have HLL := hid (hears_len m.done false)
  have HSZ := hid (B_size m.bits)
  have ek : ((m.pos : Int) == (m.bits.length : Int) - 9) = decide (m.pos + 9 = m.bits.length) := by rw [Bool.eq_iff_iff]; simp only [beq_iff_eq, decide_eq_true_eq]; omega
  have ek' : ((m.pos : Int) = (m.bits.length : Int) - 9) = (m.pos + 9 = m.bits.length) := propext (by omega)
  have ea : decide ((m.pos : Int) < (m.arb : Int)) = decide (m.pos < m.arb) := by rw [Bool.eq_iff_iff]; simp only [decide_eq_true_eq]; omega
  have ew : IntKind.i64.wrap ((m.bits.length : Int) - 9) = (m.bits.length : Int) - 9 := by rw [IntKind.wrap_i64]; omega
  have EK := hid ek
  have EA := hid ea
  have EW := hid ew
  have HPL := hid (show m.pos ≤ 1000 by omega)
  have HC := hid (cases_of d c (decide (m.pos + 9 = m.bits.length)) (decide (m.pos < m.arb)))
  have HX := hid hX
  clear hX hb hp hi he ek ea ew ek'
  go_enter Tryz.func40, Tryz.ntmps40
  go_wp2_with fail
  refine region_text (by kernel_rfl) (by kernel_rfl) (SnA w g m) ⟨at_drew H0.out, fun h => absurd h Bool.false_ne_true, fun h => absurd h Bool.false_ne_true, fun h => absurd h Bool.false_ne_true, fun h => absurd h Bool.false_ne_true⟩ ?_
  iterate 15 ((try simp only [Act.put, List.setIfInBounds_toArray, List.set_cons_zero, List.set_cons_succ]); (refine t_pure ?_ (fun _ => rfl) (fun b γ W h => h.up _ (by decide) (by decide)) (fun b γ W h _ => ?_) ?_; rotate_left; · (obtain ⟨_, _, _, _, _, k5, k6, k7, k8, _, k10, _, k12⟩ := hd13 h.node.blk; have q := HB.out W; go_simp; rfl)))
  try simp only [Act.put, List.setIfInBounds_toArray, List.set_cons_zero, List.set_cons_succ]
  refine t_alloc (fun _ => rfl) (fun b γ W h hb => ⟨W.alloc (.cells #[.bool false, .int .u32 0, .bool false, .string ⟨#[]⟩] 35), by go_simp, ?_⟩) ?_
  · have h16 : b 16 = false := by
      cases h16 : b 16
      · rfl
      · rw [h.ord h16] at hb; cases hb
    have e16 : Lib.up b 15 16 = false := by rw [up_of_ne (by decide), h16]
    have eg : upd γ 15 W.heap.size 15 = W.heap.size := by simp [upd]
    refine ⟨⟨h.node.blk.alloc _, grown_alloc h.node.grown _⟩, fun k => ?_, fun _ _ => ?_, fun k => ?_, fun _ => ?_⟩
    · rw [e16] at k; cases k
    · rw [eg]; exact Blk.new W _ _
    · rw [e16] at k; cases k
    · rw [eg]; exact ⟨Nat.ne_of_lt h.node.blk.lt, h.node.grown.size⟩
  try simp only [Act.put, List.setIfInBounds_toArray, List.set_cons_zero, List.set_cons_succ]
  refine t_store (fun _ => rfl) (fun b γ W h hb hn hf => ?_) ?_
  · have h15 : b 15 = true := hn 15 (by decide)
    have e16 : Lib.up b 16 16 = true := up_at _ _
    have e15 : Lib.up b 16 15 = true := by rw [up_of_ne (by decide), h15]
    have h0 := h.box0 h15 hb
    obtain ⟨hne, hq⟩ := h.ne h15
    have q0 := h0.cell 0
    have q1 := h0.cell 1
    have q2 := h0.cell 2
    have q3 := h0.cell 3
    simp only [List.getElem?_cons_zero, List.getElem?_cons_succ] at q0 q1 q2 q3
    have f0 := h0.frozen 0
    have f1 := h0.frozen 1
    have f2 := h0.frozen 2
    have f3 := h0.frozen 3
    refine ⟨(((W.setCell ⟨γ 15, 0, none⟩ (.bool m.f.e)).setCell ⟨γ 15, 1, none⟩ (.int .u32 m.f.i)).setCell ⟨γ 15, 2, none⟩ (.bool m.f.r)).setCell ⟨γ 15, 3, none⟩ (.string m.f.d), by go_simp, ?_⟩
    refine ⟨at_far (at_far (at_far (at_far h.node hq hne _ _) hq hne _ _) hq hne _ _) hq hne _ _, fun _ => e15, fun _ k => ?_, fun _ => (((h0.set 0 _).set 1 _).set 2 _).set 3 _, fun _ => ⟨hne, hq⟩⟩
    rw [e16] at k; cases k
  try simp only [Act.put, List.setIfInBounds_toArray, List.set_cons_zero, List.set_cons_succ]
  refine t_pure (.int .u8 ((sg d).toNat : Int)) (fun _ => rfl) (fun b γ W h => h.up _ (by decide) (by decide)) (fun b γ W h _ => by go_simp) ?_
  refine t_end ?_
  intro bq gq w1 hall hS
  have hs : Sn w g (gq 15) m m.f w1 := ⟨hS.node, hS.box1 (hall 16 (by decide))⟩
  have hne := (hS.ne (hall 15 (by decide)))
  simp only [Act.put, List.setIfInBounds_toArray, List.set_cons_zero, List.set_cons_succ]
  clear hS hall H0
  generalize gq 15 = p at hs hne ⊢
  have HS := hid hs
  have HN := hid hne
  clear hs hne HB
  go_wp2_with fail
  generalize hk : decide (m.pos + 9 = m.bits.length) = k at EK HC
  generalize ha : decide (m.pos < m.arb) = a at EA HC
  have HK := hid hk
  have HA := hid ha
  have qb : (m.pos < m.arb) = (a = true) := by rw [← ha]; simp
  have QB := hid qb
  clear hk ha qb
  refine region_text (by kernel_rfl) (by kernel_rfl) (fun _ _ W => Sn w g p m m.f W) HS.out.drew ?_
  iterate 14 ((try simp only [Act.put, List.setIfInBounds_toArray, List.set_cons_zero, List.set_cons_succ]); (refine t_pure ?_ (fun _ => rfl) (fun b γ W h => h) (fun b γ W h _ => ?_) ?_; rotate_left; · (obtain ⟨_, _, _, _, _, _, _, _, _, _, k10, _, k12⟩ := hd13 h.node.blk; have q1 := HSZ.out; have q2 := EK.out; have q3 := EW.out; go_simp; rfl)))
  refine t_end ?_
  intro bq2 gq2 w2 hall2 hS2
  simp only [Act.put, List.setIfInBounds_toArray, List.set_cons_zero, List.set_cons_succ]
  have HS2 := hid hS2
  clear hS2 hall2 HS
  unfold fv at HF
  rcases HC.out with ⟨rfl, rfl, rfl⟩ | ⟨rfl, rfl⟩ | ⟨rfl, hdc⟩ | hD
  · have hX := HX.out
    clear HX
    rw [if_pos ⟨rfl, rfl, of_decide_eq_true HA.out⟩] at hX
    have HX := hid hX
    clear HC hX
    go_wp2_with fail
    refine region_text (by kernel_rfl) (by kernel_rfl) (fun _ _ W => Sn w g p m m.f W) HS2.out.drew ?_
    iterate 20 ((try simp only [Act.put, List.setIfInBounds_toArray, List.set_cons_zero, List.set_cons_succ]); first
      | (refine t_skip (fun _ => rfl) (fun b γ W h => h) ?_)
      | (refine t_pure ?_ (fun _ => rfl) (fun b γ W h => h) (fun b γ W h _ => ?_) ?_; rotate_left; · (obtain ⟨_, _, _, _, _, _, _, _, _, _, _, k11, k12⟩ := hd13 h.node.blk; have q1 := EA.out; go_simp; rfl)))
    refine t_end ?_
    intro bq3 gq3 w3 hall3 hS3
    (try simp only [Act.put, List.setIfInBounds_toArray, List.set_cons_zero, List.set_cons_succ])
    (try simp only [HA.out])
    have HS3 := hid hS3
    clear hS3 hall3 HS2
    obtain ⟨x0, x1, x2, x3⟩ := HS3.out.fr
    clear x0 x1 x2 x3
    go_wp2_with fail
    refine (HDD.out _ HS3.out.node.blk).mono ?_
    rintro y w4 ⟨rfl, hw4⟩
    have h4 := at_keep HS3.out.node hw4
    have b4 := HS3.out.box.grown hw4.grown (by have := HN.out.1; simpa using fun e => this e.symm)
    have HS4 := hid (show Sn w g p m.done m.f _ from ⟨h4, b4⟩)
    clear HS3 hw4 h4 b4
    generalize m.done = m0 at HS4 HH HX HLL
    generalize m0.hears false = Z at HH HX HLL
    obtain ⟨m1, L⟩ := Z
    simp only at HH HX HLL
    obtain ⟨x, hx⟩ : ∃ x, x = (⟨3, m.f, 0⟩ : Ev) := ⟨_, rfl⟩
    rw [← hx] at HX
    have hxc : [x].flatMap ec = [.int .i64 3, .bool m.f.e, .int .u32 m.f.i, .bool m.f.r, .string m.f.d, .int .i64 0] := by rw [hx]; rfl
    have HXC := hid hxc
    clear hx hxc
    have HGL := hid (show g < w.heap.size from HGL.out)
    go_wp2_with fail
    refine region_text (by kernel_rfl) (by kernel_rfl) (SnB w g p m0 m1 m.f x L) ⟨at_drew HS4.out.node, HS4.out.box.drew, fun h => absurd h Bool.false_ne_true, fun h => absurd h Bool.false_ne_true, fun h => absurd h Bool.false_ne_true, fun h => absurd h Bool.false_ne_true⟩ ?_
    refine t_pure (.agg #[.bool m.f.e, .int .u32 m.f.i, .bool m.f.r, .string m.f.d]) (fun _ => rfl) (fun b γ W h => h.up _ (by decide) (by decide) (by decide)) (fun b γ W h _ => ?_) ?_
    · have y0 : W.cell? ⟨p, 0, none⟩ = some (.bool m.f.e) := h.box.cell 0
      have y1 : W.cell? ⟨p, 1, none⟩ = some (.int .u32 m.f.i) := h.box.cell 1
      have y2 : W.cell? ⟨p, 2, none⟩ = some (.bool m.f.r) := h.box.cell 2
      have y3 : W.cell? ⟨p, 3, none⟩ = some (.string m.f.d) := h.box.cell 3
      go_simp
    refine t_pure (.agg #[.int .i64 3, .bool m.f.e, .int .u32 m.f.i, .bool m.f.r, .string m.f.d, .int .i64 0]) (fun _ => rfl) (fun b γ W h => h.up _ (by decide) (by decide) (by decide)) (fun b γ W h _ => by go_simp) ?_
    refine t_build 1 (fun _ => rfl) (fun b γ W h hb hf => ⟨W.alloc (.cells #[.int .i64 3, .bool m.f.e, .int .u32 m.f.i, .bool m.f.r, .string m.f.d, .int .i64 0] 60), by go_simp, ?_⟩) ?_
    · have h6 : b 6 = false := by
        cases h6 : b 6
        · rfl
        · rw [(h.ord h6).1] at hb; cases hb
      have e5 : Lib.up b 2 5 = b 5 := up_of_ne (by decide)
      have e6 : Lib.up b 2 6 = false := by rw [up_of_ne (by decide), h6]
      have e2 : Lib.up b 2 2 = true := up_at _ _
      have eg : upd γ 2 W.heap.size 2 = W.heap.size := by simp [upd]
      have eg5 : upd γ 2 W.heap.size 5 = γ 5 := by simp [upd]
      refine ⟨by rw [e5]; exact ⟨h.node.blk.alloc _, grown_alloc h.node.grown _⟩, h.box.alloc _, fun k => absurd (e6.symm.trans k) Bool.false_ne_true, fun _ _ => ?_, fun k _ => ?_, fun k => absurd (e6.symm.trans k) Bool.false_ne_true⟩
      · rw [eg]
        exact evs_new (W := W) (L := [x]) (cs := [.int .i64 3, .bool m.f.e, .int .u32 m.f.i, .bool m.f.r, .string m.f.d, .int .i64 0]) rfl HXC.out.symm h.node.grown.size (Nat.le_of_ble_eq_true rfl)
      · rw [eg5]
        rw [e5] at k
        exact World.ownsRow.alloc (h.ev2 k h6) _
    refine t_pure (.pointer (some ⟨g, 0, none⟩)) (fun _ => rfl) (fun b γ W h => h.up _ (by decide) (by decide) (by decide)) (fun b γ W h _ => by go_simp) ?_
    refine t_pure (.int .u8 ((sg false).toNat : Int)) (fun _ => rfl) (fun b γ W h => h.up _ (by decide) (by decide) (by decide)) (fun b γ W h _ => by go_simp) ?_
    refine t_callN (f := 41) (args := #[.pointer (some ⟨g, 0, none⟩), .int .u8 ((sg false).toNat : Int)]) (decV L.length) (fun _ => rfl) (fun b γ W h _ => by go_simp) (fun b γ W h hb hf => ?_) ?_
    · have h6 : b 6 = false := hf 6 _ rfl (by decide)
      have e2 : Lib.up b 5 2 = b 2 := up_of_ne (by decide)
      have e6 : Lib.up b 5 6 = false := by rw [up_of_ne (by decide), h6]
      have e5 : Lib.up b 5 5 = true := up_at _ _
      have hn := h.node
      rw [hb] at hn
      refine (HH.out W hn.blk).mono ?_
      rintro y w5 ⟨v, rfl, hw5, hev⟩
      obtain ⟨k, rfl⟩ := decV_onto hev
      refine ⟨k, rfl, ?_⟩
      have eg5 : upd γ 5 k 5 = k := by simp [upd]
      have eg2 : upd γ 5 k 2 = γ 2 := by simp [upd]
      refine ⟨by rw [e5]; exact at_keep hn hw5, h.box.grown hw5.grown (by have := HN.out.1; simpa using fun e => this e.symm), fun k => absurd (e6.symm.trans k) Bool.false_ne_true, fun k2 _ => ?_, fun _ _ => ?_, fun k => absurd (e6.symm.trans k) Bool.false_ne_true⟩
      · rw [eg2]
        rw [e2] at k2
        have he := h.ev1 k2 h6
        exact World.ownsRow.kept he hw5.grown (.inr (by have hq : w.heap.size ≤ γ 2 := (he.lt _ rfl).1; have := HGL.out; simp only [Value.ownBlock, ne_eq, Option.some.injEq]; omega))
      · rw [eg5]
        exact evs_in hev hn.grown.size
    refine t_runN (decV (x :: L).length) (fun _ => rfl) (fun b γ W h hb hn => ?_) ?_
    · have h2 : b 2 = true := hn 2 (by decide)
      have h5 : b 5 = true := hn 5 (by decide)
      have he1 := h.ev1 h2 hb
      obtain ⟨v', w', r1, r2, r3⟩ := run_app_evs he1 (h.ev2 h5 hb) h.node.grown.size HLL.out
      obtain ⟨k, rfl⟩ := decV_onto r2
      have e2 : Lib.up b 6 2 = true := by rw [up_of_ne (by decide), h2]
      have e5 : Lib.up b 6 5 = true := by rw [up_of_ne (by decide), h5]
      have e6 : Lib.up b 6 6 = true := up_at _ _
      have eg6 : upd γ 6 k 6 = k := by simp [upd]
      have hq : w.heap.size ≤ γ 2 := (he1.lt _ rfl).1
      have hnd := h.node
      rw [h5] at hnd
      have hpne := evs_ne he1 h.box (by decide)
      refine ⟨k, w', by unfold execOp; simp only [resolve, invoke, builtin, Sem.run_bind, Sem.run_pure, Result.andThen_ok, List.map_toArray, List.map_cons, List.map_nil]; erw [r1]; rfl, ⟨?_, h.box.grown r3 (fun e => hpne e.symm), fun _ => ⟨e2, e5⟩, fun _ k => absurd (k.symm.trans e6) Bool.false_ne_true, fun _ k => absurd (k.symm.trans e6) Bool.false_ne_true, fun _ => ?_⟩⟩
      · rw [e5]
        exact ⟨hnd.blk.grown r3 (by have := HGL.out; simp only [ne_eq, Option.some.injEq]; omega), grown_row hnd.grown r3 hq⟩
      · rw [eg6]
        exact r2
    refine t_addr (fun γ => decV (x :: L).length (γ 6)) (fun γ γ' hg => by simp only; rw [hg 6 (.inr (.one rfl (by decide)))]) (fun γ n => by simp [upd]) (fun _ => rfl) (fun b γ W h => h.up _ (by decide) (by decide) (by decide)) (fun b γ W h _ => by go_simp) ?_
    refine t_end ?_
    intro bq5 gq5 w6 hall5 hS5
    simp only [Act.put, List.setIfInBounds_toArray, List.set_cons_zero, List.set_cons_succ]
    have hn := hS5.node
    rw [hall5 5 (by decide), if_pos rfl] at hn
    have hev := hS5.out (hall5 6 (by decide))
    generalize gq5 2 = z2
    generalize gq5 5 = z5
    generalize gq5 6 = z6 at hev ⊢
    have HN6 := hid hn
    have HE6 := hid hev
    clear hS5 hall5 hn hev HS4
    generalize decV (x :: L).length z6 = v at HE6 ⊢
    generalize decV L.length z5 = v5
    go_wp2_with fail
    go_ret
    rw [HX.out]
    exact ⟨_, rfl, HN6.out, HE6.out⟩
  · have hX := HX.out
    clear HX
    rw [if_neg (by simp), if_pos ⟨of_decide_eq_true HK.out, rfl⟩] at hX
    have HX := hid hX
    clear HC hX
    cases d
    all_goals
      go_wp2_with fail
      refine region_text (by kernel_rfl) (by kernel_rfl) (fun _ _ W => Sn w g p m m.f W) HS2.out.drew ?_
      iterate 20 ((try simp only [Act.put, List.setIfInBounds_toArray, List.set_cons_zero, List.set_cons_succ]); first
        | (refine t_skip (fun _ => rfl) (fun b γ W h => h) ?_)
        | (refine t_pure ?_ (fun _ => rfl) (fun b γ W h => h) (fun b γ W h _ => ?_) ?_; rotate_left; · (obtain ⟨_, _, _, _, _, _, _, _, _, _, _, k11, k12⟩ := hd13 h.node.blk; have q1 := EA.out; go_simp; rfl)))
      refine t_end ?_
      intro bq3 gq3 w3 hall3 hS3
      (try simp only [Act.put, List.setIfInBounds_toArray, List.set_cons_zero, List.set_cons_succ])
      (try simp only [HA.out])
      have HS3 := hid hS3
      clear hS3 hall3 HS2
      obtain ⟨x0, x1, x2, x3⟩ := HS3.out.fr
      go_wp2_with fail
      refine (HF.out 71 _ HS3.out.node.blk).mono ?_
      rintro y w4 ⟨v, rfl, hw4, hev⟩
      have H4 := hid (at_keep HS3.out.node hw4)
      have HE := hid (evs_in hev HS3.out.node.grown.size)
      clear HS3 hw4 hev x0 x1 x2 x3
      go_wp2_with fail
      go_ret
      rw [HX.out]
      exact ⟨_, rfl, H4.out, HE.out⟩
  · have hX := HX.out
    clear HX
    rw [if_neg (by rcases hdc with ⟨_, _, rfl⟩ | ⟨rfl, _⟩ <;> (intro hh; first | exact absurd hh.1 (by decide) | exact absurd (decide_eq_true hh.2.2) (by rw [HA.out]; decide))), if_neg (by intro hh; exact absurd (decide_eq_true hh.1) (by rw [HK.out]; decide)),
      if_pos ⟨by intro hh; exact absurd (decide_eq_true hh) (by rw [HK.out]; decide), by rcases hdc with ⟨rfl, rfl, _⟩ | ⟨rfl, rfl⟩ <;> decide⟩] at hX
    have HX := hid hX
    clear HC hX
    rcases hdc with ⟨rfl, rfl, rfl⟩ | ⟨rfl, rfl⟩
    all_goals
      go_wp2_with fail
      refine region_text (by kernel_rfl) (by kernel_rfl) (fun _ _ W => Sn w g p m m.f W) HS2.out.drew ?_
      iterate 20 ((try simp only [Act.put, List.setIfInBounds_toArray, List.set_cons_zero, List.set_cons_succ]); first
        | (refine t_skip (fun _ => rfl) (fun b γ W h => h) ?_)
        | (refine t_pure ?_ (fun _ => rfl) (fun b γ W h => h) (fun b γ W h _ => ?_) ?_; rotate_left; · (obtain ⟨_, _, _, _, _, _, _, _, _, _, _, k11, k12⟩ := hd13 h.node.blk; have q1 := EA.out; go_simp; rfl)))
      refine t_end ?_
      intro bq3 gq3 w3 hall3 hS3
      (try simp only [Act.put, List.setIfInBounds_toArray, List.set_cons_zero, List.set_cons_succ])
      (try simp only [HA.out])
      have HS3 := hid hS3
      clear hS3 hall3 HS2
      obtain ⟨x0, x1, x2, x3⟩ := HS3.out.fr
      go_wp2_with fail
      refine (HF.out 70 _ HS3.out.node.blk).mono ?_
      rintro y w4 ⟨v, rfl, hw4, hev⟩
      have H4 := hid (at_keep HS3.out.node hw4)
      have HE := hid (evs_in hev HS3.out.node.grown.size)
      clear HS3 hw4 hev x0 x1 x2 x3
      go_wp2_with fail
      go_ret
      rw [HX.out]
      exact ⟨_, rfl, H4.out, HE.out⟩
  · have hX := HX.out
    clear HX
    rw [if_neg (by rcases hD with ⟨_, _, rfl, _⟩ | ⟨_, rfl, _⟩ | ⟨rfl, _, _⟩ | ⟨rfl, _, _⟩ <;> (intro hh; first | exact absurd hh.1 (by decide) | exact absurd hh.2.1 (by decide) | exact absurd (decide_eq_true hh.2.2) (by rw [HA.out]; decide))),
      if_neg (by rcases hD with ⟨_, rfl, _, _⟩ | ⟨_, _, rfl⟩ | ⟨_, rfl, _⟩ | ⟨_, rfl, _⟩ <;> (intro hh; first | exact absurd hh.2 (by decide) | exact absurd (decide_eq_true hh.1) (by rw [HK.out]; decide))),
      if_neg (by rcases hD with ⟨_, _, _, rfl⟩ | ⟨rfl, rfl, _⟩ | ⟨rfl, rfl, _⟩ | ⟨_, _, rfl⟩ <;> (intro hh; first | exact absurd rfl hh.2 | exact hh.1 (of_decide_eq_true HK.out)))] at hX
    obtain ⟨n1, hn1⟩ : ∃ n1, n1 = m.pos + 1 := ⟨_, rfl⟩
    rw [← hn1] at hX
    have HX := hid hX
    have HW1 := hid (show IntKind.i64.wrap ((m.pos : Int) + 1) = (n1 : Int) by have := HPL.out; rw [hn1, IntKind.wrap_i64]; omega)
    have HD := hid (fun W h => done_calls g { m with r := r', pos := n1 } W h)
    have HI := hid (fun W => sent_calls m.sent m.got true W)
    have HZ := hid (fun W h => pauses_calls g { m.done with r := r', sent := sentV m.sent m.got true } W h)
    clear HC hX hn1
    rcases hD with ⟨rfl, rfl, rfl, rfl⟩ | ⟨rfl, rfl, rfl⟩ | ⟨rfl, rfl, rfl⟩ | ⟨rfl, rfl, rfl⟩
    all_goals
      go_wp2_with fail
      refine region_text (by kernel_rfl) (by kernel_rfl) (fun _ _ W => Sn w g p m m.f W) HS2.out.drew ?_
      iterate 20 ((try simp only [Act.put, List.setIfInBounds_toArray, List.set_cons_zero, List.set_cons_succ]); first
        | (refine t_skip (fun _ => rfl) (fun b γ W h => h) ?_)
        | (refine t_pure ?_ (fun _ => rfl) (fun b γ W h => h) (fun b γ W h _ => ?_) ?_; rotate_left; · (obtain ⟨_, _, _, _, _, _, _, _, _, _, _, k11, k12⟩ := hd13 h.node.blk; have q1 := EA.out; go_simp; rfl)))
      refine t_end ?_
      intro bq3 gq3 w3 hall3 hS3
      (try simp only [Act.put, List.setIfInBounds_toArray, List.set_cons_zero, List.set_cons_succ])
      (try simp only [HA.out])
      have HS3 := hid hS3
      clear hS3 hall3 HS2
      obtain ⟨x0, x1, x2, x3⟩ := HS3.out.fr
      clear x0 x1 x2 x3
      go_wp2_with fail
      refine (HP.out _ HS3.out.node.blk).mono ?_
      rintro y w4 ⟨rfl, hw4⟩
      have h4 := at_keep HS3.out.node hw4
      have b4 := HS3.out.box.grown hw4.grown (by have := HN.out.1; simpa using fun e => this e.symm)
      obtain ⟨_, _, _, _, _, _, _, _, _, _, _, _, c12⟩ := hd13 h4.blk
      have c12 : w4.cell? ⟨g, 12, none⟩ = some (.int .i64 m.pos) := c12
      have f12 := h4.blk.frozen 12
      have h5 : At w (w4.setCell ⟨g, 12, none⟩ (.int .i64 n1)) g { m with r := r', pos := n1 } := h4.set 12 (.int .i64 n1)
      have b5 := b4.far (p := ⟨g, 12, none⟩) (fun e => HN.out.1 e.symm) (.int .i64 n1)
      have HS5 := hid (show Sn w g p { m with r := r', pos := n1 } m.f _ from ⟨h5, b5⟩)
      have ew1 := HW1.out
      clear HS3 hw4 h4 b4 h5 b5
      go_wp2_with fail
      refine region_text (by kernel_rfl) (by kernel_rfl) (fun _ _ W => Sn w g p { m with r := r', pos := n1 } m.f W) HS5.out.drew ?_
      clear HS5 c12 f12 ew1
      iterate 12 ((try simp only [Act.put, List.setIfInBounds_toArray, List.set_cons_zero, List.set_cons_succ]); (refine t_pure ?_ (fun _ => rfl) (fun b γ W h => h) (fun b γ W h _ => ?_) ?_; rotate_left; · (obtain ⟨_, _, _, _, _, _, _, _, _, _, k10, _, k12⟩ := hd13 h.node.blk; have q1 := HSZ.out; go_simp; rfl)))
      refine t_end ?_
      intro bq6 gq6 w6 hall6 hS6
      (try simp only [Act.put, List.setIfInBounds_toArray, List.set_cons_zero, List.set_cons_succ])
      have HS6 := hid hS6
      clear hS6 hall6
      by_cases hlt : n1 < m.bits.length
      · have hX := HX.out
        clear HX
        rw [if_pos hlt] at hX
        have HX := hid hX
        have el : ((n1 : Int) < (m.bits.length : Int)) = True := eq_true (by omega)
        have el' : decide ((n1 : Int) < (m.bits.length : Int)) = true := decide_eq_true (by omega)
        have el2 : (n1 < m.bits.length) = True := eq_true hlt
        have el3 : decide (n1 < m.bits.length) = true := decide_eq_true hlt
        try simp only [el', el3]
        clear hX hlt
        go_wp2_with fail
        go_ret
        rw [HX.out]
        exact ⟨_, rfl, HS6.out.node, evs_nil _ _⟩
      · have hX := HX.out
        clear HX
        rw [if_neg hlt] at hX
        have HX := hid hX
        have el : ((n1 : Int) < (m.bits.length : Int)) = False := eq_false (by omega)
        have el' : decide ((n1 : Int) < (m.bits.length : Int)) = false := decide_eq_false (by omega)
        have el2 : (n1 < m.bits.length) = False := eq_false hlt
        have el3 : decide (n1 < m.bits.length) = false := decide_eq_false hlt
        try simp only [el', el3]
        clear hX hlt
        go_wp2_with fail
        refine (HD.out _ HS6.out.node.blk).mono ?_
        rintro y w7 ⟨rfl, hw7⟩
        have h7 := at_keep HS6.out.node hw7
        have b7 := HS6.out.box.grown hw7.grown (by have := HN.out.1; simpa using fun e => this e.symm)
        obtain ⟨_, _, c2, c3, _, _, _, _, _, _, _, _, _⟩ := hd13 h7.blk
        have c2 : w7.cell? ⟨g, 2, none⟩ = some (.int .i64 m.sent) := c2
        have c3 : w7.cell? ⟨g, 3, none⟩ = some (.int .i64 m.got) := c3
        have HS7 := hid (show Sn w g p _ m.f _ from ⟨h7, b7⟩)
        clear HS6 h7 b7 hw7 el el' el2 el3
        go_wp2_with fail
        refine (HI.out _).mono ?_
        rintro y w8 ⟨rfl, hbl⟩
        have h8 := HS7.out.node.later hbl
        have b8 := HS7.out.box.below hbl
        clear c2 c3 HS7 hbl
        obtain ⟨_, _, c2, c3, _, _, _, _, _, _, _, _, _⟩ := hd13 h8.blk
        have f2 := h8.blk.frozen 2
        have f3 := h8.blk.frozen 3
        have h9 : At w ((w8.setCell ⟨g, 2, none⟩ (.int .i64 (sentV m.sent m.got true))).setCell ⟨g, 3, none⟩ (.int .i64 m.got)) g { m.done with r := r', sent := sentV m.sent m.got true } := (h8.set 2 (.int .i64 (sentV m.sent m.got true))).set 3 (.int .i64 m.got)
        have b9 := (b8.far (p := ⟨g, 2, none⟩) (fun e => HN.out.1 e.symm) (.int .i64 (sentV m.sent m.got true))).far (p := ⟨g, 3, none⟩) (fun e => HN.out.1 e.symm) (.int .i64 m.got)
        have HS9 := hid (show Sn w g p _ m.f _ from ⟨h9, b9⟩)
        clear h8 b8 h9 b9
        go_wp2_with fail
        refine (HZ.out _ HS9.out.node.blk).mono ?_
        rintro y w10 ⟨rfl, hw10⟩
        have h10 := at_keep HS9.out.node hw10
        have b10 := HS9.out.box.grown hw10.grown (by have := HN.out.1; simpa using fun e => this e.symm)
        have HS10 := hid (show Sn w g p _ m.f _ from ⟨h10, b10⟩)
        obtain ⟨x0, x1, x2, x3⟩ := HS10.out.fr
        clear HS9 h10 b10 hw10 c2 c3 f2 f3
        go_wp2_with fail
        go_ret
        rw [HX.out]
        refine ⟨_, rfl, ⟨HS10.out.node.blk.alloc _, grown_alloc HS10.out.node.grown _⟩, ?_⟩
        exact evs_new (L := [⟨1, m.f, 0⟩]) (cs := ec ⟨1, m.f, 0⟩) rfl (List.append_nil _).symm HS10.out.node.grown.size (Nat.le_of_ble_eq_true rfl)
end Go.Proofs.YtpkpnaedacefaaaGreat.MacW
