/- The document's reader: the walk of Next. -/
import Derived.Test.YtpkpnaedacefaaaGreatRefR
import Derived.Test.YtpkpnaedacefaaaGreatCodeFacts
namespace Go.Proofs.YtpkpnaedacefaaaGreat.RefW
set_option linter.unusedVariables false
set_option linter.unusedSimpArgs false
open Go Go.RowKit Go.Proofs.YtpkpnaedacefaaaGreat.Lib Go.Proofs.YtpkpnaedacefaaaGreat.Bits Go.Proofs.YtpkpnaedacefaaaGreat.BitsW Go.Proofs.YtpkpnaedacefaaaGreat.StuffW Go.Proofs.YtpkpnaedacefaaaGreat.Frame Go.Proofs.YtpkpnaedacefaaaGreat.FrameW Go.Proofs.YtpkpnaedacefaaaGreat.Code Go.Proofs.YtpkpnaedacefaaaGreat.CodeW Go.Proofs.YtpkpnaedacefaaaGreat.PrintMore
attribute [local go_sem] max2_int min2_int max_two min_two
/-- A text in a reader's cells that gets a bit more. -/
structure AppInv (w : World) (g : Nat) (old new : List Value) (b : Nat → Bool) (W : World) : Prop where
  out : ∃ cs, Here w W g 93 cs ∧ (b 11 = false → cs = old) ∧ (b 11 = true → cs = new)
theorem parse_err (l : List Bool) : (parseL l).2.2 = 0 ∨ (parseL l).2.2 = 10 ∨ (parseL l).2.2 = 12 := by
  unfold parseL
  split
  · rename_i h; right; right; exact (need_err l).resolve_left h
  · split
    · right; left; rfl
    · split <;> (left; rfl)
theorem parse_max (l : List Bool) : (parseL l).2.1 ≤ 103 := by
  have := need_max l
  unfold parseL
  split
  · simp
  · split
    · simp
    · split <;> exact this
set_option maxRecDepth 100000 in
set_option maxHeartbeats 6400000 in
theorem rnext3_calls (g : Nat) (r : R3) (c : Bool) (y : Int) (w : World) (hb : Blk w g 93 (R3.cells r)) (hy : (y == 49) = c) (hS : r.S.length ≤ 100000) (hp : r.plain.length ≤ 10000) (hr : r.run.length ≤ 10000) (ht : r.tail ≤ 10000) (hw : r.want ≤ 10000) :
    Calls Tryz.prog 68 #[.pointer (some ⟨g, 0, none⟩), .int .u8 y] w fun e w' => e = .returned (.int .i64 ((r.next c).2 : Int)) ∧ Here w w' g 93 (R3.cells (r.next c).1) := by
  have H0 : Here w w g 93 (R3.cells r) := ⟨hb, grown_refl w (some g)⟩
  have z1 : (B r.S).size ≤ 100000 := by rw [B_size]; exact hS
  have z2 : (B r.plain).size ≤ 10000 := by rw [B_size]; exact hp
  have z3 : (B r.run).size ≤ 10000 := by rw [B_size]; exact hr
  have z4 : (B [c]).size = 1 := by rw [B_size]; rfl
  have z5 : (9223372036854775807 < (B r.S).size + 1) = False := eq_false (by omega)
  have z6 : (9223372036854775807 < (B r.plain).size + 1) = False := eq_false (by omega)
  have z7 : (9223372036854775807 < (B r.run).size + 1) = False := eq_false (by omega)
  have HP := hid hp
  have HRL := hid hr
  have HW := hid hw
  obtain ⟨q, hq⟩ : ∃ q, q = r.next c := ⟨_, rfl⟩
  rw [← hq]
  unfold R3.next at hq
  have HQ := hid hq
  clear hq hb hS hp hr
  go_enter Tryz.func68, Tryz.ntmps68
  go_wp2_with fail
  refine region_text (by kernel_rfl) (by kernel_rfl) (fun b _ W => AppInv w g (R3.cells r) (R3.cells { r with S := r.S ++ [c] }) b W) ⟨_, H0.drew, fun _ => rfl, fun h => by cases h⟩ ?_
  iterate 4 ((try simp only [Act.put, List.setIfInBounds_toArray, List.set_cons_zero, List.set_cons_succ]); first
    | (refine t_pure ?_ (fun _ => rfl) (fun b γ W h => ⟨h.out⟩) (fun b γ W h _ => ?_) ?_; rotate_left; · (go_simp; rfl)))
  (try simp only [Act.put, List.setIfInBounds_toArray, List.set_cons_zero, List.set_cons_succ])
  refine t_run (.string (B r.S)) (fun _ => rfl) (fun b γ W h hb _ hf => ⟨W, ?_, ⟨h.out⟩⟩) ?_
  · obtain ⟨cs, k1, k2, k3⟩ := h.out
    obtain rfl := k2 (hf 11 _ rfl (by decide))
    have c0 := k1.blk.cell 0
    simp only [R3.cells, List.getElem?_cons_zero, List.getElem?_cons_succ] at c0
    go_simp
  iterate 2 ((try simp only [Act.put, List.setIfInBounds_toArray, List.set_cons_zero, List.set_cons_succ]); first
    | (refine t_pure ?_ (fun _ => rfl) (fun b γ W h => ⟨h.out⟩) (fun b γ W h _ => ?_) ?_; rotate_left; · (go_simp; rfl)))
  (try simp only [Act.put, List.setIfInBounds_toArray, List.set_cons_zero, List.set_cons_succ])
  refine t_call (.string (B [c])) (fun _ => rfl) (f := 74) (args := #[.bool c]) (fun b γ W h _ => by go_simp) (fun b γ W h _ => (bit_calls c W).mono (fun e w2 h2 => ⟨h2.1, h.out.choose, h.out.choose_spec.1.later h2.2, h.out.choose_spec.2⟩)) ?_
  iterate 3 ((try simp only [Act.put, List.setIfInBounds_toArray, List.set_cons_zero, List.set_cons_succ]); first
    | (refine t_pure ?_ (fun _ => rfl) (fun b γ W h => ⟨h.out⟩) (fun b γ W h _ => ?_) ?_; rotate_left; · (go_simp; rfl)))
  (try simp only [Act.put, List.setIfInBounds_toArray, List.set_cons_zero, List.set_cons_succ])
  refine t_store (fun _ => rfl) (fun b γ W h hb _ _ => ?_) ?_
  · obtain ⟨cs, k1, k2, k3⟩ := h.out
    obtain rfl := k2 hb
    have c0 := k1.blk.cell 0
    have f0 := k1.blk.frozen 0
    simp only [R3.cells, List.getElem?_cons_zero, List.getElem?_cons_succ] at c0
    exact ⟨W.setCell ⟨g, 0, none⟩ (.string (B r.S ++ B [c])), by go_simp, _, k1.set 0 _, fun h => by simp [up] at h, fun _ => by rw [B_append]; rfl⟩
  refine t_end ?_
  intro bq gq wq hall hS
  obtain ⟨cs, HH, _, k4⟩ := hS.out
  obtain rfl := k4 (hall 11 (by decide))
  (try simp only [Act.put, List.setIfInBounds_toArray, List.set_cons_zero, List.set_cons_succ])
  clear hall hS k4
  clear H0
  have c4 := HH.blk.cell 4
  simp only [R3.cells, List.getElem?_cons_zero, List.getElem?_cons_succ] at c4
  by_cases htl : 0 ≤ r.tail
  · have htt : ((0 : Int) ≤ r.tail) = True := eq_true htl
    have hq := HQ.out
    rw [if_pos htl] at hq
    have HQ2 := hid hq
    have HBH := hid (rbehind_calls g { r with S := r.S ++ [c] } c wq HH.blk htl (by show r.tail ≤ 100000; omega) (by show r.plain.length ≤ 100000; have := HP.out; omega) (by show r.want ≤ 100000; have := HW.out; omega))
    clear hq HQ
    go_wp2_with fail
    refine HBH.out.mono ?_
    rintro e w2 ⟨rfl, h2⟩
    go_wp2_with fail
    go_ret
    rw [HQ2.out]
    exact ⟨rfl, ⟨h2.blk, grown_trans HH.grown h2.grown⟩⟩
  · have htt : ((0 : Int) ≤ r.tail) = False := eq_false htl
    have hq := HQ.out
    rw [if_neg htl] at hq
    have HQ2 := hid hq
    clear hq HQ
    have HN1 := hid (fun (W : World) => rnext_calls (B r.run) (by omega) W)
    simp only [bitsOf_B] at HN1
    have c2 := HH.blk.cell 2
    simp only [R3.cells, List.getElem?_cons_zero, List.getElem?_cons_succ] at c2
    go_wp2_with fail
    refine (HN1.out _).mono ?_
    rintro e w2 ⟨rfl, h2⟩
    have HH2 := HH.later h2
    clear HH c2 c4 HN1
    have HUN := hid (fun (W : World) => runstuff_calls (B (r.run ++ [c])) (by rw [B_size, List.length_append]; have := HRL.out; simp; omega) W)
    simp only [bitsOf_B] at HUN
    generalize hU : unstuffL 0 false 0 (r.run ++ [c]) = U at *
    clear hU
    obtain ⟨U1, U2, U3, U4⟩ := U
    simp only at HUN HQ2
    generalize hNN : nextL r.run = NN at *
    clear hNN
    obtain ⟨ld, hld⟩ : ∃ b, b = decide (0 ≤ NN) := ⟨_, rfl⟩
    have l1 : ((0 : Int) ≤ NN) = (ld = true) := by rw [hld]; simp
    have l2 : decide ((0 : Int) ≤ NN) = ld := by rw [hld]
    have hq := HQ2.out
    simp only [l1] at hq
    have HQ := hid hq
    clear hq HQ2 hld
    go_wp2_with fail
    refine region_text (by kernel_rfl) (by kernel_rfl) (fun b _ W => AppInv w g (R3.cells { r with S := r.S ++ [c] }) (R3.cells { r with S := r.S ++ [c], run := r.run ++ [c] }) b W) ⟨_, HH2.drew, fun _ => rfl, fun h => by cases h⟩ ?_
    iterate 4 ((try simp only [Act.put, List.setIfInBounds_toArray, List.set_cons_zero, List.set_cons_succ]); first
      | (refine t_pure ?_ (fun _ => rfl) (fun b γ W h => ⟨h.out⟩) (fun b γ W h _ => ?_) ?_; rotate_left; · (go_simp; rfl)))
    (try simp only [Act.put, List.setIfInBounds_toArray, List.set_cons_zero, List.set_cons_succ])
    refine t_run (.string (B r.run)) (fun _ => rfl) (fun b γ W h hb _ hf => ⟨W, ?_, ⟨h.out⟩⟩) ?_
    · obtain ⟨cs, k1, k2, k3⟩ := h.out
      obtain rfl := k2 (hf 11 _ rfl (by decide))
      have c0 := k1.blk.cell 2
      simp only [R3.cells, List.getElem?_cons_zero, List.getElem?_cons_succ] at c0
      go_simp
    iterate 2 ((try simp only [Act.put, List.setIfInBounds_toArray, List.set_cons_zero, List.set_cons_succ]); first
      | (refine t_pure ?_ (fun _ => rfl) (fun b γ W h => ⟨h.out⟩) (fun b γ W h _ => ?_) ?_; rotate_left; · (go_simp; rfl)))
    (try simp only [Act.put, List.setIfInBounds_toArray, List.set_cons_zero, List.set_cons_succ])
    refine t_call (.string (B [c])) (fun _ => rfl) (f := 74) (args := #[.bool c]) (fun b γ W h _ => by go_simp) (fun b γ W h _ => (bit_calls c W).mono (fun e w2 h2 => ⟨h2.1, h.out.choose, h.out.choose_spec.1.later h2.2, h.out.choose_spec.2⟩)) ?_
    iterate 3 ((try simp only [Act.put, List.setIfInBounds_toArray, List.set_cons_zero, List.set_cons_succ]); first
      | (refine t_pure ?_ (fun _ => rfl) (fun b γ W h => ⟨h.out⟩) (fun b γ W h _ => ?_) ?_; rotate_left; · (go_simp; rfl)))
    (try simp only [Act.put, List.setIfInBounds_toArray, List.set_cons_zero, List.set_cons_succ])
    refine t_store (fun _ => rfl) (fun b γ W h hb _ _ => ?_) ?_
    · obtain ⟨cs, k1, k2, k3⟩ := h.out
      obtain rfl := k2 hb
      have c0 := k1.blk.cell 2
      have f0 := k1.blk.frozen 2
      simp only [R3.cells, List.getElem?_cons_zero, List.getElem?_cons_succ] at c0
      exact ⟨W.setCell ⟨g, 2, none⟩ (.string (B r.run ++ B [c])), by go_simp, _, k1.set 2 _, fun h => by simp [up] at h, fun _ => by rw [B_append]; rfl⟩
    refine t_end ?_
    intro bq gq wq hall hS
    obtain ⟨cs, HH, _, k4⟩ := hS.out
    obtain rfl := k4 (hall 11 (by decide))
    (try simp only [Act.put, List.setIfInBounds_toArray, List.set_cons_zero, List.set_cons_succ])
    clear hall hS k4
    clear HH2
    have c2 := HH.blk.cell 2
    simp only [R3.cells, List.getElem?_cons_zero, List.getElem?_cons_succ] at c2
    go_wp2_with fail
    refine (HUN.out _).mono ?_
    rintro e w3 ⟨rfl, h3⟩
    have HH3 := HH.later h3
    clear HH c2 HUN
    have hq := HQ.out
    cases U4 with
    | some j =>
      rw [if_pos (show (some j).isSome = true from rfl)] at hq
      have HQ3 := hid hq
      have j0 : (0 : Int) ≤ (j : Int) := by omega
      rw [show atI (some j) = (j : Int) from rfl]
      clear hq HQ
      go_wp2_with fail
      go_ret
      rw [HQ3.out]
      exact ⟨rfl, HH3⟩
    | none =>
      rw [if_neg (show ¬ (none : Option Nat).isSome = true by simp)] at hq
      rw [show atI none = -1 from rfl]
      cases ld
      · rw [if_neg (by simp)] at hq
        have HQ2 := hid hq
        clear hq HQ
        go_wp2_with fail
        refine region_text (by kernel_rfl) (by kernel_rfl) (fun b _ W => AppInv w g (R3.cells { r with S := r.S ++ [c], run := r.run ++ [c] }) (R3.cells { r with S := r.S ++ [c], run := r.run ++ [c], plain := r.plain ++ [c] }) b W) ⟨_, HH3.drew, fun _ => rfl, fun h => by cases h⟩ ?_
        iterate 4 ((try simp only [Act.put, List.setIfInBounds_toArray, List.set_cons_zero, List.set_cons_succ]); first
          | (refine t_pure ?_ (fun _ => rfl) (fun b γ W h => ⟨h.out⟩) (fun b γ W h _ => ?_) ?_; rotate_left; · (go_simp; rfl)))
        (try simp only [Act.put, List.setIfInBounds_toArray, List.set_cons_zero, List.set_cons_succ])
        refine t_run (.string (B r.plain)) (fun _ => rfl) (fun b γ W h hb _ hf => ⟨W, ?_, ⟨h.out⟩⟩) ?_
        · obtain ⟨cs, k1, k2, k3⟩ := h.out
          obtain rfl := k2 (hf 11 _ rfl (by decide))
          have c0 := k1.blk.cell 1
          simp only [R3.cells, List.getElem?_cons_zero, List.getElem?_cons_succ] at c0
          go_simp
        iterate 2 ((try simp only [Act.put, List.setIfInBounds_toArray, List.set_cons_zero, List.set_cons_succ]); first
          | (refine t_pure ?_ (fun _ => rfl) (fun b γ W h => ⟨h.out⟩) (fun b γ W h _ => ?_) ?_; rotate_left; · (go_simp; rfl)))
        (try simp only [Act.put, List.setIfInBounds_toArray, List.set_cons_zero, List.set_cons_succ])
        refine t_call (.string (B [c])) (fun _ => rfl) (f := 74) (args := #[.bool c]) (fun b γ W h _ => by go_simp) (fun b γ W h _ => (bit_calls c W).mono (fun e w2 h2 => ⟨h2.1, h.out.choose, h.out.choose_spec.1.later h2.2, h.out.choose_spec.2⟩)) ?_
        iterate 3 ((try simp only [Act.put, List.setIfInBounds_toArray, List.set_cons_zero, List.set_cons_succ]); first
          | (refine t_pure ?_ (fun _ => rfl) (fun b γ W h => ⟨h.out⟩) (fun b γ W h _ => ?_) ?_; rotate_left; · (go_simp; rfl)))
        (try simp only [Act.put, List.setIfInBounds_toArray, List.set_cons_zero, List.set_cons_succ])
        refine t_store (fun _ => rfl) (fun b γ W h hb _ _ => ?_) ?_
        · obtain ⟨cs, k1, k2, k3⟩ := h.out
          obtain rfl := k2 hb
          have c0 := k1.blk.cell 1
          have f0 := k1.blk.frozen 1
          simp only [R3.cells, List.getElem?_cons_zero, List.getElem?_cons_succ] at c0
          exact ⟨W.setCell ⟨g, 1, none⟩ (.string (B r.plain ++ B [c])), by go_simp, _, k1.set 1 _, fun h => by simp [up] at h, fun _ => by rw [B_append]; rfl⟩
        refine t_end ?_
        intro bq gq wq hall hS
        obtain ⟨cs, HH, _, k4⟩ := hS.out
        obtain rfl := k4 (hall 11 (by decide))
        (try simp only [Act.put, List.setIfInBounds_toArray, List.set_cons_zero, List.set_cons_succ])
        clear hall hS k4
        clear HH3
        have c3 := HH.blk.cell 3
        simp only [R3.cells, List.getElem?_cons_zero, List.getElem?_cons_succ] at c3
        by_cases hwt : r.want < 0
        · have w1 : (r.want < 0) = True := eq_true hwt
          have HPA := hid (fun (W : World) => FrameW.rparse_calls (B (r.plain ++ [c])) W (by rw [B_size, List.length_append]; have := HP.out; simp; omega))
          have HPX := hid (parse_err (r.plain ++ [c]))
          have HPM := hid (parse_max (r.plain ++ [c]))
          have hq := HQ2.out
          unfold R3.parse at hq
          simp only [if_pos hwt] at hq
          simp only [bitsOf_B] at HPA
          have c1 := HH.blk.cell 1
          simp only [R3.cells, List.getElem?_cons_zero, List.getElem?_cons_succ] at c1
          generalize hpp : parseL (r.plain ++ [c]) = pp at *
          obtain ⟨⟨e1, n1, t1, d1⟩, m1, x1⟩ := pp
          simp only [parseV] at HPA HPX HPM hq
          have HQ4 := hid hq
          clear hq HQ2 hpp
          go_wp2_with fail
          refine (HPA.out _).mono ?_
          rintro e w5 ⟨rfl, h5⟩
          have HB8 := Blk.new w5 [.bool e1, .int .u32 (n1 : Int), .bool t1, .string ⟨d1.toArray⟩] 35
          have HH5 := (HH.later h5).later ((Below.refl w5.heap.size w5).alloc (Nat.le_refl _) (.cells #[.bool e1, .int .u32 (n1 : Int), .bool t1, .string ⟨d1.toArray⟩] 35))
          clear HH c1 c3 HPA
          rcases HPX.out with rfl | rfl | rfl
          · obtain ⟨x5, x6, x7, x8⟩ := frame_res HB8
            have HQ3 := hid (show q = (R3.last { r with S := r.S ++ [c], run := r.run ++ [c], plain := r.plain ++ [c], F := (e1, n1, t1, d1), want := (m1 : Int) }, 0) from HQ4.out)
            clear HQ4
            have f3 := HH5.blk.frozen 3
            have f5 := HH5.blk.frozen 5
            have f6 := HH5.blk.frozen 6
            have f7 := HH5.blk.frozen 7
            have f8 := HH5.blk.frozen 8
            have y3 := HH5.blk.cell 3
            have y5 := HH5.blk.cell 5
            have y6 := HH5.blk.cell 6
            have y7 := HH5.blk.cell 7
            have y8 := HH5.blk.cell 8
            simp only [R3.cells, List.getElem?_cons_zero, List.getElem?_cons_succ] at y3 y5 y6 y7 y8
            have HH := ((((HH5.set 5 (.bool e1)).set 6 (.int .u32 (n1 : Int))).set 7 (.bool t1)).set 8 (.string ⟨d1.toArray⟩)).set 3 (.int .i64 (m1 : Int))
            have hset : (((((R3.cells { r with S := r.S ++ [c], run := r.run ++ [c], plain := r.plain ++ [c] }).set 5 (.bool e1)).set 6 (.int .u32 (n1 : Int))).set 7 (.bool t1)).set 8 (.string ⟨d1.toArray⟩)).set 3 (.int .i64 (m1 : Int)) = R3.cells { r with S := r.S ++ [c], run := r.run ++ [c], plain := r.plain ++ [c], F := (e1, n1, t1, d1), want := (m1 : Int) } := rfl
            rw [hset] at HH
            clear HH5 hset l1 l2 htl htt z1 z2 z3 z4 z5 z6 z7 w1 hwt
            go_wp2_with fail
            have HRN := hid (show (({ r with S := r.S ++ [c], run := r.run ++ [c], plain := r.plain ++ [c], F := (e1, n1, t1, d1), want := (m1 : Int) } : R3)).run.length ≤ 10001 by show (r.run ++ [c]).length ≤ 10001; rw [List.length_append]; have := HRL.out; simp; omega)
            obtain ⟨rn, hrn⟩ : ∃ rn, rn = ({ r with S := r.S ++ [c], run := r.run ++ [c], plain := r.plain ++ [c], F := (e1, n1, t1, d1), want := (m1 : Int) } : R3) := ⟨_, rfl⟩
            have HRW := hid (show rn.want ≤ 10000 by rw [hrn]; have := HPM.out; show (m1 : Int) ≤ 10000; omega)
            rw [← hrn] at HH HQ3 HRN
            clear hrn
            have HCG := hid (cells_get rn)
            have HSET := hid (show (R3.cells rn).set 4 (.int .i64 0) = R3.cells { rn with tail := 0 } from rfl)
            have HNX := hid (fun (W : World) => rnext_calls (B rn.run) (by rw [B_size]; have := HRN.out; omega) W)
            simp only [bitsOf_B] at HNX
            have hps : (B rn.plain).size = rn.plain.length := B_size _
            have hq3 := HQ3.out
            unfold R3.last at hq3
            clear HQ3
            rw [← hps] at hq3
            have HQ3 := hid hq3
            clear hq3
            have hw := HRW.out
            clear HRW hps
            generalize hN : nextL rn.run = N at *
            generalize hP : B rn.plain = P at *
            generalize hQq : B rn.run = Q at *
            generalize hK : rn.want = K at *
            clear hN hP hQq hK
            by_cases k1 : 0 ≤ K
            · have u1 : ((0 : Int) ≤ K) = True := eq_true k1
              have u2 : IntKind.i64.wrap (K + 15) = K + 15 := by rw [IntKind.wrap_i64]; omega
              by_cases k2 : (P.size : Int) = K + 15
              · have u3 : ((P.size : Int) == K + 15) = true := beq_iff_eq.2 k2
                by_cases k3 : N < 0
                · have u4 : (N < 0) = True := eq_true k3
                  have HYES := hid (show 0 ≤ K ∧ (P.size : Int) = K + 15 ∧ N < 0 from ⟨k1, k2, k3⟩)
                  clear k2 k3
                  refine region_text (by kernel_rfl) (by kernel_rfl) (fun _ _ W => Here w W g 93 (R3.cells rn)) HH.drew ?_
                  clear HH
                  iterate 26 ((try simp only [Act.put, List.setIfInBounds_toArray, List.set_cons_zero, List.set_cons_succ]); first
                    | (refine t_skip (fun _ => rfl) (fun b γ W h => h) ?_)
                    | (refine t_call (.int .i64 N) (fun _ => rfl) (f := 92) (args := #[.string Q]) ?_ (fun b γ W h _ => (HNX.out W).mono (fun e w2 h2 => ⟨h2.1, h.later h2.2⟩)) ?_; · (intro b γ W h _; have c2 := (h.blk.cell 2).trans HCG.out.2.2.1; go_simp; done))
                    | (refine t_pure ?_ (fun _ => rfl) (fun b γ W h => h) (fun b γ W h _ => ?_) ?_; rotate_left; · (have c1 := (h.blk.cell 1).trans HCG.out.2.1; have c2 := (h.blk.cell 2).trans HCG.out.2.2.1; have c3 := (h.blk.cell 3).trans HCG.out.2.2.2.1; go_simp; rfl)))
                  refine t_end ?_
                  intro bq gq wf hall HH
                  (try simp only [Act.put, List.setIfInBounds_toArray, List.set_cons_zero, List.set_cons_succ])
                  clear hall
                  have f4 := HH.blk.frozen 4
                  have c4 := (HH.blk.cell 4).trans HCG.out.2.2.2.2
                  have HH4 := hid (HH.set 4 (.int .i64 0))
                  clear HH
                  go_wp2_with fail
                  go_ret
                  have hh4 := HH4.out
                  rw [HSET.out] at hh4
                  rw [HQ3.out, if_pos HYES.out]
                  exact ⟨rfl, hh4⟩
                · have u4 : (N < 0) = False := eq_false k3
                  have HNO := hid (show ¬ (0 ≤ K ∧ (P.size : Int) = K + 15 ∧ N < 0) from fun h => k3 h.2.2)
                  clear k2 k3
                  refine region_text (by kernel_rfl) (by kernel_rfl) (fun _ _ W => Here w W g 93 (R3.cells rn)) HH.drew ?_
                  clear HH
                  iterate 26 ((try simp only [Act.put, List.setIfInBounds_toArray, List.set_cons_zero, List.set_cons_succ]); first
                    | (refine t_skip (fun _ => rfl) (fun b γ W h => h) ?_)
                    | (refine t_call (.int .i64 N) (fun _ => rfl) (f := 92) (args := #[.string Q]) ?_ (fun b γ W h _ => (HNX.out W).mono (fun e w2 h2 => ⟨h2.1, h.later h2.2⟩)) ?_; · (intro b γ W h _; have c2 := (h.blk.cell 2).trans HCG.out.2.2.1; go_simp; done))
                    | (refine t_pure ?_ (fun _ => rfl) (fun b γ W h => h) (fun b γ W h _ => ?_) ?_; rotate_left; · (have c1 := (h.blk.cell 1).trans HCG.out.2.1; have c2 := (h.blk.cell 2).trans HCG.out.2.2.1; have c3 := (h.blk.cell 3).trans HCG.out.2.2.2.1; go_simp; rfl)))
                  refine t_end ?_
                  intro bq gq wf hall HH
                  (try simp only [Act.put, List.setIfInBounds_toArray, List.set_cons_zero, List.set_cons_succ])
                  clear hall
                  go_wp2_with fail
                  go_ret
                  rw [HQ3.out, if_neg HNO.out]
                  exact ⟨rfl, HH⟩
              · have u3 : ((P.size : Int) == K + 15) = false := beq_eq_false_iff_ne.2 k2
                have HNO := hid (show ¬ (0 ≤ K ∧ (P.size : Int) = K + 15 ∧ N < 0) from fun h => k2 h.2.1)
                clear k2
                refine region_text (by kernel_rfl) (by kernel_rfl) (fun _ _ W => Here w W g 93 (R3.cells rn)) HH.drew ?_
                clear HH
                iterate 26 ((try simp only [Act.put, List.setIfInBounds_toArray, List.set_cons_zero, List.set_cons_succ]); first
                  | (refine t_skip (fun _ => rfl) (fun b γ W h => h) ?_)
                  | (refine t_pure ?_ (fun _ => rfl) (fun b γ W h => h) (fun b γ W h _ => ?_) ?_; rotate_left; · (have c1 := (h.blk.cell 1).trans HCG.out.2.1; have c2 := (h.blk.cell 2).trans HCG.out.2.2.1; have c3 := (h.blk.cell 3).trans HCG.out.2.2.2.1; go_simp; rfl)))
                refine t_end ?_
                intro bq gq wf hall HH
                (try simp only [Act.put, List.setIfInBounds_toArray, List.set_cons_zero, List.set_cons_succ])
                clear hall
                go_wp2_with fail
                go_ret
                rw [HQ3.out, if_neg HNO.out]
                exact ⟨rfl, HH⟩
            · have u1 : ((0 : Int) ≤ K) = False := eq_false k1
              have HNO := hid (show ¬ (0 ≤ K ∧ (P.size : Int) = K + 15 ∧ N < 0) from fun h => k1 h.1)
              clear k1
              refine region_text (by kernel_rfl) (by kernel_rfl) (fun _ _ W => Here w W g 93 (R3.cells rn)) HH.drew ?_
              clear HH
              iterate 26 ((try simp only [Act.put, List.setIfInBounds_toArray, List.set_cons_zero, List.set_cons_succ]); first
                | (refine t_skip (fun _ => rfl) (fun b γ W h => h) ?_)
                | (refine t_pure ?_ (fun _ => rfl) (fun b γ W h => h) (fun b γ W h _ => ?_) ?_; rotate_left; · (have c1 := (h.blk.cell 1).trans HCG.out.2.1; have c2 := (h.blk.cell 2).trans HCG.out.2.2.1; have c3 := (h.blk.cell 3).trans HCG.out.2.2.2.1; go_simp; rfl)))
              refine t_end ?_
              intro bq gq wf hall HH
              (try simp only [Act.put, List.setIfInBounds_toArray, List.set_cons_zero, List.set_cons_succ])
              clear hall
              go_wp2_with fail
              go_ret
              rw [HQ3.out, if_neg HNO.out]
              exact ⟨rfl, HH⟩
          · have HQ3 := hid (show q = (R3.last { r with S := r.S ++ [c], run := r.run ++ [c], plain := r.plain ++ [c] }, 0) from HQ4.out)
            have HH := HH5
            clear HQ4 HH5 HB8 l1 l2 htl htt z1 z2 z3 z4 z5 z6 z7 w1 hwt
            go_wp2_with fail
            have HRN := hid (show (({ r with S := r.S ++ [c], run := r.run ++ [c], plain := r.plain ++ [c] } : R3)).run.length ≤ 10001 by show (r.run ++ [c]).length ≤ 10001; rw [List.length_append]; have := HRL.out; simp; omega)
            obtain ⟨rn, hrn⟩ : ∃ rn, rn = ({ r with S := r.S ++ [c], run := r.run ++ [c], plain := r.plain ++ [c] } : R3) := ⟨_, rfl⟩
            have HRW := hid (show rn.want ≤ 10000 by rw [hrn]; exact HW.out)
            rw [← hrn] at HH HQ3 HRN
            clear hrn
            have HCG := hid (cells_get rn)
            have HSET := hid (show (R3.cells rn).set 4 (.int .i64 0) = R3.cells { rn with tail := 0 } from rfl)
            have HNX := hid (fun (W : World) => rnext_calls (B rn.run) (by rw [B_size]; have := HRN.out; omega) W)
            simp only [bitsOf_B] at HNX
            have hps : (B rn.plain).size = rn.plain.length := B_size _
            have hq3 := HQ3.out
            unfold R3.last at hq3
            clear HQ3
            rw [← hps] at hq3
            have HQ3 := hid hq3
            clear hq3
            have hw := HRW.out
            clear HRW hps
            generalize hN : nextL rn.run = N at *
            generalize hP : B rn.plain = P at *
            generalize hQq : B rn.run = Q at *
            generalize hK : rn.want = K at *
            clear hN hP hQq hK
            by_cases k1 : 0 ≤ K
            · have u1 : ((0 : Int) ≤ K) = True := eq_true k1
              have u2 : IntKind.i64.wrap (K + 15) = K + 15 := by rw [IntKind.wrap_i64]; omega
              by_cases k2 : (P.size : Int) = K + 15
              · have u3 : ((P.size : Int) == K + 15) = true := beq_iff_eq.2 k2
                by_cases k3 : N < 0
                · have u4 : (N < 0) = True := eq_true k3
                  have HYES := hid (show 0 ≤ K ∧ (P.size : Int) = K + 15 ∧ N < 0 from ⟨k1, k2, k3⟩)
                  clear k2 k3
                  refine region_text (by kernel_rfl) (by kernel_rfl) (fun _ _ W => Here w W g 93 (R3.cells rn)) HH.drew ?_
                  clear HH
                  iterate 26 ((try simp only [Act.put, List.setIfInBounds_toArray, List.set_cons_zero, List.set_cons_succ]); first
                    | (refine t_skip (fun _ => rfl) (fun b γ W h => h) ?_)
                    | (refine t_call (.int .i64 N) (fun _ => rfl) (f := 92) (args := #[.string Q]) ?_ (fun b γ W h _ => (HNX.out W).mono (fun e w2 h2 => ⟨h2.1, h.later h2.2⟩)) ?_; · (intro b γ W h _; have c2 := (h.blk.cell 2).trans HCG.out.2.2.1; go_simp; done))
                    | (refine t_pure ?_ (fun _ => rfl) (fun b γ W h => h) (fun b γ W h _ => ?_) ?_; rotate_left; · (have c1 := (h.blk.cell 1).trans HCG.out.2.1; have c2 := (h.blk.cell 2).trans HCG.out.2.2.1; have c3 := (h.blk.cell 3).trans HCG.out.2.2.2.1; go_simp; rfl)))
                  refine t_end ?_
                  intro bq gq wf hall HH
                  (try simp only [Act.put, List.setIfInBounds_toArray, List.set_cons_zero, List.set_cons_succ])
                  clear hall
                  have f4 := HH.blk.frozen 4
                  have c4 := (HH.blk.cell 4).trans HCG.out.2.2.2.2
                  have HH4 := hid (HH.set 4 (.int .i64 0))
                  clear HH
                  go_wp2_with fail
                  go_ret
                  have hh4 := HH4.out
                  rw [HSET.out] at hh4
                  rw [HQ3.out, if_pos HYES.out]
                  exact ⟨rfl, hh4⟩
                · have u4 : (N < 0) = False := eq_false k3
                  have HNO := hid (show ¬ (0 ≤ K ∧ (P.size : Int) = K + 15 ∧ N < 0) from fun h => k3 h.2.2)
                  clear k2 k3
                  refine region_text (by kernel_rfl) (by kernel_rfl) (fun _ _ W => Here w W g 93 (R3.cells rn)) HH.drew ?_
                  clear HH
                  iterate 26 ((try simp only [Act.put, List.setIfInBounds_toArray, List.set_cons_zero, List.set_cons_succ]); first
                    | (refine t_skip (fun _ => rfl) (fun b γ W h => h) ?_)
                    | (refine t_call (.int .i64 N) (fun _ => rfl) (f := 92) (args := #[.string Q]) ?_ (fun b γ W h _ => (HNX.out W).mono (fun e w2 h2 => ⟨h2.1, h.later h2.2⟩)) ?_; · (intro b γ W h _; have c2 := (h.blk.cell 2).trans HCG.out.2.2.1; go_simp; done))
                    | (refine t_pure ?_ (fun _ => rfl) (fun b γ W h => h) (fun b γ W h _ => ?_) ?_; rotate_left; · (have c1 := (h.blk.cell 1).trans HCG.out.2.1; have c2 := (h.blk.cell 2).trans HCG.out.2.2.1; have c3 := (h.blk.cell 3).trans HCG.out.2.2.2.1; go_simp; rfl)))
                  refine t_end ?_
                  intro bq gq wf hall HH
                  (try simp only [Act.put, List.setIfInBounds_toArray, List.set_cons_zero, List.set_cons_succ])
                  clear hall
                  go_wp2_with fail
                  go_ret
                  rw [HQ3.out, if_neg HNO.out]
                  exact ⟨rfl, HH⟩
              · have u3 : ((P.size : Int) == K + 15) = false := beq_eq_false_iff_ne.2 k2
                have HNO := hid (show ¬ (0 ≤ K ∧ (P.size : Int) = K + 15 ∧ N < 0) from fun h => k2 h.2.1)
                clear k2
                refine region_text (by kernel_rfl) (by kernel_rfl) (fun _ _ W => Here w W g 93 (R3.cells rn)) HH.drew ?_
                clear HH
                iterate 26 ((try simp only [Act.put, List.setIfInBounds_toArray, List.set_cons_zero, List.set_cons_succ]); first
                  | (refine t_skip (fun _ => rfl) (fun b γ W h => h) ?_)
                  | (refine t_pure ?_ (fun _ => rfl) (fun b γ W h => h) (fun b γ W h _ => ?_) ?_; rotate_left; · (have c1 := (h.blk.cell 1).trans HCG.out.2.1; have c2 := (h.blk.cell 2).trans HCG.out.2.2.1; have c3 := (h.blk.cell 3).trans HCG.out.2.2.2.1; go_simp; rfl)))
                refine t_end ?_
                intro bq gq wf hall HH
                (try simp only [Act.put, List.setIfInBounds_toArray, List.set_cons_zero, List.set_cons_succ])
                clear hall
                go_wp2_with fail
                go_ret
                rw [HQ3.out, if_neg HNO.out]
                exact ⟨rfl, HH⟩
            · have u1 : ((0 : Int) ≤ K) = False := eq_false k1
              have HNO := hid (show ¬ (0 ≤ K ∧ (P.size : Int) = K + 15 ∧ N < 0) from fun h => k1 h.1)
              clear k1
              refine region_text (by kernel_rfl) (by kernel_rfl) (fun _ _ W => Here w W g 93 (R3.cells rn)) HH.drew ?_
              clear HH
              iterate 26 ((try simp only [Act.put, List.setIfInBounds_toArray, List.set_cons_zero, List.set_cons_succ]); first
                | (refine t_skip (fun _ => rfl) (fun b γ W h => h) ?_)
                | (refine t_pure ?_ (fun _ => rfl) (fun b γ W h => h) (fun b γ W h _ => ?_) ?_; rotate_left; · (have c1 := (h.blk.cell 1).trans HCG.out.2.1; have c2 := (h.blk.cell 2).trans HCG.out.2.2.1; have c3 := (h.blk.cell 3).trans HCG.out.2.2.2.1; go_simp; rfl)))
              refine t_end ?_
              intro bq gq wf hall HH
              (try simp only [Act.put, List.setIfInBounds_toArray, List.set_cons_zero, List.set_cons_succ])
              clear hall
              go_wp2_with fail
              go_ret
              rw [HQ3.out, if_neg HNO.out]
              exact ⟨rfl, HH⟩
          · have HQ3 := hid (show q = ({ r with S := r.S ++ [c], run := r.run ++ [c], plain := r.plain ++ [c] }, 12) from HQ4.out)
            clear HQ4
            go_wp2_with fail
            go_ret
            rw [HQ3.out]
            exact ⟨rfl, HH5⟩
        · have w1 : (r.want < 0) = False := eq_false hwt
          have HQ3 := hid (show q = (R3.last { r with S := r.S ++ [c], run := r.run ++ [c], plain := r.plain ++ [c] }, 0) by
            have := HQ2.out
            unfold R3.parse at this
            simp only [if_neg hwt] at this
            rw [if_neg (by simp)] at this
            exact this)
          clear HQ2 l1 l2 htl htt z1 z2 z3 z4 z5 z6 z7
          go_wp2_with fail
          clear c3 w1 hwt
          have HRN := hid (show (({ r with S := r.S ++ [c], run := r.run ++ [c], plain := r.plain ++ [c] } : R3)).run.length ≤ 10001 by show (r.run ++ [c]).length ≤ 10001; rw [List.length_append]; have := HRL.out; simp; omega)
          obtain ⟨rn, hrn⟩ : ∃ rn, rn = ({ r with S := r.S ++ [c], run := r.run ++ [c], plain := r.plain ++ [c] } : R3) := ⟨_, rfl⟩
          have HRW := hid (show rn.want ≤ 10000 by rw [hrn]; exact HW.out)
          rw [← hrn] at HH HQ3 HRN
          clear hrn
          have HCG := hid (cells_get rn)
          have HSET := hid (show (R3.cells rn).set 4 (.int .i64 0) = R3.cells { rn with tail := 0 } from rfl)
          have HNX := hid (fun (W : World) => rnext_calls (B rn.run) (by rw [B_size]; have := HRN.out; omega) W)
          simp only [bitsOf_B] at HNX
          have hps : (B rn.plain).size = rn.plain.length := B_size _
          have hq3 := HQ3.out
          unfold R3.last at hq3
          clear HQ3
          rw [← hps] at hq3
          have HQ3 := hid hq3
          clear hq3
          have hw := HRW.out
          clear HRW hps
          generalize hN : nextL rn.run = N at *
          generalize hP : B rn.plain = P at *
          generalize hQq : B rn.run = Q at *
          generalize hK : rn.want = K at *
          clear hN hP hQq hK
          by_cases k1 : 0 ≤ K
          · have u1 : ((0 : Int) ≤ K) = True := eq_true k1
            have u2 : IntKind.i64.wrap (K + 15) = K + 15 := by rw [IntKind.wrap_i64]; omega
            by_cases k2 : (P.size : Int) = K + 15
            · have u3 : ((P.size : Int) == K + 15) = true := beq_iff_eq.2 k2
              by_cases k3 : N < 0
              · have u4 : (N < 0) = True := eq_true k3
                have HYES := hid (show 0 ≤ K ∧ (P.size : Int) = K + 15 ∧ N < 0 from ⟨k1, k2, k3⟩)
                clear k2 k3
                refine region_text (by kernel_rfl) (by kernel_rfl) (fun _ _ W => Here w W g 93 (R3.cells rn)) HH.drew ?_
                clear HH
                iterate 26 ((try simp only [Act.put, List.setIfInBounds_toArray, List.set_cons_zero, List.set_cons_succ]); first
                  | (refine t_skip (fun _ => rfl) (fun b γ W h => h) ?_)
                  | (refine t_call (.int .i64 N) (fun _ => rfl) (f := 92) (args := #[.string Q]) ?_ (fun b γ W h _ => (HNX.out W).mono (fun e w2 h2 => ⟨h2.1, h.later h2.2⟩)) ?_; · (intro b γ W h _; have c2 := (h.blk.cell 2).trans HCG.out.2.2.1; go_simp; done))
                  | (refine t_pure ?_ (fun _ => rfl) (fun b γ W h => h) (fun b γ W h _ => ?_) ?_; rotate_left; · (have c1 := (h.blk.cell 1).trans HCG.out.2.1; have c2 := (h.blk.cell 2).trans HCG.out.2.2.1; have c3 := (h.blk.cell 3).trans HCG.out.2.2.2.1; go_simp; rfl)))
                refine t_end ?_
                intro bq gq wf hall HH
                (try simp only [Act.put, List.setIfInBounds_toArray, List.set_cons_zero, List.set_cons_succ])
                clear hall
                have f4 := HH.blk.frozen 4
                have c4 := (HH.blk.cell 4).trans HCG.out.2.2.2.2
                have HH4 := hid (HH.set 4 (.int .i64 0))
                clear HH
                go_wp2_with fail
                go_ret
                have hh4 := HH4.out
                rw [HSET.out] at hh4
                rw [HQ3.out, if_pos HYES.out]
                exact ⟨rfl, hh4⟩
              · have u4 : (N < 0) = False := eq_false k3
                have HNO := hid (show ¬ (0 ≤ K ∧ (P.size : Int) = K + 15 ∧ N < 0) from fun h => k3 h.2.2)
                clear k2 k3
                refine region_text (by kernel_rfl) (by kernel_rfl) (fun _ _ W => Here w W g 93 (R3.cells rn)) HH.drew ?_
                clear HH
                iterate 26 ((try simp only [Act.put, List.setIfInBounds_toArray, List.set_cons_zero, List.set_cons_succ]); first
                  | (refine t_skip (fun _ => rfl) (fun b γ W h => h) ?_)
                  | (refine t_call (.int .i64 N) (fun _ => rfl) (f := 92) (args := #[.string Q]) ?_ (fun b γ W h _ => (HNX.out W).mono (fun e w2 h2 => ⟨h2.1, h.later h2.2⟩)) ?_; · (intro b γ W h _; have c2 := (h.blk.cell 2).trans HCG.out.2.2.1; go_simp; done))
                  | (refine t_pure ?_ (fun _ => rfl) (fun b γ W h => h) (fun b γ W h _ => ?_) ?_; rotate_left; · (have c1 := (h.blk.cell 1).trans HCG.out.2.1; have c2 := (h.blk.cell 2).trans HCG.out.2.2.1; have c3 := (h.blk.cell 3).trans HCG.out.2.2.2.1; go_simp; rfl)))
                refine t_end ?_
                intro bq gq wf hall HH
                (try simp only [Act.put, List.setIfInBounds_toArray, List.set_cons_zero, List.set_cons_succ])
                clear hall
                go_wp2_with fail
                go_ret
                rw [HQ3.out, if_neg HNO.out]
                exact ⟨rfl, HH⟩
            · have u3 : ((P.size : Int) == K + 15) = false := beq_eq_false_iff_ne.2 k2
              have HNO := hid (show ¬ (0 ≤ K ∧ (P.size : Int) = K + 15 ∧ N < 0) from fun h => k2 h.2.1)
              clear k2
              refine region_text (by kernel_rfl) (by kernel_rfl) (fun _ _ W => Here w W g 93 (R3.cells rn)) HH.drew ?_
              clear HH
              iterate 26 ((try simp only [Act.put, List.setIfInBounds_toArray, List.set_cons_zero, List.set_cons_succ]); first
                | (refine t_skip (fun _ => rfl) (fun b γ W h => h) ?_)
                | (refine t_pure ?_ (fun _ => rfl) (fun b γ W h => h) (fun b γ W h _ => ?_) ?_; rotate_left; · (have c1 := (h.blk.cell 1).trans HCG.out.2.1; have c2 := (h.blk.cell 2).trans HCG.out.2.2.1; have c3 := (h.blk.cell 3).trans HCG.out.2.2.2.1; go_simp; rfl)))
              refine t_end ?_
              intro bq gq wf hall HH
              (try simp only [Act.put, List.setIfInBounds_toArray, List.set_cons_zero, List.set_cons_succ])
              clear hall
              go_wp2_with fail
              go_ret
              rw [HQ3.out, if_neg HNO.out]
              exact ⟨rfl, HH⟩
          · have u1 : ((0 : Int) ≤ K) = False := eq_false k1
            have HNO := hid (show ¬ (0 ≤ K ∧ (P.size : Int) = K + 15 ∧ N < 0) from fun h => k1 h.1)
            clear k1
            refine region_text (by kernel_rfl) (by kernel_rfl) (fun _ _ W => Here w W g 93 (R3.cells rn)) HH.drew ?_
            clear HH
            iterate 26 ((try simp only [Act.put, List.setIfInBounds_toArray, List.set_cons_zero, List.set_cons_succ]); first
              | (refine t_skip (fun _ => rfl) (fun b γ W h => h) ?_)
              | (refine t_pure ?_ (fun _ => rfl) (fun b γ W h => h) (fun b γ W h _ => ?_) ?_; rotate_left; · (have c1 := (h.blk.cell 1).trans HCG.out.2.1; have c2 := (h.blk.cell 2).trans HCG.out.2.2.1; have c3 := (h.blk.cell 3).trans HCG.out.2.2.2.1; go_simp; rfl)))
            refine t_end ?_
            intro bq gq wf hall HH
            (try simp only [Act.put, List.setIfInBounds_toArray, List.set_cons_zero, List.set_cons_succ])
            clear hall
            go_wp2_with fail
            go_ret
            rw [HQ3.out, if_neg HNO.out]
            exact ⟨rfl, HH⟩
      · rw [if_pos rfl] at hq
        have HQ3 := hid hq
        have HH := HH3
        clear hq HQ HH3 l1 l2 htl htt z1 z2 z3 z4 z5 z6 z7
        go_wp2_with fail
        have HRN := hid (show (({ r with S := r.S ++ [c], run := r.run ++ [c] } : R3)).run.length ≤ 10001 by show (r.run ++ [c]).length ≤ 10001; rw [List.length_append]; have := HRL.out; simp; omega)
        obtain ⟨rn, hrn⟩ : ∃ rn, rn = ({ r with S := r.S ++ [c], run := r.run ++ [c] } : R3) := ⟨_, rfl⟩
        have HRW := hid (show rn.want ≤ 10000 by rw [hrn]; exact HW.out)
        rw [← hrn] at HH HQ3 HRN
        clear hrn
        have HCG := hid (cells_get rn)
        have HSET := hid (show (R3.cells rn).set 4 (.int .i64 0) = R3.cells { rn with tail := 0 } from rfl)
        have HNX := hid (fun (W : World) => rnext_calls (B rn.run) (by rw [B_size]; have := HRN.out; omega) W)
        simp only [bitsOf_B] at HNX
        have hps : (B rn.plain).size = rn.plain.length := B_size _
        have hq3 := HQ3.out
        unfold R3.last at hq3
        clear HQ3
        rw [← hps] at hq3
        have HQ3 := hid hq3
        clear hq3
        have hw := HRW.out
        clear HRW hps
        generalize hN : nextL rn.run = N at *
        generalize hP : B rn.plain = P at *
        generalize hQq : B rn.run = Q at *
        generalize hK : rn.want = K at *
        clear hN hP hQq hK
        by_cases k1 : 0 ≤ K
        · have u1 : ((0 : Int) ≤ K) = True := eq_true k1
          have u2 : IntKind.i64.wrap (K + 15) = K + 15 := by rw [IntKind.wrap_i64]; omega
          by_cases k2 : (P.size : Int) = K + 15
          · have u3 : ((P.size : Int) == K + 15) = true := beq_iff_eq.2 k2
            by_cases k3 : N < 0
            · have u4 : (N < 0) = True := eq_true k3
              have HYES := hid (show 0 ≤ K ∧ (P.size : Int) = K + 15 ∧ N < 0 from ⟨k1, k2, k3⟩)
              clear k2 k3
              refine region_text (by kernel_rfl) (by kernel_rfl) (fun _ _ W => Here w W g 93 (R3.cells rn)) HH.drew ?_
              clear HH
              iterate 26 ((try simp only [Act.put, List.setIfInBounds_toArray, List.set_cons_zero, List.set_cons_succ]); first
                | (refine t_skip (fun _ => rfl) (fun b γ W h => h) ?_)
                | (refine t_call (.int .i64 N) (fun _ => rfl) (f := 92) (args := #[.string Q]) ?_ (fun b γ W h _ => (HNX.out W).mono (fun e w2 h2 => ⟨h2.1, h.later h2.2⟩)) ?_; · (intro b γ W h _; have c2 := (h.blk.cell 2).trans HCG.out.2.2.1; go_simp; done))
                | (refine t_pure ?_ (fun _ => rfl) (fun b γ W h => h) (fun b γ W h _ => ?_) ?_; rotate_left; · (have c1 := (h.blk.cell 1).trans HCG.out.2.1; have c2 := (h.blk.cell 2).trans HCG.out.2.2.1; have c3 := (h.blk.cell 3).trans HCG.out.2.2.2.1; go_simp; rfl)))
              refine t_end ?_
              intro bq gq wf hall HH
              (try simp only [Act.put, List.setIfInBounds_toArray, List.set_cons_zero, List.set_cons_succ])
              clear hall
              have f4 := HH.blk.frozen 4
              have c4 := (HH.blk.cell 4).trans HCG.out.2.2.2.2
              have HH4 := hid (HH.set 4 (.int .i64 0))
              clear HH
              go_wp2_with fail
              go_ret
              have hh4 := HH4.out
              rw [HSET.out] at hh4
              rw [HQ3.out, if_pos HYES.out]
              exact ⟨rfl, hh4⟩
            · have u4 : (N < 0) = False := eq_false k3
              have HNO := hid (show ¬ (0 ≤ K ∧ (P.size : Int) = K + 15 ∧ N < 0) from fun h => k3 h.2.2)
              clear k2 k3
              refine region_text (by kernel_rfl) (by kernel_rfl) (fun _ _ W => Here w W g 93 (R3.cells rn)) HH.drew ?_
              clear HH
              iterate 26 ((try simp only [Act.put, List.setIfInBounds_toArray, List.set_cons_zero, List.set_cons_succ]); first
                | (refine t_skip (fun _ => rfl) (fun b γ W h => h) ?_)
                | (refine t_call (.int .i64 N) (fun _ => rfl) (f := 92) (args := #[.string Q]) ?_ (fun b γ W h _ => (HNX.out W).mono (fun e w2 h2 => ⟨h2.1, h.later h2.2⟩)) ?_; · (intro b γ W h _; have c2 := (h.blk.cell 2).trans HCG.out.2.2.1; go_simp; done))
                | (refine t_pure ?_ (fun _ => rfl) (fun b γ W h => h) (fun b γ W h _ => ?_) ?_; rotate_left; · (have c1 := (h.blk.cell 1).trans HCG.out.2.1; have c2 := (h.blk.cell 2).trans HCG.out.2.2.1; have c3 := (h.blk.cell 3).trans HCG.out.2.2.2.1; go_simp; rfl)))
              refine t_end ?_
              intro bq gq wf hall HH
              (try simp only [Act.put, List.setIfInBounds_toArray, List.set_cons_zero, List.set_cons_succ])
              clear hall
              go_wp2_with fail
              go_ret
              rw [HQ3.out, if_neg HNO.out]
              exact ⟨rfl, HH⟩
          · have u3 : ((P.size : Int) == K + 15) = false := beq_eq_false_iff_ne.2 k2
            have HNO := hid (show ¬ (0 ≤ K ∧ (P.size : Int) = K + 15 ∧ N < 0) from fun h => k2 h.2.1)
            clear k2
            refine region_text (by kernel_rfl) (by kernel_rfl) (fun _ _ W => Here w W g 93 (R3.cells rn)) HH.drew ?_
            clear HH
            iterate 26 ((try simp only [Act.put, List.setIfInBounds_toArray, List.set_cons_zero, List.set_cons_succ]); first
              | (refine t_skip (fun _ => rfl) (fun b γ W h => h) ?_)
              | (refine t_pure ?_ (fun _ => rfl) (fun b γ W h => h) (fun b γ W h _ => ?_) ?_; rotate_left; · (have c1 := (h.blk.cell 1).trans HCG.out.2.1; have c2 := (h.blk.cell 2).trans HCG.out.2.2.1; have c3 := (h.blk.cell 3).trans HCG.out.2.2.2.1; go_simp; rfl)))
            refine t_end ?_
            intro bq gq wf hall HH
            (try simp only [Act.put, List.setIfInBounds_toArray, List.set_cons_zero, List.set_cons_succ])
            clear hall
            go_wp2_with fail
            go_ret
            rw [HQ3.out, if_neg HNO.out]
            exact ⟨rfl, HH⟩
        · have u1 : ((0 : Int) ≤ K) = False := eq_false k1
          have HNO := hid (show ¬ (0 ≤ K ∧ (P.size : Int) = K + 15 ∧ N < 0) from fun h => k1 h.1)
          clear k1
          refine region_text (by kernel_rfl) (by kernel_rfl) (fun _ _ W => Here w W g 93 (R3.cells rn)) HH.drew ?_
          clear HH
          iterate 26 ((try simp only [Act.put, List.setIfInBounds_toArray, List.set_cons_zero, List.set_cons_succ]); first
            | (refine t_skip (fun _ => rfl) (fun b γ W h => h) ?_)
            | (refine t_pure ?_ (fun _ => rfl) (fun b γ W h => h) (fun b γ W h _ => ?_) ?_; rotate_left; · (have c1 := (h.blk.cell 1).trans HCG.out.2.1; have c2 := (h.blk.cell 2).trans HCG.out.2.2.1; have c3 := (h.blk.cell 3).trans HCG.out.2.2.2.1; go_simp; rfl)))
          refine t_end ?_
          intro bq gq wf hall HH
          (try simp only [Act.put, List.setIfInBounds_toArray, List.set_cons_zero, List.set_cons_succ])
          clear hall
          go_wp2_with fail
          go_ret
          rw [HQ3.out, if_neg HNO.out]
          exact ⟨rfl, HH⟩
end Go.Proofs.YtpkpnaedacefaaaGreat.RefW
