-- Written by a program out of the translation, over contracts proved by hand.
import Derived.Test.YtdjlbdpajnlonaaQFrameFieldsx0
namespace Go.Proofs.Ytdjlbdpajnlonaa.QFrameFields
open Go.RowKit Go.Proofs.Ytdjlbdpajnlonaa.Plug Go.Proofs.YtdjlbdpajnlonaaW.PrintWords Go.Proofs.YtdjlbdpajnlonaaW.PrintLast Go.Proofs.YtdjlbdpajnlonaaW.PrintMore
attribute [local go_sem] max2_int min2_int max_two min_two max_three min_three max_four min_four   -- for this text's walks alone
set_option linter.unusedVariables false
set_option linter.unusedSimpArgs false

/-! ### ostinatolaw3_FrameFields: function 8 -/
def ostinatolaw3_FrameFields.j0 : Nat → Bool → Bool → Int → Bool → ByteArray → Bool → Int → Bool → ByteArray → Option (Bool)
  | 0, _, _, _, _, _, _, _, _, _ => none
  | k + 1, x1, x103000, x103001, x103002, x103003, x104000, x104001, x104002, x104003 => (ostinatoref1_Bit.f x1).bind fun t104 => ((ostinatoref1_Of.f (IntKind.u64.wrap ((x103003.size : Int))) 4).bind fun t105 => ((ostinatoref1_FromBytes.f x103003).bind fun t106 => (if t105.size + t106.size ≤ 9223372036854775807 then ((ostinatoref1_Of.f (IntKind.u64.wrap (x103001)) 11).bind fun t107 => (if 1 + t107.size ≤ 9223372036854775807 then (if ((⟨#[48]⟩ : ByteArray) ++ t107).size + t104.size ≤ 9223372036854775807 then (if (((⟨#[48]⟩ : ByteArray) ++ t107) ++ t104).size + 2 ≤ 9223372036854775807 then (if ((((⟨#[48]⟩ : ByteArray) ++ t107) ++ t104) ++ (⟨#[48, 48]⟩ : ByteArray)).size + (t105 ++ t106).size ≤ 9223372036854775807 then ((ostinatoref1_Of.f (IntKind.u64.wrap (x104001)) 29).bind fun t108 => (if 0 ≤ 11 then (if 11 ≤ (t108.size : Int) then (if 1 + (t108.extract 0 11).size ≤ 9223372036854775807 then (if ((⟨#[48]⟩ : ByteArray) ++ (t108.extract 0 11)).size + 2 ≤ 9223372036854775807 then (if (((⟨#[48]⟩ : ByteArray) ++ (t108.extract 0 11)) ++ (⟨#[49, 49]⟩ : ByteArray)).size + (t108.extract 11 t108.size).size ≤ 9223372036854775807 then (if ((((⟨#[48]⟩ : ByteArray) ++ (t108.extract 0 11)) ++ (⟨#[49, 49]⟩ : ByteArray)) ++ (t108.extract 11 t108.size)).size + t104.size ≤ 9223372036854775807 then (if (((((⟨#[48]⟩ : ByteArray) ++ (t108.extract 0 11)) ++ (⟨#[49, 49]⟩ : ByteArray)) ++ (t108.extract 11 t108.size)) ++ t104).size + 2 ≤ 9223372036854775807 then (if ((((((⟨#[48]⟩ : ByteArray) ++ (t108.extract 0 11)) ++ (⟨#[49, 49]⟩ : ByteArray)) ++ (t108.extract 11 t108.size)) ++ t104) ++ (⟨#[48, 48]⟩ : ByteArray)).size + (t105 ++ t106).size ≤ 9223372036854775807 then ((frame_Body.f x103000 x103001 x103002 x103003).bind fun t109 => (if t109.toList = (((((⟨#[48]⟩ : ByteArray) ++ t107) ++ t104) ++ (⟨#[48, 48]⟩ : ByteArray)) ++ (t105 ++ t106)).toList then ((frame_Body.f x104000 x104001 x104002 x104003).bind fun t110 => (if t110.toList = (((((((⟨#[48]⟩ : ByteArray) ++ (t108.extract 0 11)) ++ (⟨#[49, 49]⟩ : ByteArray)) ++ (t108.extract 11 t108.size)) ++ t104) ++ (⟨#[48, 48]⟩ : ByteArray)) ++ (t105 ++ t106)).toList then ((frame_Arb.f x103000 x103001 x103002 x103003).bind fun t111 => (if (t111.size : Int) = 14 then ((frame_Arb.f x104000 x104001 x104002 x104003).bind fun t112 => (some ((t112.size : Int) == 33))) else (some false))) else (some false))) else (some false))) else (none)) else (none)) else (none)) else (none)) else (none)) else (none)) else (none)) else (none))) else (none)) else (none)) else (none)) else (none))) else (none))))
def ostinatolaw3_FrameFields.f (k : Nat) (a0 : Int) (a1 : Bool) (a2 : ByteArray) : Option (Bool) := (ostinatolaw3_known.f).bind fun t101 => (if t101 = true then (if (a2.size : Int) > 8 then (some true) else (if a1 = true then (ostinatolaw3_FrameFields.j0 k a1 false (Int.tmod a0 2048) a1 (⟨#[]⟩ : ByteArray) true (Int.tmod a0 536870912) a1 (⟨#[]⟩ : ByteArray)) else (ostinatolaw3_FrameFields.j0 k a1 false (Int.tmod a0 2048) a1 a2 true (Int.tmod a0 536870912) a1 a2))) else (some false))
theorem ostinatolaw3_FrameFields.mono_l : ∀ k, (∀ y0 y1 y2 y3 y4 y5 y6 y7 y8, LeO (ostinatolaw3_FrameFields.j0 k y0 y1 y2 y3 y4 y5 y6 y7 y8) (ostinatolaw3_FrameFields.j0 (k + 1) y0 y1 y2 y3 y4 y5 y6 y7 y8))
  | 0 => fun _ _ _ _ _ _ _ _ _ r h => by simp [ostinatolaw3_FrameFields.j0] at h
  | k + 1 => by
    have ih0 := ostinatolaw3_FrameFields.mono_l k
    · intro y0 y1 y2 y3 y4 y5 y6 y7 y8
      unfold ostinatolaw3_FrameFields.j0
      repeat' first
      | (with_reducible exact ih0 _ _ _ _ _ _ _ _ _)
      | (with_reducible exact LeO.refl _)
      | (with_reducible exact LeO.none _)
      | (with_reducible refine LeO.ite ?_ ?_)
      | (with_reducible refine LeO.bind ?_ (fun _ => ?_))
      | exact ih0 _ _ _ _ _ _ _ _ _
      | exact LeO.none _
      | refine LeO.ite ?_ ?_
      | refine LeO.bind ?_ (fun _ => ?_)
theorem ostinatolaw3_FrameFields.mono : ∀ a0 a1 a2 k, LeO (ostinatolaw3_FrameFields.f k a0 a1 a2) (ostinatolaw3_FrameFields.f (k + 1) a0 a1 a2) := by
  intro a0 a1 a2 k
  have ih0 := ostinatolaw3_FrameFields.mono_l k
  unfold ostinatolaw3_FrameFields.f
  repeat' first
      | (with_reducible exact ih0 _ _ _ _ _ _ _ _ _)
      | (with_reducible exact LeO.refl _)
      | (with_reducible exact LeO.none _)
      | (with_reducible refine LeO.ite ?_ ?_)
      | (with_reducible refine LeO.bind ?_ (fun _ => ?_))
      | exact ih0 _ _ _ _ _ _ _ _ _
      | exact LeO.none _
      | refine LeO.ite ?_ ?_
      | refine LeO.bind ?_ (fun _ => ?_)
def ostinatolaw3_FrameFields.T10 : Bool × List (List Nat × List Nat) := (true, [([], []), ([0], [0]), ([1], [1]), ([2], [2]), ([3], [3]), ([], []), ([5], [5]), ([6, 4], [6]), ([4, 7], [4, 7]), ([8, 7, 0, 1, 2, 3, 4, 5, 6, 7, 8], [8])])
def ostinatolaw3_FrameFields.B10 : List Nat := [0, 1, 3, 7, 15, 0, 32, 127, 255, 511]
theorem ostinatolaw3_FrameFields.tab10 : rtab .any (opsOf Try.f8 10) = ostinatolaw3_FrameFields.T10 := by kernel_rfl
theorem ostinatolaw3_FrameFields.bits10 : waitsOk ostinatolaw3_FrameFields.T10.2 ostinatolaw3_FrameFields.B10 = true := by kernel_rfl
def ostinatolaw3_FrameFields.T13 : Bool × List (List Nat × List Nat) := (true, [([], []), ([0], [0]), ([1], [1]), ([2], [2]), ([], []), ([4], [4]), ([3, 5], [3, 5]), ([], []), ([6, 7], [6, 7]), ([8], [8]), ([], []), ([9, 10], [9, 10]), ([11, 0, 1, 2, 3, 4, 5, 6, 7, 8, 9, 10, 11], [11])])
def ostinatolaw3_FrameFields.B13 : List Nat := [0, 1, 3, 7, 0, 16, 63, 0, 255, 511, 0, 2047, 4095]
theorem ostinatolaw3_FrameFields.tab13 : rtab .any (opsOf Try.f8 13) = ostinatolaw3_FrameFields.T13 := by kernel_rfl
theorem ostinatolaw3_FrameFields.bits13 : waitsOk ostinatolaw3_FrameFields.T13.2 ostinatolaw3_FrameFields.B13 = true := by kernel_rfl
set_option maxHeartbeats 8000000 in
set_option maxRecDepth 100000 in
theorem ostinatolaw3_FrameFields.calls (k : Nat) (a0 : Int) (a1 : Bool) (a2 : ByteArray) (r : Bool) (w : World) (h : ostinatolaw3_FrameFields.f k a0 a1 a2 = some r) :
    Calls Try.prog 8 #[.int .u32 a0, .bool a1, .string a2] w fun e w' => e = .returned (.bool r) ∧ Below w.heap.size w w' := by
  have hu24 := Try.underlying24
  have HB := Aside0.mk (Below.refl w.heap.size w)
  have H : ((ostinatolaw3_known.f).bind fun t101 => (if t101 = true then (if (a2.size : Int) > 8 then (some true) else (if a1 = true then (ostinatolaw3_FrameFields.j0 k a1 false (Int.tmod a0 2048) a1 (⟨#[]⟩ : ByteArray) true (Int.tmod a0 536870912) a1 (⟨#[]⟩ : ByteArray)) else (ostinatolaw3_FrameFields.j0 k a1 false (Int.tmod a0 2048) a1 a2 true (Int.tmod a0 536870912) a1 a2))) else (some false))) = some r := h
  clear h
  replace H := Option.bind_eq_some_iff.mp H
  obtain ⟨t101, A40, H⟩ := H
  replace H : (if t101 = true then (if (a2.size : Int) > 8 then (some true) else (if a1 = true then (ostinatolaw3_FrameFields.j0 k a1 false (Int.tmod a0 2048) a1 (⟨#[]⟩ : ByteArray) true (Int.tmod a0 536870912) a1 (⟨#[]⟩ : ByteArray)) else (ostinatolaw3_FrameFields.j0 k a1 false (Int.tmod a0 2048) a1 a2 true (Int.tmod a0 536870912) a1 a2))) else (some false)) = some r := H
  have A4 := Aside0.mk A40
  clear A40
  by_cases c5 : t101 = true
  · subst c5
    have H1 : (if (a2.size : Int) > 8 then (some true) else (if a1 = true then (ostinatolaw3_FrameFields.j0 k a1 false (Int.tmod a0 2048) a1 (⟨#[]⟩ : ByteArray) true (Int.tmod a0 536870912) a1 (⟨#[]⟩ : ByteArray)) else (ostinatolaw3_FrameFields.j0 k a1 false (Int.tmod a0 2048) a1 a2 true (Int.tmod a0 536870912) a1 a2))) = some r := by rw [if_pos rfl] at H; exact H
    clear H
    have H := H1
    clear H1
    by_cases c6 : (a2.size : Int) > 8
    · rw [if_pos c6] at H
      have c6b0 : decide (8 < (a2.size : Int)) = true := decide_eq_true c6
      have c6b1 : decide (8 < a2.size) = true := decide_eq_true (by omega)
      clear c6
      obtain rfl := Option.some.inj H
      go_enter Try.func8, Try.ntmps8
      go_wp2_with (first | ((with_reducible refine gate_callee (f := 11) rfl ?_); refine goesL_ (some 14) rfl rfl Try.func11 (by kernel_rfl) rfl #[] rfl (by (try simp only [List.map_toArray, List.map_cons, List.map_nil]); first | done | rfl | (simp only [List.length_drop, List.length_take]; rfl)) ?_; (with_reducible refine (ostinatolaw3_known.calls  true _ A4.out).mono ?_); rintro e w7 ⟨rfl, hb⟩; refine ⟨_, rfl, ?_⟩; have n0_ := Aside0.mk (below_step (by repeat (first | (with_reducible first | exact HB.out | apply below_alloc | apply pw_below_drewN | apply below_drew1) | exact HB.out)) hb); clear HB; have HB := n0_; clear n0_; (try clear hb); (try clear hb2); (try clear hk); (try clear hi)))
      go_ret
      exact ⟨by first | rfl | (simp [errW_none, errW_some] <;> rfl) | (simp [*, errW_none, errW_some] <;> rfl), by repeat (first | (with_reducible first | exact HB.out | apply below_alloc | apply pw_below_drewN | apply below_drew1) | exact HB.out)⟩
    · rw [if_neg c6] at H
      have c6b0 : decide (8 < (a2.size : Int)) = false := decide_eq_false c6
      have c6b1 : decide (8 < a2.size) = false := decide_eq_false (by omega)
      clear c6
      have HC8 := Aside0.mk H
      clear H
      go_enter Try.func8, Try.ntmps8
      go_upto_if 29 with (first | ((with_reducible refine gate_callee (f := 11) rfl ?_); refine goesL_ (some 14) rfl rfl Try.func11 (by kernel_rfl) rfl #[] rfl (by (try simp only [List.map_toArray, List.map_cons, List.map_nil]); first | done | rfl | (simp only [List.length_drop, List.length_take]; rfl)) ?_; (with_reducible refine (ostinatolaw3_known.calls  true _ A4.out).mono ?_); rintro e w9 ⟨rfl, hb⟩; refine ⟨_, rfl, ?_⟩; have n0_ := Aside0.mk (below_step (by repeat (first | (with_reducible first | exact HB.out | apply below_alloc | apply pw_below_drewN | apply below_drew1) | exact HB.out)) hb); clear HB; have HB := n0_; clear n0_; (try clear hb); (try clear hb2); (try clear hk); (try clear hi)) | ((with_reducible refine gate_dst (N := 7) rfl ?_); (try (refine gate_guard (by rfl) ?_; dsimp only)); refine box_event ?hg (N := 7) ?hd (cs := #[.bool false, .int .u32 0, .bool false, .string (⟨#[]⟩ : ByteArray)]) (t := 24) ?hr ?_; (case hd => rfl); (case hg => rfl); (case hr => first | (go_simp; done) | (go_simp; rfl)); intro gb102 hg w10 hbox hb; have n0_ := Aside0.mk (below_step (by repeat (first | (with_reducible first | exact HB.out | apply below_alloc | apply pw_below_drewN | apply below_drew1) | exact HB.out)) hb); have n1_ := Aside0.mk (hbox); have n2_ := Aside0.mk ((by rw [hg]; exact (below_size (by repeat (first | (with_reducible first | exact HB.out | apply below_alloc | apply pw_below_drewN | apply below_drew1) | exact HB.out))) : w.heap.size ≤ gb102)); have n3_ := Aside0.mk ((by rw [hg]; exact (below_size (by repeat (first | (with_reducible first | exact HB.out | apply below_alloc | apply pw_below_drewN | apply below_drew1) | exact HB.out))) : w.heap.size ≤ gb102)); clear HB; have HB := n0_; have BK102 := n1_; have GW102 := n2_; have GE102 := n3_; clear n0_ n1_ n2_ n3_; clear hb hbox hg; have hcz11_0 : w10.cell? ⟨gb102, 0, none⟩ = some (.bool false) := (blk_cell BK102.out 0).trans rfl; have hcz11_1 : w10.cell? ⟨gb102, 1, none⟩ = some (.int .u32 0) := (blk_cell BK102.out 1).trans rfl; have hcz11_2 : w10.cell? ⟨gb102, 2, none⟩ = some (.bool false) := (blk_cell BK102.out 2).trans rfl; have hcz11_3 : w10.cell? ⟨gb102, 3, none⟩ = some (.string (⟨#[]⟩ : ByteArray)) := (blk_cell BK102.out 3).trans rfl; have hfz11_0 := blk_frozen BK102.out 0; have hfz11_1 := blk_frozen BK102.out 1; have hfz11_2 := blk_frozen BK102.out 2; have hfz11_3 := blk_frozen BK102.out 3) | ((with_reducible refine gate_dst (N := 8) rfl ?_); (try (refine gate_guard (by rfl) ?_; dsimp only)); refine box_event ?hg (N := 8) ?hd (cs := #[.bool false, .int .u32 0, .bool false, .string (⟨#[]⟩ : ByteArray)]) (t := 24) ?hr ?_; (case hd => rfl); (case hg => rfl); (case hr => first | (go_simp; done) | (go_simp; rfl)); intro gb103 hg w12 hbox hb; have n0_ := Aside0.mk (blk_below (g := gb102) (o := .cells #[.bool false, .int .u32 (Int.tmod a0 2048), .bool a1, .string a2] 24 (0, 0)) (by (with_reducible repeat (first | refine blk_drewN ?_ _ | refine blk_drew ?_ | refine blk_alloc ?_ _)); refine blk_put (cs := #[.bool false, .int .u32 (Int.tmod a0 2048), .bool a1, .string (⟨#[]⟩ : ByteArray)]) ?_ 3 _ rfl; (with_reducible repeat (first | refine blk_drewN ?_ _ | refine blk_drew ?_ | refine blk_alloc ?_ _)); refine blk_put (cs := #[.bool false, .int .u32 (Int.tmod a0 2048), .bool false, .string (⟨#[]⟩ : ByteArray)]) ?_ 2 _ rfl; (with_reducible repeat (first | refine blk_drewN ?_ _ | refine blk_drew ?_ | refine blk_alloc ?_ _)); refine blk_put (cs := #[.bool false, .int .u32 0, .bool false, .string (⟨#[]⟩ : ByteArray)]) ?_ 1 _ rfl; (with_reducible repeat (first | refine blk_drewN ?_ _ | refine blk_drew ?_ | refine blk_alloc ?_ _)); refine blk_put (cs := #[.bool false, .int .u32 0, .bool false, .string (⟨#[]⟩ : ByteArray)]) ?_ 0 _ rfl; (with_reducible repeat (first | refine blk_drewN ?_ _ | refine blk_drew ?_ | refine blk_alloc ?_ _)); exact BK102.out) hb); have n1_ := Aside0.mk (below_step (by repeat (first | (with_reducible first | exact HB.out | apply below_alloc | apply pw_below_drewN | apply below_drew1 | refine below_set ?_ GE102.out) | exact HB.out)) hb); have n2_ := Aside0.mk (hbox); have n3_ := Aside0.mk ((by rw [hg]; exact (below_size (by repeat (first | (with_reducible first | exact HB.out | apply below_alloc | apply pw_below_drewN | apply below_drew1 | refine below_set ?_ GE102.out) | exact HB.out))) : w.heap.size ≤ gb103)); have n4_ := Aside0.mk ((by rw [hg]; exact (below_size (by repeat (first | (with_reducible first | exact HB.out | apply below_alloc | apply pw_below_drewN | apply below_drew1 | refine below_set ?_ GE102.out) | exact HB.out))) : w.heap.size ≤ gb103)); have n5_ := Aside0.mk ((by rw [hg]; exact Nat.ne_of_lt (blk_lt (g := gb102) (o := .cells #[.bool false, .int .u32 (Int.tmod a0 2048), .bool a1, .string a2] 24 (0, 0)) (by (with_reducible repeat (first | refine blk_drewN ?_ _ | refine blk_drew ?_ | refine blk_alloc ?_ _)); refine blk_put (cs := #[.bool false, .int .u32 (Int.tmod a0 2048), .bool a1, .string (⟨#[]⟩ : ByteArray)]) ?_ 3 _ rfl; (with_reducible repeat (first | refine blk_drewN ?_ _ | refine blk_drew ?_ | refine blk_alloc ?_ _)); refine blk_put (cs := #[.bool false, .int .u32 (Int.tmod a0 2048), .bool false, .string (⟨#[]⟩ : ByteArray)]) ?_ 2 _ rfl; (with_reducible repeat (first | refine blk_drewN ?_ _ | refine blk_drew ?_ | refine blk_alloc ?_ _)); refine blk_put (cs := #[.bool false, .int .u32 0, .bool false, .string (⟨#[]⟩ : ByteArray)]) ?_ 1 _ rfl; (with_reducible repeat (first | refine blk_drewN ?_ _ | refine blk_drew ?_ | refine blk_alloc ?_ _)); refine blk_put (cs := #[.bool false, .int .u32 0, .bool false, .string (⟨#[]⟩ : ByteArray)]) ?_ 0 _ rfl; (with_reducible repeat (first | refine blk_drewN ?_ _ | refine blk_drew ?_ | refine blk_alloc ?_ _)); exact BK102.out)) : gb102 ≠ gb103)); have n6_ := Aside0.mk ((by rw [hg]; exact Nat.ne_of_gt (blk_lt (g := gb102) (o := .cells #[.bool false, .int .u32 (Int.tmod a0 2048), .bool a1, .string a2] 24 (0, 0)) (by (with_reducible repeat (first | refine blk_drewN ?_ _ | refine blk_drew ?_ | refine blk_alloc ?_ _)); refine blk_put (cs := #[.bool false, .int .u32 (Int.tmod a0 2048), .bool a1, .string (⟨#[]⟩ : ByteArray)]) ?_ 3 _ rfl; (with_reducible repeat (first | refine blk_drewN ?_ _ | refine blk_drew ?_ | refine blk_alloc ?_ _)); refine blk_put (cs := #[.bool false, .int .u32 (Int.tmod a0 2048), .bool false, .string (⟨#[]⟩ : ByteArray)]) ?_ 2 _ rfl; (with_reducible repeat (first | refine blk_drewN ?_ _ | refine blk_drew ?_ | refine blk_alloc ?_ _)); refine blk_put (cs := #[.bool false, .int .u32 0, .bool false, .string (⟨#[]⟩ : ByteArray)]) ?_ 1 _ rfl; (with_reducible repeat (first | refine blk_drewN ?_ _ | refine blk_drew ?_ | refine blk_alloc ?_ _)); refine blk_put (cs := #[.bool false, .int .u32 0, .bool false, .string (⟨#[]⟩ : ByteArray)]) ?_ 0 _ rfl; (with_reducible repeat (first | refine blk_drewN ?_ _ | refine blk_drew ?_ | refine blk_alloc ?_ _)); exact BK102.out)) : gb103 ≠ gb102)); clear BK102; clear HB; have BK102 := n0_; have HB := n1_; have BK103 := n2_; have GW103 := n3_; have GE103 := n4_; have NB102_103 := n5_; have NB103_102 := n6_; clear n0_ n1_ n2_ n3_ n4_ n5_ n6_; clear hb hbox hg; have hnb13 := NB103_102.out; have hnc13 := NB102_103.out; have hcz14_0 : w12.cell? ⟨gb103, 0, none⟩ = some (.bool false) := (blk_cell BK103.out 0).trans rfl; have hcz14_1 : w12.cell? ⟨gb103, 1, none⟩ = some (.int .u32 0) := (blk_cell BK103.out 1).trans rfl; have hcz14_2 : w12.cell? ⟨gb103, 2, none⟩ = some (.bool false) := (blk_cell BK103.out 2).trans rfl; have hcz14_3 : w12.cell? ⟨gb103, 3, none⟩ = some (.string (⟨#[]⟩ : ByteArray)) := (blk_cell BK103.out 3).trans rfl; have hfz14_0 := blk_frozen BK103.out 0; have hfz14_1 := blk_frozen BK103.out 1; have hfz14_2 := blk_frozen BK103.out 2; have hfz14_3 := blk_frozen BK103.out 3))
      (try simp only [Act.put, List.setIfInBounds_toArray, List.set_cons_zero, List.set_cons_succ])
      go_cut [] (fun wc => ∃ (kq : Nat) (x103003_7 : ByteArray) (x104003_7 : ByteArray), Aside0 (ostinatolaw3_FrameFields.j0 kq a1 false (Int.tmod a0 2048) a1 x103003_7 true (Int.tmod a0 536870912) a1 x104003_7 = some r) ∧ Aside0 (kq ≤ k) ∧ Aside0 (wc.heap[gb102]? = some (.cells #[.bool false, .int .u32 (Int.tmod a0 2048), .bool a1, .string x103003_7] 24 (0, 0))) ∧ Aside0 (wc.heap[gb103]? = some (.cells #[.bool true, .int .u32 (Int.tmod a0 536870912), .bool a1, .string x104003_7] 24 (0, 0))) ∧ Aside0 (Below w.heap.size w wc))
      case first =>
        have H := HC8.out
        clear HC8
        by_cases c15 : a1 = true
        · subst c15
          have H1 : (ostinatolaw3_FrameFields.j0 k true false (Int.tmod a0 2048) true (⟨#[]⟩ : ByteArray) true (Int.tmod a0 536870912) true (⟨#[]⟩ : ByteArray)) = some r := by rw [if_pos rfl] at H; exact H
          clear H
          have H := H1
          clear H1
          have H' := Aside0.mk H
          clear H
          have hnb16 := NB102_103.out
          have hnc16 := NB103_102.out
          have hcz17_0 : w12.cell? ⟨gb102, 0, none⟩ = some (.bool false) := (blk_cell BK102.out 0).trans rfl
          have hcz17_1 : w12.cell? ⟨gb102, 1, none⟩ = some (.int .u32 (Int.tmod a0 2048)) := (blk_cell BK102.out 1).trans rfl
          have hcz17_2 : w12.cell? ⟨gb102, 2, none⟩ = some (.bool true) := (blk_cell BK102.out 2).trans rfl
          have hcz17_3 : w12.cell? ⟨gb102, 3, none⟩ = some (.string a2) := (blk_cell BK102.out 3).trans rfl
          have hfz17_0 := blk_frozen BK102.out 0
          have hfz17_1 := blk_frozen BK102.out 1
          have hfz17_2 := blk_frozen BK102.out 2
          have hfz17_3 := blk_frozen BK102.out 3
          have hcz18_0 : w12.cell? ⟨gb103, 0, none⟩ = some (.bool false) := (blk_cell BK103.out 0).trans rfl
          have hcz18_1 : w12.cell? ⟨gb103, 1, none⟩ = some (.int .u32 0) := (blk_cell BK103.out 1).trans rfl
          have hcz18_2 : w12.cell? ⟨gb103, 2, none⟩ = some (.bool false) := (blk_cell BK103.out 2).trans rfl
          have hcz18_3 : w12.cell? ⟨gb103, 3, none⟩ = some (.string (⟨#[]⟩ : ByteArray)) := (blk_cell BK103.out 3).trans rfl
          have hfz18_0 := blk_frozen BK103.out 0
          have hfz18_1 := blk_frozen BK103.out 1
          have hfz18_2 := blk_frozen BK103.out 2
          have hfz18_3 := blk_frozen BK103.out 3
          go_wp2
          go_meet
          case rel => exact ⟨_, ((⟨#[]⟩ : ByteArray)), ((⟨#[]⟩ : ByteArray)), H', ⟨by first | omega | exact Nat.le_refl _⟩, ⟨by (with_reducible repeat (first | refine blk_drewN ?_ _ | refine blk_drew ?_ | refine blk_alloc ?_ _)); refine blk_far ?_ NB102_103.out _; (with_reducible repeat (first | refine blk_drewN ?_ _ | refine blk_drew ?_ | refine blk_alloc ?_ _)); refine blk_put (cs := #[.bool false, .int .u32 (Int.tmod a0 2048), .bool true, .string a2]) ?_ 3 _ rfl; (with_reducible repeat (first | refine blk_drewN ?_ _ | refine blk_drew ?_ | refine blk_alloc ?_ _)); refine blk_far ?_ NB102_103.out _; (with_reducible repeat (first | refine blk_drewN ?_ _ | refine blk_drew ?_ | refine blk_alloc ?_ _)); refine blk_far ?_ NB102_103.out _; (with_reducible repeat (first | refine blk_drewN ?_ _ | refine blk_drew ?_ | refine blk_alloc ?_ _)); refine blk_far ?_ NB102_103.out _; (with_reducible repeat (first | refine blk_drewN ?_ _ | refine blk_drew ?_ | refine blk_alloc ?_ _)); refine blk_far ?_ NB102_103.out _; (with_reducible repeat (first | refine blk_drewN ?_ _ | refine blk_drew ?_ | refine blk_alloc ?_ _)); exact BK102.out⟩, ⟨by (with_reducible repeat (first | refine blk_drewN ?_ _ | refine blk_drew ?_ | refine blk_alloc ?_ _)); refine blk_put (cs := #[.bool true, .int .u32 (Int.tmod a0 536870912), .bool true, .string a2]) ?_ 3 _ rfl; (with_reducible repeat (first | refine blk_drewN ?_ _ | refine blk_drew ?_ | refine blk_alloc ?_ _)); refine blk_far ?_ NB103_102.out _; (with_reducible repeat (first | refine blk_drewN ?_ _ | refine blk_drew ?_ | refine blk_alloc ?_ _)); refine blk_put (cs := #[.bool true, .int .u32 (Int.tmod a0 536870912), .bool true, .string (⟨#[]⟩ : ByteArray)]) ?_ 3 _ rfl; (with_reducible repeat (first | refine blk_drewN ?_ _ | refine blk_drew ?_ | refine blk_alloc ?_ _)); refine blk_put (cs := #[.bool true, .int .u32 (Int.tmod a0 536870912), .bool false, .string (⟨#[]⟩ : ByteArray)]) ?_ 2 _ rfl; (with_reducible repeat (first | refine blk_drewN ?_ _ | refine blk_drew ?_ | refine blk_alloc ?_ _)); refine blk_put (cs := #[.bool true, .int .u32 0, .bool false, .string (⟨#[]⟩ : ByteArray)]) ?_ 1 _ rfl; (with_reducible repeat (first | refine blk_drewN ?_ _ | refine blk_drew ?_ | refine blk_alloc ?_ _)); refine blk_put (cs := #[.bool false, .int .u32 0, .bool false, .string (⟨#[]⟩ : ByteArray)]) ?_ 0 _ rfl; (with_reducible repeat (first | refine blk_drewN ?_ _ | refine blk_drew ?_ | refine blk_alloc ?_ _)); exact BK103.out⟩, ⟨by repeat (first | (with_reducible first | exact HB.out | apply below_alloc | apply pw_below_drewN | apply below_drew1 | refine below_set ?_ GE102.out | refine below_set ?_ GE103.out) | exact HB.out)⟩⟩
        · replace c15 := Bool.eq_false_iff.mpr c15
          subst c15
          have H1 : (ostinatolaw3_FrameFields.j0 k false false (Int.tmod a0 2048) false a2 true (Int.tmod a0 536870912) false a2) = some r := by rw [if_neg (show ¬ (false = true) by decide)] at H; exact H
          clear H
          have H := H1
          clear H1
          have H' := Aside0.mk H
          clear H
          go_wp2
          go_meet
          case rel => exact ⟨_, (a2), (a2), H', ⟨by first | omega | exact Nat.le_refl _⟩, ⟨by (with_reducible repeat (first | refine blk_drewN ?_ _ | refine blk_drew ?_ | refine blk_alloc ?_ _)); refine blk_far ?_ NB102_103.out _; (with_reducible repeat (first | refine blk_drewN ?_ _ | refine blk_drew ?_ | refine blk_alloc ?_ _)); refine blk_far ?_ NB102_103.out _; (with_reducible repeat (first | refine blk_drewN ?_ _ | refine blk_drew ?_ | refine blk_alloc ?_ _)); refine blk_far ?_ NB102_103.out _; (with_reducible repeat (first | refine blk_drewN ?_ _ | refine blk_drew ?_ | refine blk_alloc ?_ _)); refine blk_far ?_ NB102_103.out _; (with_reducible repeat (first | refine blk_drewN ?_ _ | refine blk_drew ?_ | refine blk_alloc ?_ _)); exact BK102.out⟩, ⟨by (with_reducible repeat (first | refine blk_drewN ?_ _ | refine blk_drew ?_ | refine blk_alloc ?_ _)); refine blk_put (cs := #[.bool true, .int .u32 (Int.tmod a0 536870912), .bool false, .string (⟨#[]⟩ : ByteArray)]) ?_ 3 _ rfl; (with_reducible repeat (first | refine blk_drewN ?_ _ | refine blk_drew ?_ | refine blk_alloc ?_ _)); refine blk_put (cs := #[.bool true, .int .u32 (Int.tmod a0 536870912), .bool false, .string (⟨#[]⟩ : ByteArray)]) ?_ 2 _ rfl; (with_reducible repeat (first | refine blk_drewN ?_ _ | refine blk_drew ?_ | refine blk_alloc ?_ _)); refine blk_put (cs := #[.bool true, .int .u32 0, .bool false, .string (⟨#[]⟩ : ByteArray)]) ?_ 1 _ rfl; (with_reducible repeat (first | refine blk_drewN ?_ _ | refine blk_drew ?_ | refine blk_alloc ?_ _)); refine blk_put (cs := #[.bool false, .int .u32 0, .bool false, .string (⟨#[]⟩ : ByteArray)]) ?_ 0 _ rfl; (with_reducible repeat (first | refine blk_drewN ?_ _ | refine blk_drew ?_ | refine blk_alloc ?_ _)); exact BK103.out⟩, ⟨by repeat (first | (with_reducible first | exact HB.out | apply below_alloc | apply pw_below_drewN | apply below_drew1 | refine below_set ?_ GE102.out | refine below_set ?_ GE103.out) | exact HB.out)⟩⟩
      case rest =>
        clear HC8
        try clear c1
        try clear p2
        try clear c5
        try clear c6
        try clear c6b0
        try clear c6b1
        try clear c8
        try clear c11
        try clear c13
        try clear c15
        try clear c16
        try clear hcz11_0
        try clear hcz11_1
        try clear hcz11_2
        try clear hcz11_3
        try clear hcz14_0
        try clear hcz14_1
        try clear hcz14_2
        try clear hcz14_3
        try clear hcz17_0
        try clear hcz17_1
        try clear hcz17_2
        try clear hcz17_3
        try clear hcz18_0
        try clear hcz18_1
        try clear hcz18_2
        try clear hcz18_3
        try clear hfz11_0
        try clear hfz11_1
        try clear hfz11_2
        try clear hfz11_3
        try clear hfz14_0
        try clear hfz14_1
        try clear hfz14_2
        try clear hfz14_3
        try clear hfz17_0
        try clear hfz17_1
        try clear hfz17_2
        try clear hfz17_3
        try clear hfz18_0
        try clear hfz18_1
        try clear hfz18_2
        try clear hfz18_3
        obtain ⟨kq, x103003_7, x104003_7, HA, HJ7, BK102, BK103, HB⟩ := hcut
        cases kq with
        | zero => exact absurd HA.out (by simp [ostinatolaw3_FrameFields.j0])
        | succ kj7 =>
          have H := HA.out
          clear HA
          simp only [ostinatolaw3_FrameFields.j0] at H
          replace H := Option.bind_eq_some_iff.mp H
          obtain ⟨t104, A190, H⟩ := H
          replace H : ((ostinatoref1_Of.f (IntKind.u64.wrap ((x103003_7.size : Int))) 4).bind fun t105 => ((ostinatoref1_FromBytes.f x103003_7).bind fun t106 => (if t105.size + t106.size ≤ 9223372036854775807 then ((ostinatoref1_Of.f (IntKind.u64.wrap ((Int.tmod a0 2048))) 11).bind fun t107 => (if 1 + t107.size ≤ 9223372036854775807 then (if ((⟨#[48]⟩ : ByteArray) ++ t107).size + t104.size ≤ 9223372036854775807 then (if (((⟨#[48]⟩ : ByteArray) ++ t107) ++ t104).size + 2 ≤ 9223372036854775807 then (if ((((⟨#[48]⟩ : ByteArray) ++ t107) ++ t104) ++ (⟨#[48, 48]⟩ : ByteArray)).size + (t105 ++ t106).size ≤ 9223372036854775807 then ((ostinatoref1_Of.f (IntKind.u64.wrap ((Int.tmod a0 536870912))) 29).bind fun t108 => (if 0 ≤ 11 then (if 11 ≤ (t108.size : Int) then (if 1 + (t108.extract 0 11).size ≤ 9223372036854775807 then (if ((⟨#[48]⟩ : ByteArray) ++ (t108.extract 0 11)).size + 2 ≤ 9223372036854775807 then (if (((⟨#[48]⟩ : ByteArray) ++ (t108.extract 0 11)) ++ (⟨#[49, 49]⟩ : ByteArray)).size + (t108.extract 11 t108.size).size ≤ 9223372036854775807 then (if ((((⟨#[48]⟩ : ByteArray) ++ (t108.extract 0 11)) ++ (⟨#[49, 49]⟩ : ByteArray)) ++ (t108.extract 11 t108.size)).size + t104.size ≤ 9223372036854775807 then (if (((((⟨#[48]⟩ : ByteArray) ++ (t108.extract 0 11)) ++ (⟨#[49, 49]⟩ : ByteArray)) ++ (t108.extract 11 t108.size)) ++ t104).size + 2 ≤ 9223372036854775807 then (if ((((((⟨#[48]⟩ : ByteArray) ++ (t108.extract 0 11)) ++ (⟨#[49, 49]⟩ : ByteArray)) ++ (t108.extract 11 t108.size)) ++ t104) ++ (⟨#[48, 48]⟩ : ByteArray)).size + (t105 ++ t106).size ≤ 9223372036854775807 then ((frame_Body.f false (Int.tmod a0 2048) a1 x103003_7).bind fun t109 => (if t109.toList = (((((⟨#[48]⟩ : ByteArray) ++ t107) ++ t104) ++ (⟨#[48, 48]⟩ : ByteArray)) ++ (t105 ++ t106)).toList then ((frame_Body.f true (Int.tmod a0 536870912) a1 x104003_7).bind fun t110 => (if t110.toList = (((((((⟨#[48]⟩ : ByteArray) ++ (t108.extract 0 11)) ++ (⟨#[49, 49]⟩ : ByteArray)) ++ (t108.extract 11 t108.size)) ++ t104) ++ (⟨#[48, 48]⟩ : ByteArray)) ++ (t105 ++ t106)).toList then ((frame_Arb.f false (Int.tmod a0 2048) a1 x103003_7).bind fun t111 => (if (t111.size : Int) = 14 then ((frame_Arb.f true (Int.tmod a0 536870912) a1 x104003_7).bind fun t112 => (some ((t112.size : Int) == 33))) else (some false))) else (some false))) else (some false))) else (none)) else (none)) else (none)) else (none)) else (none)) else (none)) else (none)) else (none))) else (none)) else (none)) else (none)) else (none))) else (none)))) = some r := H
          have A19 := Aside0.mk A190
          clear A190
          replace H := Option.bind_eq_some_iff.mp H
          obtain ⟨t105, A200, H⟩ := H
          replace H : ((ostinatoref1_FromBytes.f x103003_7).bind fun t106 => (if t105.size + t106.size ≤ 9223372036854775807 then ((ostinatoref1_Of.f (IntKind.u64.wrap ((Int.tmod a0 2048))) 11).bind fun t107 => (if 1 + t107.size ≤ 9223372036854775807 then (if ((⟨#[48]⟩ : ByteArray) ++ t107).size + t104.size ≤ 9223372036854775807 then (if (((⟨#[48]⟩ : ByteArray) ++ t107) ++ t104).size + 2 ≤ 9223372036854775807 then (if ((((⟨#[48]⟩ : ByteArray) ++ t107) ++ t104) ++ (⟨#[48, 48]⟩ : ByteArray)).size + (t105 ++ t106).size ≤ 9223372036854775807 then ((ostinatoref1_Of.f (IntKind.u64.wrap ((Int.tmod a0 536870912))) 29).bind fun t108 => (if 0 ≤ 11 then (if 11 ≤ (t108.size : Int) then (if 1 + (t108.extract 0 11).size ≤ 9223372036854775807 then (if ((⟨#[48]⟩ : ByteArray) ++ (t108.extract 0 11)).size + 2 ≤ 9223372036854775807 then (if (((⟨#[48]⟩ : ByteArray) ++ (t108.extract 0 11)) ++ (⟨#[49, 49]⟩ : ByteArray)).size + (t108.extract 11 t108.size).size ≤ 9223372036854775807 then (if ((((⟨#[48]⟩ : ByteArray) ++ (t108.extract 0 11)) ++ (⟨#[49, 49]⟩ : ByteArray)) ++ (t108.extract 11 t108.size)).size + t104.size ≤ 9223372036854775807 then (if (((((⟨#[48]⟩ : ByteArray) ++ (t108.extract 0 11)) ++ (⟨#[49, 49]⟩ : ByteArray)) ++ (t108.extract 11 t108.size)) ++ t104).size + 2 ≤ 9223372036854775807 then (if ((((((⟨#[48]⟩ : ByteArray) ++ (t108.extract 0 11)) ++ (⟨#[49, 49]⟩ : ByteArray)) ++ (t108.extract 11 t108.size)) ++ t104) ++ (⟨#[48, 48]⟩ : ByteArray)).size + (t105 ++ t106).size ≤ 9223372036854775807 then ((frame_Body.f false (Int.tmod a0 2048) a1 x103003_7).bind fun t109 => (if t109.toList = (((((⟨#[48]⟩ : ByteArray) ++ t107) ++ t104) ++ (⟨#[48, 48]⟩ : ByteArray)) ++ (t105 ++ t106)).toList then ((frame_Body.f true (Int.tmod a0 536870912) a1 x104003_7).bind fun t110 => (if t110.toList = (((((((⟨#[48]⟩ : ByteArray) ++ (t108.extract 0 11)) ++ (⟨#[49, 49]⟩ : ByteArray)) ++ (t108.extract 11 t108.size)) ++ t104) ++ (⟨#[48, 48]⟩ : ByteArray)) ++ (t105 ++ t106)).toList then ((frame_Arb.f false (Int.tmod a0 2048) a1 x103003_7).bind fun t111 => (if (t111.size : Int) = 14 then ((frame_Arb.f true (Int.tmod a0 536870912) a1 x104003_7).bind fun t112 => (some ((t112.size : Int) == 33))) else (some false))) else (some false))) else (some false))) else (none)) else (none)) else (none)) else (none)) else (none)) else (none)) else (none)) else (none))) else (none)) else (none)) else (none)) else (none))) else (none))) = some r := H
          have A20 := Aside0.mk A200
          clear A200
          replace H := Option.bind_eq_some_iff.mp H
          obtain ⟨t106, A210, H⟩ := H
          replace H : (if t105.size + t106.size ≤ 9223372036854775807 then ((ostinatoref1_Of.f (IntKind.u64.wrap ((Int.tmod a0 2048))) 11).bind fun t107 => (if 1 + t107.size ≤ 9223372036854775807 then (if ((⟨#[48]⟩ : ByteArray) ++ t107).size + t104.size ≤ 9223372036854775807 then (if (((⟨#[48]⟩ : ByteArray) ++ t107) ++ t104).size + 2 ≤ 9223372036854775807 then (if ((((⟨#[48]⟩ : ByteArray) ++ t107) ++ t104) ++ (⟨#[48, 48]⟩ : ByteArray)).size + (t105 ++ t106).size ≤ 9223372036854775807 then ((ostinatoref1_Of.f (IntKind.u64.wrap ((Int.tmod a0 536870912))) 29).bind fun t108 => (if 0 ≤ 11 then (if 11 ≤ (t108.size : Int) then (if 1 + (t108.extract 0 11).size ≤ 9223372036854775807 then (if ((⟨#[48]⟩ : ByteArray) ++ (t108.extract 0 11)).size + 2 ≤ 9223372036854775807 then (if (((⟨#[48]⟩ : ByteArray) ++ (t108.extract 0 11)) ++ (⟨#[49, 49]⟩ : ByteArray)).size + (t108.extract 11 t108.size).size ≤ 9223372036854775807 then (if ((((⟨#[48]⟩ : ByteArray) ++ (t108.extract 0 11)) ++ (⟨#[49, 49]⟩ : ByteArray)) ++ (t108.extract 11 t108.size)).size + t104.size ≤ 9223372036854775807 then (if (((((⟨#[48]⟩ : ByteArray) ++ (t108.extract 0 11)) ++ (⟨#[49, 49]⟩ : ByteArray)) ++ (t108.extract 11 t108.size)) ++ t104).size + 2 ≤ 9223372036854775807 then (if ((((((⟨#[48]⟩ : ByteArray) ++ (t108.extract 0 11)) ++ (⟨#[49, 49]⟩ : ByteArray)) ++ (t108.extract 11 t108.size)) ++ t104) ++ (⟨#[48, 48]⟩ : ByteArray)).size + (t105 ++ t106).size ≤ 9223372036854775807 then ((frame_Body.f false (Int.tmod a0 2048) a1 x103003_7).bind fun t109 => (if t109.toList = (((((⟨#[48]⟩ : ByteArray) ++ t107) ++ t104) ++ (⟨#[48, 48]⟩ : ByteArray)) ++ (t105 ++ t106)).toList then ((frame_Body.f true (Int.tmod a0 536870912) a1 x104003_7).bind fun t110 => (if t110.toList = (((((((⟨#[48]⟩ : ByteArray) ++ (t108.extract 0 11)) ++ (⟨#[49, 49]⟩ : ByteArray)) ++ (t108.extract 11 t108.size)) ++ t104) ++ (⟨#[48, 48]⟩ : ByteArray)) ++ (t105 ++ t106)).toList then ((frame_Arb.f false (Int.tmod a0 2048) a1 x103003_7).bind fun t111 => (if (t111.size : Int) = 14 then ((frame_Arb.f true (Int.tmod a0 536870912) a1 x104003_7).bind fun t112 => (some ((t112.size : Int) == 33))) else (some false))) else (some false))) else (some false))) else (none)) else (none)) else (none)) else (none)) else (none)) else (none)) else (none)) else (none))) else (none)) else (none)) else (none)) else (none))) else (none)) = some r := H
          have A21 := Aside0.mk A210
          clear A210
          by_cases c22 : t105.size + t106.size ≤ 9223372036854775807
          · rw [if_pos c22] at H
            have c22b0 := eq_true c22
            have c22b1 : decide (t105.size + t106.size ≤ 9223372036854775807) = true := decide_eq_true c22
            try have c22b2 : (9223372036854775807 < t105.size + t106.size) = False := eq_false (Nat.not_lt.2 c22)
            replace H := Option.bind_eq_some_iff.mp H
            obtain ⟨t107, A230, H⟩ := H
            replace H : (if 1 + t107.size ≤ 9223372036854775807 then (if ((⟨#[48]⟩ : ByteArray) ++ t107).size + t104.size ≤ 9223372036854775807 then (if (((⟨#[48]⟩ : ByteArray) ++ t107) ++ t104).size + 2 ≤ 9223372036854775807 then (if ((((⟨#[48]⟩ : ByteArray) ++ t107) ++ t104) ++ (⟨#[48, 48]⟩ : ByteArray)).size + (t105 ++ t106).size ≤ 9223372036854775807 then ((ostinatoref1_Of.f (IntKind.u64.wrap ((Int.tmod a0 536870912))) 29).bind fun t108 => (if 0 ≤ 11 then (if 11 ≤ (t108.size : Int) then (if 1 + (t108.extract 0 11).size ≤ 9223372036854775807 then (if ((⟨#[48]⟩ : ByteArray) ++ (t108.extract 0 11)).size + 2 ≤ 9223372036854775807 then (if (((⟨#[48]⟩ : ByteArray) ++ (t108.extract 0 11)) ++ (⟨#[49, 49]⟩ : ByteArray)).size + (t108.extract 11 t108.size).size ≤ 9223372036854775807 then (if ((((⟨#[48]⟩ : ByteArray) ++ (t108.extract 0 11)) ++ (⟨#[49, 49]⟩ : ByteArray)) ++ (t108.extract 11 t108.size)).size + t104.size ≤ 9223372036854775807 then (if (((((⟨#[48]⟩ : ByteArray) ++ (t108.extract 0 11)) ++ (⟨#[49, 49]⟩ : ByteArray)) ++ (t108.extract 11 t108.size)) ++ t104).size + 2 ≤ 9223372036854775807 then (if ((((((⟨#[48]⟩ : ByteArray) ++ (t108.extract 0 11)) ++ (⟨#[49, 49]⟩ : ByteArray)) ++ (t108.extract 11 t108.size)) ++ t104) ++ (⟨#[48, 48]⟩ : ByteArray)).size + (t105 ++ t106).size ≤ 9223372036854775807 then ((frame_Body.f false (Int.tmod a0 2048) a1 x103003_7).bind fun t109 => (if t109.toList = (((((⟨#[48]⟩ : ByteArray) ++ t107) ++ t104) ++ (⟨#[48, 48]⟩ : ByteArray)) ++ (t105 ++ t106)).toList then ((frame_Body.f true (Int.tmod a0 536870912) a1 x104003_7).bind fun t110 => (if t110.toList = (((((((⟨#[48]⟩ : ByteArray) ++ (t108.extract 0 11)) ++ (⟨#[49, 49]⟩ : ByteArray)) ++ (t108.extract 11 t108.size)) ++ t104) ++ (⟨#[48, 48]⟩ : ByteArray)) ++ (t105 ++ t106)).toList then ((frame_Arb.f false (Int.tmod a0 2048) a1 x103003_7).bind fun t111 => (if (t111.size : Int) = 14 then ((frame_Arb.f true (Int.tmod a0 536870912) a1 x104003_7).bind fun t112 => (some ((t112.size : Int) == 33))) else (some false))) else (some false))) else (some false))) else (none)) else (none)) else (none)) else (none)) else (none)) else (none)) else (none)) else (none))) else (none)) else (none)) else (none)) else (none)) = some r := H
            have A23 := Aside0.mk A230
            clear A230
            by_cases c24 : 1 + t107.size ≤ 9223372036854775807
            · rw [if_pos c24] at H
              have c24b0 := eq_true c24
              have c24b1 : decide (1 + t107.size ≤ 9223372036854775807) = true := decide_eq_true c24
              try have c24b2 : (9223372036854775807 < 1 + t107.size) = False := eq_false (Nat.not_lt.2 c24)
              by_cases c25 : ((⟨#[48]⟩ : ByteArray) ++ t107).size + t104.size ≤ 9223372036854775807
              · rw [if_pos c25] at H
                have c25b0 := eq_true c25
                have c25s0 := c25
                (try simp only [ByteArray.size_append, sz1, sz2] at c25s0)
                have c25s1 := eq_false (Nat.not_lt.2 c25s0)
                have c25s2 := c25s1
                (try simp only [Nat.add_assoc, Nat.reduceAdd] at c25s2)
                have c25b1 : decide (((⟨#[48]⟩ : ByteArray) ++ t107).size + t104.size ≤ 9223372036854775807) = true := decide_eq_true c25
                try have c25b2 : (9223372036854775807 < ((⟨#[48]⟩ : ByteArray) ++ t107).size + t104.size) = False := eq_false (Nat.not_lt.2 c25)
                by_cases c26 : (((⟨#[48]⟩ : ByteArray) ++ t107) ++ t104).size + 2 ≤ 9223372036854775807
                · rw [if_pos c26] at H
                  have c26b0 := eq_true c26
                  have c26s0 := c26
                  (try simp only [ByteArray.size_append, sz1, sz2] at c26s0)
                  have c26s1 := eq_false (Nat.not_lt.2 c26s0)
                  have c26s2 := c26s1
                  (try simp only [Nat.add_assoc, Nat.reduceAdd] at c26s2)
                  have c26b1 : decide ((((⟨#[48]⟩ : ByteArray) ++ t107) ++ t104).size + 2 ≤ 9223372036854775807) = true := decide_eq_true c26
                  try have c26b2 : (9223372036854775807 < (((⟨#[48]⟩ : ByteArray) ++ t107) ++ t104).size + 2) = False := eq_false (Nat.not_lt.2 c26)
                  by_cases c27 : ((((⟨#[48]⟩ : ByteArray) ++ t107) ++ t104) ++ (⟨#[48, 48]⟩ : ByteArray)).size + (t105 ++ t106).size ≤ 9223372036854775807
                  · rw [if_pos c27] at H
                    have c27b0 := eq_true c27
                    have c27s0 := c27
                    (try simp only [ByteArray.size_append, sz1, sz2] at c27s0)
                    have c27s1 := eq_false (Nat.not_lt.2 c27s0)
                    have c27s2 := c27s1
                    (try simp only [Nat.add_assoc, Nat.reduceAdd] at c27s2)
                    have c27b1 : decide (((((⟨#[48]⟩ : ByteArray) ++ t107) ++ t104) ++ (⟨#[48, 48]⟩ : ByteArray)).size + (t105 ++ t106).size ≤ 9223372036854775807) = true := decide_eq_true c27
                    try have c27b2 : (9223372036854775807 < ((((⟨#[48]⟩ : ByteArray) ++ t107) ++ t104) ++ (⟨#[48, 48]⟩ : ByteArray)).size + (t105 ++ t106).size) = False := eq_false (Nat.not_lt.2 c27)
                    replace H := Option.bind_eq_some_iff.mp H
                    obtain ⟨t108, A280, H⟩ := H
                    replace H : (if 0 ≤ 11 then (if 11 ≤ (t108.size : Int) then (if 1 + (t108.extract 0 11).size ≤ 9223372036854775807 then (if ((⟨#[48]⟩ : ByteArray) ++ (t108.extract 0 11)).size + 2 ≤ 9223372036854775807 then (if (((⟨#[48]⟩ : ByteArray) ++ (t108.extract 0 11)) ++ (⟨#[49, 49]⟩ : ByteArray)).size + (t108.extract 11 t108.size).size ≤ 9223372036854775807 then (if ((((⟨#[48]⟩ : ByteArray) ++ (t108.extract 0 11)) ++ (⟨#[49, 49]⟩ : ByteArray)) ++ (t108.extract 11 t108.size)).size + t104.size ≤ 9223372036854775807 then (if (((((⟨#[48]⟩ : ByteArray) ++ (t108.extract 0 11)) ++ (⟨#[49, 49]⟩ : ByteArray)) ++ (t108.extract 11 t108.size)) ++ t104).size + 2 ≤ 9223372036854775807 then (if ((((((⟨#[48]⟩ : ByteArray) ++ (t108.extract 0 11)) ++ (⟨#[49, 49]⟩ : ByteArray)) ++ (t108.extract 11 t108.size)) ++ t104) ++ (⟨#[48, 48]⟩ : ByteArray)).size + (t105 ++ t106).size ≤ 9223372036854775807 then ((frame_Body.f false (Int.tmod a0 2048) a1 x103003_7).bind fun t109 => (if t109.toList = (((((⟨#[48]⟩ : ByteArray) ++ t107) ++ t104) ++ (⟨#[48, 48]⟩ : ByteArray)) ++ (t105 ++ t106)).toList then ((frame_Body.f true (Int.tmod a0 536870912) a1 x104003_7).bind fun t110 => (if t110.toList = (((((((⟨#[48]⟩ : ByteArray) ++ (t108.extract 0 11)) ++ (⟨#[49, 49]⟩ : ByteArray)) ++ (t108.extract 11 t108.size)) ++ t104) ++ (⟨#[48, 48]⟩ : ByteArray)) ++ (t105 ++ t106)).toList then ((frame_Arb.f false (Int.tmod a0 2048) a1 x103003_7).bind fun t111 => (if (t111.size : Int) = 14 then ((frame_Arb.f true (Int.tmod a0 536870912) a1 x104003_7).bind fun t112 => (some ((t112.size : Int) == 33))) else (some false))) else (some false))) else (some false))) else (none)) else (none)) else (none)) else (none)) else (none)) else (none)) else (none)) else (none)) = some r := H
                    have A28 := Aside0.mk A280
                    clear A280
                    by_cases c29 : 0 ≤ 11
                    · rw [if_pos c29] at H
                      have c29b0 := eq_true c29
                      have c29b1 : decide (0 ≤ 11) = true := decide_eq_true c29
                      clear c29
                      by_cases c30 : 11 ≤ (t108.size : Int)
                      · rw [if_pos c30] at H
                        have c30b0 := eq_true c30
                        have c30b1 : decide (11 ≤ (t108.size : Int)) = true := decide_eq_true c30
                        clear c30
                        by_cases c31 : 1 + (t108.extract 0 11).size ≤ 9223372036854775807
                        · rw [if_pos c31] at H
                          have c31b0 := eq_true c31
                          have c31s0 := c31
                          (try simp only [ByteArray.size_append, sz1, sz2] at c31s0)
                          have c31e0 := c31s0
                          (try simp only [ByteArray.size_extract, Nat.sub_zero, Nat.min_self] at c31e0)
                          have c31e1 := eq_false (Nat.not_lt.2 c31e0)
                          have c31b1 : decide (1 + (t108.extract 0 11).size ≤ 9223372036854775807) = true := decide_eq_true c31
                          try have c31b2 : (9223372036854775807 < 1 + (t108.extract 0 11).size) = False := eq_false (Nat.not_lt.2 c31)
                          by_cases c32 : ((⟨#[48]⟩ : ByteArray) ++ (t108.extract 0 11)).size + 2 ≤ 9223372036854775807
                          · rw [if_pos c32] at H
                            have c32b0 := eq_true c32
                            have c32s0 := c32
                            (try simp only [ByteArray.size_append, sz1, sz2] at c32s0)
                            have c32e0 := c32s0
                            (try simp only [ByteArray.size_extract, Nat.sub_zero, Nat.min_self] at c32e0)
                            have c32e1 := eq_false (Nat.not_lt.2 c32e0)
                            have c32s1 := eq_false (Nat.not_lt.2 c32s0)
                            have c32s2 := c32s1
                            (try simp only [Nat.add_assoc, Nat.reduceAdd] at c32s2)
                            have c32b1 : decide (((⟨#[48]⟩ : ByteArray) ++ (t108.extract 0 11)).size + 2 ≤ 9223372036854775807) = true := decide_eq_true c32
                            try have c32b2 : (9223372036854775807 < ((⟨#[48]⟩ : ByteArray) ++ (t108.extract 0 11)).size + 2) = False := eq_false (Nat.not_lt.2 c32)
                            have c33b0 := eq_true (of_decide_eq_true (by first | (with_reducible assumption) | assumption) : 11 ≤ (t108.size : Int))
                            by_cases c34 : (((⟨#[48]⟩ : ByteArray) ++ (t108.extract 0 11)) ++ (⟨#[49, 49]⟩ : ByteArray)).size + (t108.extract 11 t108.size).size ≤ 9223372036854775807
                            · rw [if_pos c34] at H
                              have c34b0 := eq_true c34
                              have c34s0 := c34
                              (try simp only [ByteArray.size_append, sz1, sz2] at c34s0)
                              have c34e0 := c34s0
                              (try simp only [ByteArray.size_extract, Nat.sub_zero, Nat.min_self] at c34e0)
                              have c34e1 := eq_false (Nat.not_lt.2 c34e0)
                              have c34s1 := eq_false (Nat.not_lt.2 c34s0)
                              have c34s2 := c34s1
                              (try simp only [Nat.add_assoc, Nat.reduceAdd] at c34s2)
                              have c34b1 : decide ((((⟨#[48]⟩ : ByteArray) ++ (t108.extract 0 11)) ++ (⟨#[49, 49]⟩ : ByteArray)).size + (t108.extract 11 t108.size).size ≤ 9223372036854775807) = true := decide_eq_true c34
                              try have c34b2 : (9223372036854775807 < (((⟨#[48]⟩ : ByteArray) ++ (t108.extract 0 11)) ++ (⟨#[49, 49]⟩ : ByteArray)).size + (t108.extract 11 t108.size).size) = False := eq_false (Nat.not_lt.2 c34)
                              by_cases c35 : ((((⟨#[48]⟩ : ByteArray) ++ (t108.extract 0 11)) ++ (⟨#[49, 49]⟩ : ByteArray)) ++ (t108.extract 11 t108.size)).size + t104.size ≤ 9223372036854775807
                              · rw [if_pos c35] at H
                                have c35b0 := eq_true c35
                                have c35s0 := c35
                                (try simp only [ByteArray.size_append, sz1, sz2] at c35s0)
                                have c35e0 := c35s0
                                (try simp only [ByteArray.size_extract, Nat.sub_zero, Nat.min_self] at c35e0)
                                have c35e1 := eq_false (Nat.not_lt.2 c35e0)
                                have c35s1 := eq_false (Nat.not_lt.2 c35s0)
                                have c35s2 := c35s1
                                (try simp only [Nat.add_assoc, Nat.reduceAdd] at c35s2)
                                have c35b1 : decide (((((⟨#[48]⟩ : ByteArray) ++ (t108.extract 0 11)) ++ (⟨#[49, 49]⟩ : ByteArray)) ++ (t108.extract 11 t108.size)).size + t104.size ≤ 9223372036854775807) = true := decide_eq_true c35
                                try have c35b2 : (9223372036854775807 < ((((⟨#[48]⟩ : ByteArray) ++ (t108.extract 0 11)) ++ (⟨#[49, 49]⟩ : ByteArray)) ++ (t108.extract 11 t108.size)).size + t104.size) = False := eq_false (Nat.not_lt.2 c35)
                                by_cases c36 : (((((⟨#[48]⟩ : ByteArray) ++ (t108.extract 0 11)) ++ (⟨#[49, 49]⟩ : ByteArray)) ++ (t108.extract 11 t108.size)) ++ t104).size + 2 ≤ 9223372036854775807
                                · rw [if_pos c36] at H
                                  have c36b0 := eq_true c36
                                  have c36s0 := c36
                                  (try simp only [ByteArray.size_append, sz1, sz2] at c36s0)
                                  have c36e0 := c36s0
                                  (try simp only [ByteArray.size_extract, Nat.sub_zero, Nat.min_self] at c36e0)
                                  have c36e1 := eq_false (Nat.not_lt.2 c36e0)
                                  have c36s1 := eq_false (Nat.not_lt.2 c36s0)
                                  have c36s2 := c36s1
                                  (try simp only [Nat.add_assoc, Nat.reduceAdd] at c36s2)
                                  have c36b1 : decide ((((((⟨#[48]⟩ : ByteArray) ++ (t108.extract 0 11)) ++ (⟨#[49, 49]⟩ : ByteArray)) ++ (t108.extract 11 t108.size)) ++ t104).size + 2 ≤ 9223372036854775807) = true := decide_eq_true c36
                                  try have c36b2 : (9223372036854775807 < (((((⟨#[48]⟩ : ByteArray) ++ (t108.extract 0 11)) ++ (⟨#[49, 49]⟩ : ByteArray)) ++ (t108.extract 11 t108.size)) ++ t104).size + 2) = False := eq_false (Nat.not_lt.2 c36)
                                  by_cases c37 : ((((((⟨#[48]⟩ : ByteArray) ++ (t108.extract 0 11)) ++ (⟨#[49, 49]⟩ : ByteArray)) ++ (t108.extract 11 t108.size)) ++ t104) ++ (⟨#[48, 48]⟩ : ByteArray)).size + (t105 ++ t106).size ≤ 9223372036854775807
                                  · rw [if_pos c37] at H
                                    have c37b0 := eq_true c37
                                    have c37s0 := c37
                                    (try simp only [ByteArray.size_append, sz1, sz2] at c37s0)
                                    have c37e0 := c37s0
                                    (try simp only [ByteArray.size_extract, Nat.sub_zero, Nat.min_self] at c37e0)
                                    have c37e1 := eq_false (Nat.not_lt.2 c37e0)
                                    have c37s1 := eq_false (Nat.not_lt.2 c37s0)
                                    have c37s2 := c37s1
                                    (try simp only [Nat.add_assoc, Nat.reduceAdd] at c37s2)
                                    have c37b1 : decide (((((((⟨#[48]⟩ : ByteArray) ++ (t108.extract 0 11)) ++ (⟨#[49, 49]⟩ : ByteArray)) ++ (t108.extract 11 t108.size)) ++ t104) ++ (⟨#[48, 48]⟩ : ByteArray)).size + (t105 ++ t106).size ≤ 9223372036854775807) = true := decide_eq_true c37
                                    try have c37b2 : (9223372036854775807 < ((((((⟨#[48]⟩ : ByteArray) ++ (t108.extract 0 11)) ++ (⟨#[49, 49]⟩ : ByteArray)) ++ (t108.extract 11 t108.size)) ++ t104) ++ (⟨#[48, 48]⟩ : ByteArray)).size + (t105 ++ t106).size) = False := eq_false (Nat.not_lt.2 c37)
                                    replace H := Option.bind_eq_some_iff.mp H
                                    obtain ⟨t109, A380, H⟩ := H
                                    replace H : (if t109.toList = (((((⟨#[48]⟩ : ByteArray) ++ t107) ++ t104) ++ (⟨#[48, 48]⟩ : ByteArray)) ++ (t105 ++ t106)).toList then ((frame_Body.f true (Int.tmod a0 536870912) a1 x104003_7).bind fun t110 => (if t110.toList = (((((((⟨#[48]⟩ : ByteArray) ++ (t108.extract 0 11)) ++ (⟨#[49, 49]⟩ : ByteArray)) ++ (t108.extract 11 t108.size)) ++ t104) ++ (⟨#[48, 48]⟩ : ByteArray)) ++ (t105 ++ t106)).toList then ((frame_Arb.f false (Int.tmod a0 2048) a1 x103003_7).bind fun t111 => (if (t111.size : Int) = 14 then ((frame_Arb.f true (Int.tmod a0 536870912) a1 x104003_7).bind fun t112 => (some ((t112.size : Int) == 33))) else (some false))) else (some false))) else (some false)) = some r := H
                                    have A38 := Aside0.mk A380
                                    clear A380
                                    by_cases c39 : t109.toList = (((((⟨#[48]⟩ : ByteArray) ++ t107) ++ t104) ++ (⟨#[48, 48]⟩ : ByteArray)) ++ (t105 ++ t106)).toList
                                    · rw [if_pos c39] at H
                                      have c39b0 : (t109.toList == (((((⟨#[48]⟩ : ByteArray) ++ t107) ++ t104) ++ (⟨#[48, 48]⟩ : ByteArray)) ++ (t105 ++ t106)).toList) = true := beq_iff_eq.mpr c39
                                      have c39b1 : (t109.toList != (((((⟨#[48]⟩ : ByteArray) ++ t107) ++ t104) ++ (⟨#[48, 48]⟩ : ByteArray)) ++ (t105 ++ t106)).toList) = false := bne_eq_false_iff_eq.mpr c39
                                      clear c39
                                      replace H := Option.bind_eq_some_iff.mp H
                                      obtain ⟨t110, A400, H⟩ := H
                                      replace H : (if t110.toList = (((((((⟨#[48]⟩ : ByteArray) ++ (t108.extract 0 11)) ++ (⟨#[49, 49]⟩ : ByteArray)) ++ (t108.extract 11 t108.size)) ++ t104) ++ (⟨#[48, 48]⟩ : ByteArray)) ++ (t105 ++ t106)).toList then ((frame_Arb.f false (Int.tmod a0 2048) a1 x103003_7).bind fun t111 => (if (t111.size : Int) = 14 then ((frame_Arb.f true (Int.tmod a0 536870912) a1 x104003_7).bind fun t112 => (some ((t112.size : Int) == 33))) else (some false))) else (some false)) = some r := H
                                      have A40 := Aside0.mk A400
                                      clear A400
                                      by_cases c41 : t110.toList = (((((((⟨#[48]⟩ : ByteArray) ++ (t108.extract 0 11)) ++ (⟨#[49, 49]⟩ : ByteArray)) ++ (t108.extract 11 t108.size)) ++ t104) ++ (⟨#[48, 48]⟩ : ByteArray)) ++ (t105 ++ t106)).toList
                                      · rw [if_pos c41] at H
                                        have c41b0 : (t110.toList == (((((((⟨#[48]⟩ : ByteArray) ++ (t108.extract 0 11)) ++ (⟨#[49, 49]⟩ : ByteArray)) ++ (t108.extract 11 t108.size)) ++ t104) ++ (⟨#[48, 48]⟩ : ByteArray)) ++ (t105 ++ t106)).toList) = true := beq_iff_eq.mpr c41
                                        have c41b1 : (t110.toList != (((((((⟨#[48]⟩ : ByteArray) ++ (t108.extract 0 11)) ++ (⟨#[49, 49]⟩ : ByteArray)) ++ (t108.extract 11 t108.size)) ++ t104) ++ (⟨#[48, 48]⟩ : ByteArray)) ++ (t105 ++ t106)).toList) = false := bne_eq_false_iff_eq.mpr c41
                                        clear c41
                                        replace H := Option.bind_eq_some_iff.mp H
                                        obtain ⟨t111, A420, H⟩ := H
                                        replace H : (if (t111.size : Int) = 14 then ((frame_Arb.f true (Int.tmod a0 536870912) a1 x104003_7).bind fun t112 => (some ((t112.size : Int) == 33))) else (some false)) = some r := H
                                        have A42 := Aside0.mk A420
                                        clear A420
                                        by_cases c43 : (t111.size : Int) = 14
                                        · rw [if_pos c43] at H
                                          have c43b0 : ((t111.size : Int) == 14) = true := beq_iff_eq.mpr c43
                                          have c43b1 : ((t111.size : Int) != 14) = false := bne_eq_false_iff_eq.mpr c43
                                          clear c43
                                          replace H := Option.bind_eq_some_iff.mp H
                                          obtain ⟨t112, A440, H⟩ := H
                                          replace H : (some ((t112.size : Int) == 33)) = some r := H
                                          have A44 := Aside0.mk A440
                                          clear A440
                                          obtain rfl := Option.some.inj H
                                          try go_wp2_with (first | ((with_reducible refine gate_callee (f := 26) rfl ?_); refine goesL_ (some 33) rfl rfl Try.func26 (by kernel_rfl) rfl #[.bool a1] rfl (by (try simp only [List.map_toArray, List.map_cons, List.map_nil]); first | done | rfl | (simp only [List.length_drop, List.length_take]; rfl)) ?_; (with_reducible refine (ostinatoref1_Bit.calls a1 t104 _ A19.out).mono ?_); rintro e w' ⟨rfl, ⟨nd, rfl⟩⟩; refine ⟨_, rfl, ?_⟩))
                                          (try (rw [drewN_self wc]; generalize hq_ : World.drewN wc _ = wc; have n0_ : Aside0 (wc.heap[gb102]? = some (.cells #[.bool false, .int .u32 (Int.tmod a0 2048), .bool a1, .string x103003_7] 24 (0, 0))) := ⟨by rw [← hq_]; exact (by (with_reducible repeat (first | refine blk_drewN ?_ _ | refine blk_drew ?_ | refine blk_alloc ?_ _)); exact BK102.out)⟩; have n1_ : Aside0 (wc.heap[gb103]? = some (.cells #[.bool true, .int .u32 (Int.tmod a0 536870912), .bool a1, .string x104003_7] 24 (0, 0))) := ⟨by rw [← hq_]; exact (by (with_reducible repeat (first | refine blk_drewN ?_ _ | refine blk_drew ?_ | refine blk_alloc ?_ _)); exact BK103.out)⟩; have n2_ : Aside0 (Below w.heap.size w wc) := ⟨by rw [← hq_]; exact (by repeat (first | (with_reducible first | exact HB.out | apply below_alloc | apply pw_below_drewN | apply below_drew1 | refine below_set ?_ GE102.out | refine below_set ?_ GE103.out) | exact HB.out))⟩; clear BK102 BK103 HB hq_; have BK102 := n0_; have BK103 := n1_; have HB := n2_; clear n0_ n1_ n2_))
                                          have n0_ := Aside0.mk (blk_drew BK102.out)
                                          have n1_ := Aside0.mk (blk_drew BK103.out)
                                          have n2_ := Aside0.mk (below_drew1 HB.out)
                                          clear BK102
                                          clear BK103
                                          clear HB
                                          have BK102 := n0_
                                          have BK103 := n1_
                                          have HB := n2_
                                          clear n0_ n1_ n2_
                                          refine start_ (n := 10) (S := fun w' => w'.cell? ⟨gb102, 0, none⟩ = some (.bool false) ∧ w'.cell? ⟨gb102, 1, none⟩ = some (.int .u32 (Int.tmod a0 2048)) ∧ w'.cell? ⟨gb102, 2, none⟩ = some (.bool a1) ∧ w'.cell? ⟨gb102, 3, none⟩ = some (.string x103003_7)) (ds := []) #[false, false, false, false, false, false, false, false, false, false] (by kernel_rfl) rfl rfl ⟨(blk_cell BK102.out 0).trans rfl, (blk_cell BK102.out 1).trans rfl, (blk_cell BK102.out 2).trans rfl, (blk_cell BK102.out 3).trans rfl⟩ (fun hHeld => ?_); refine with_tabW ostinatolaw3_FrameFields.tab10 ostinatolaw3_FrameFields.bits10 (fun HT_ HW_ => ?_)
                                          generalize wc.drew = w45 at BK102 BK103 HB hHeld ⊢
                                          refine pure_ (i := 0) (N := some 34) (v := ?_) (a' := ?_) #[true, false, false, false, false, false, false, false, false, false] rfl rfl (any_of HT_.out (by kernel_rfl)) (fun _ _ _ h => h) (Or.inl ⟨by rfl, ?_⟩) ?_ ?_
                                          rotate_left
                                          · intro w'
                                            go_simp
                                            with_reducible rfl
                                          rotate_left
                                          · simp only [Act.put, List.setIfInBounds_toArray, List.set_cons_zero, List.set_cons_succ, i64_w, i32_w]
                                            rfl
                                          refine pure_ (i := 5) (N := some 39) (v := ?_) (a' := ?_) #[true, false, false, false, false, true, false, false, false, false] rfl rfl (any_of HT_.out (by kernel_rfl)) (fun _ _ _ h => h) (Or.inl ⟨by rfl, ?_⟩) ?_ ?_
                                          rotate_left
                                          · intro w'
                                            go_simp
                                            with_reducible rfl
                                          rotate_left
                                          · simp only [Act.put, List.setIfInBounds_toArray, List.set_cons_zero, List.set_cons_succ, i64_w, i32_w]
                                            rfl
                                          refine take_ (i := 1) (N := some 35) (v := ?_) (a' := ?_) #[true, true, false, false, false, true, false, false, false, false] rfl rfl (take_ofW HT_.out HW_.out (by kernel_rfl)) (fun _ _ _ h => h) (Or.inl ⟨by rfl, ?_⟩) hHeld ?_ ?_
                                          rotate_left
                                          · rintro w' ⟨s0, s1, s2, s3⟩
                                            go_simp
                                            with_reducible rfl
                                          rotate_left
                                          · simp only [Act.put, List.setIfInBounds_toArray, List.set_cons_zero, List.set_cons_succ, i64_w, i32_w]
                                            rfl
                                          refine pure_ (i := 2) (N := some 36) (v := ?_) (a' := ?_) #[true, true, true, false, false, true, false, false, false, false] rfl rfl (any_of HT_.out (by kernel_rfl)) (fun _ _ _ h => h) (Or.inl ⟨by rfl, ?_⟩) ?_ ?_
                                          rotate_left
                                          · intro w'
                                            go_simp
                                            with_reducible rfl
                                          rotate_left
                                          · simp only [Act.put, List.setIfInBounds_toArray, List.set_cons_zero, List.set_cons_succ, i64_w, i32_w]
                                            rfl
                                          refine pure_ (i := 3) (N := some 37) (v := ?_) (a' := ?_) #[true, true, true, true, false, true, false, false, false, false] rfl rfl (any_of HT_.out (by kernel_rfl)) (fun _ _ _ h => h) (Or.inl ⟨by rfl, ?_⟩) ?_ ?_
                                          rotate_left
                                          · intro w'
                                            go_simp
                                            with_reducible rfl
                                          rotate_left
                                          · simp only [Act.put, List.setIfInBounds_toArray, List.set_cons_zero, List.set_cons_succ, i64_w, i32_w]
                                            rfl
                                          refine take_ (i := 6) (N := some 40) (v := ?_) (a' := ?_) #[true, true, true, true, false, true, true, false, false, false] rfl rfl (take_ofW HT_.out HW_.out (by kernel_rfl)) (fun _ _ _ h => h) (Or.inl ⟨by rfl, ?_⟩) hHeld ?_ ?_
                                          rotate_left
                                          · rintro w' ⟨s0, s1, s2, s3⟩
                                            go_simp
                                            with_reducible rfl
                                          rotate_left
                                          · simp only [Act.put, List.setIfInBounds_toArray, List.set_cons_zero, List.set_cons_succ, i64_w, i32_w]
                                            rfl
                                          refine one_ (i := 4) (N := some 38) #[true, true, true, true, true, true, true, false, false, false] rfl rfl (one_of HT_.out (by kernel_rfl)) (by decide) (fun K hK => ?_)
                                          refine goes_ Try.func27 (by kernel_rfl) rfl #[.int .u64 (IntKind.u64.wrap ((x103003_7.size : Int))), .int .i64 4] (by rfl) rfl rfl (by (try simp only [List.map_toArray, List.map_cons, List.map_nil]); first | done | rfl | (simp only [List.length_drop, List.length_take]; rfl)) ?_
                                          with_reducible refine (ostinatoref1_Of.calls (IntKind.u64.wrap ((x103003_7.size : Int))) 4 t105 _ A20.out).mono ?_
                                          rintro e w46 ⟨rfl, hb⟩
                                          refine ⟨_, rfl, ?_⟩
                                          have n0_ := Aside0.mk (blk_below (g := gb102) (o := .cells #[.bool false, .int .u32 (Int.tmod a0 2048), .bool a1, .string x103003_7] 24 (0, 0)) (by (with_reducible repeat (first | refine blk_drewN ?_ _ | refine blk_drew ?_ | refine blk_alloc ?_ _)); exact BK102.out) hb)
                                          have n1_ := Aside0.mk (blk_below (g := gb103) (o := .cells #[.bool true, .int .u32 (Int.tmod a0 536870912), .bool a1, .string x104003_7] 24 (0, 0)) (by (with_reducible repeat (first | refine blk_drewN ?_ _ | refine blk_drew ?_ | refine blk_alloc ?_ _)); exact BK103.out) hb)
                                          have n2_ := Aside0.mk (below_step (by repeat (first | (with_reducible first | exact HB.out | apply below_alloc | apply pw_below_drewN | apply below_drew1 | refine below_set ?_ GE102.out | refine below_set ?_ GE103.out) | exact HB.out)) hb)
                                          clear BK102
                                          clear BK103
                                          clear HB
                                          have BK102 := n0_
                                          have BK103 := n1_
                                          have HB := n2_
                                          clear n0_ n1_ n2_
                                          (try clear hb)
                                          (try clear hb2)
                                          (try clear hk)
                                          (try clear hi)
                                          refine hK.out _ _ ⟨(blk_cell BK102.out 0).trans rfl, (blk_cell BK102.out 1).trans rfl, (blk_cell BK102.out 2).trans rfl, (blk_cell BK102.out 3).trans rfl⟩ (fun hHeld => ?_)
                                          clear hK K
                                          refine norm_ (a' := ?_) ?_ ?_
                                          rotate_left
                                          · show Act.put _ (some 38) _ = _
                                            simp only [Act.put, List.setIfInBounds_toArray, List.set_cons_zero, List.set_cons_succ, i64_w, i32_w]
                                            rfl
                                          refine one_ (i := 7) (N := some 41) #[true, true, true, true, true, true, true, true, false, false] rfl rfl (one_of HT_.out (by kernel_rfl)) (by decide) (fun K hK => ?_)
                                          refine goes_ Try.func28 (by kernel_rfl) rfl #[.string x103003_7] (by rfl) rfl rfl (by (try simp only [List.map_toArray, List.map_cons, List.map_nil]); first | done | rfl | (simp only [List.length_drop, List.length_take]; rfl)) ?_
                                          with_reducible refine (ostinatoref1_FromBytes.calls x103003_7 t106 _ A21.out).mono ?_
                                          rintro e w47 ⟨rfl, hb⟩
                                          refine ⟨_, rfl, ?_⟩
                                          have n0_ := Aside0.mk (blk_below (g := gb102) (o := .cells #[.bool false, .int .u32 (Int.tmod a0 2048), .bool a1, .string x103003_7] 24 (0, 0)) (by (with_reducible repeat (first | refine blk_drewN ?_ _ | refine blk_drew ?_ | refine blk_alloc ?_ _)); exact BK102.out) hb)
                                          have n1_ := Aside0.mk (blk_below (g := gb103) (o := .cells #[.bool true, .int .u32 (Int.tmod a0 536870912), .bool a1, .string x104003_7] 24 (0, 0)) (by (with_reducible repeat (first | refine blk_drewN ?_ _ | refine blk_drew ?_ | refine blk_alloc ?_ _)); exact BK103.out) hb)
                                          have n2_ := Aside0.mk (below_step (by repeat (first | (with_reducible first | exact HB.out | apply below_alloc | apply pw_below_drewN | apply below_drew1 | refine below_set ?_ GE102.out | refine below_set ?_ GE103.out) | exact HB.out)) hb)
                                          clear BK102
                                          clear BK103
                                          clear HB
                                          have BK102 := n0_
                                          have BK103 := n1_
                                          have HB := n2_
                                          clear n0_ n1_ n2_
                                          (try clear hb)
                                          (try clear hb2)
                                          (try clear hk)
                                          (try clear hi)
                                          refine hK.out _ _ ⟨(blk_cell BK102.out 0).trans rfl, (blk_cell BK102.out 1).trans rfl, (blk_cell BK102.out 2).trans rfl, (blk_cell BK102.out 3).trans rfl⟩ (fun hHeld => ?_)
                                          clear hK K
                                          refine norm_ (a' := ?_) ?_ ?_
                                          rotate_left
                                          · show Act.put _ (some 41) _ = _
                                            simp only [Act.put, List.setIfInBounds_toArray, List.set_cons_zero, List.set_cons_succ, i64_w, i32_w]
                                            rfl
                                          refine pure_ (i := 8) (N := some 42) (v := ?_) (a' := ?_) #[true, true, true, true, true, true, true, true, true, false] rfl rfl (any_of HT_.out (by kernel_rfl)) (fun _ _ _ h => h) (Or.inl ⟨by rfl, ?_⟩) ?_ ?_
                                          rotate_left
                                          · intro w'
                                            go_simp
                                            with_reducible rfl
                                          rotate_left
                                          · simp only [Act.put, List.setIfInBounds_toArray, List.set_cons_zero, List.set_cons_succ, i64_w, i32_w]
                                            rfl
                                          refine pure_ (i := 9) (N := some 10) (v := ?_) (a' := ?_) #[true, true, true, true, true, true, true, true, true, true] rfl rfl (any_of HT_.out (by kernel_rfl)) (fun _ _ _ h => h) (Or.inl ⟨by rfl, ?_⟩) ?_ ?_
                                          rotate_left
                                          · intro w'
                                            go_simp
                                            with_reducible rfl
                                          rotate_left
                                          · simp only [Act.put, List.setIfInBounds_toArray, List.set_cons_zero, List.set_cons_succ, i64_w, i32_w]
                                            rfl
                                          refine done_ (done_of HT_.out (by kernel_rfl)) ?_
                                          have hnb48 := NB102_103.out
                                          have hnc48 := NB103_102.out
                                          have hcz49_0 : w47.cell? ⟨gb102, 0, none⟩ = some (.bool false) := (blk_cell BK102.out 0).trans rfl
                                          have hcz49_1 : w47.cell? ⟨gb102, 1, none⟩ = some (.int .u32 (Int.tmod a0 2048)) := (blk_cell BK102.out 1).trans rfl
                                          have hcz49_2 : w47.cell? ⟨gb102, 2, none⟩ = some (.bool a1) := (blk_cell BK102.out 2).trans rfl
                                          have hcz49_3 : w47.cell? ⟨gb102, 3, none⟩ = some (.string x103003_7) := (blk_cell BK102.out 3).trans rfl
                                          have hfz49_0 := blk_frozen BK102.out 0
                                          have hfz49_1 := blk_frozen BK102.out 1
                                          have hfz49_2 := blk_frozen BK102.out 2
                                          have hfz49_3 := blk_frozen BK102.out 3
                                          try go_wp2_with (first | ((with_reducible refine gate_callee (f := 27) rfl ?_); refine goesL_ (some 46) rfl rfl Try.func27 (by kernel_rfl) rfl #[.int .u64 (IntKind.u64.wrap ((Int.tmod a0 2048))), .int .i64 11] rfl (by (try simp only [List.map_toArray, List.map_cons, List.map_nil]); first | done | rfl | (simp only [List.length_drop, List.length_take]; rfl)) ?_; (with_reducible refine (ostinatoref1_Of.calls (IntKind.u64.wrap ((Int.tmod a0 2048))) 11 t107 _ A23.out).mono ?_); rintro e w50 ⟨rfl, hb⟩; refine ⟨_, rfl, ?_⟩; have n0_ := Aside0.mk (blk_below (g := gb102) (o := .cells #[.bool false, .int .u32 (Int.tmod a0 2048), .bool a1, .string x103003_7] 24 (0, 0)) (by (with_reducible repeat (first | refine blk_drewN ?_ _ | refine blk_drew ?_ | refine blk_alloc ?_ _)); exact BK102.out) hb); have n1_ := Aside0.mk (blk_below (g := gb103) (o := .cells #[.bool true, .int .u32 (Int.tmod a0 536870912), .bool a1, .string x104003_7] 24 (0, 0)) (by (with_reducible repeat (first | refine blk_drewN ?_ _ | refine blk_drew ?_ | refine blk_alloc ?_ _)); exact BK103.out) hb); have n2_ := Aside0.mk (below_step (by repeat (first | (with_reducible first | exact HB.out | apply below_alloc | apply pw_below_drewN | apply below_drew1 | refine below_set ?_ GE102.out | refine below_set ?_ GE103.out) | exact HB.out)) hb); clear BK102; clear BK103; clear HB; have BK102 := n0_; have BK103 := n1_; have HB := n2_; clear n0_ n1_ n2_; (try clear hb); (try clear hb2); (try clear hk); (try clear hi); have hcz51_0 : w50.cell? ⟨gb103, 0, none⟩ = some (.bool true) := (blk_cell BK103.out 0).trans rfl; have hcz51_1 : w50.cell? ⟨gb103, 1, none⟩ = some (.int .u32 (Int.tmod a0 536870912)) := (blk_cell BK103.out 1).trans rfl; have hcz51_2 : w50.cell? ⟨gb103, 2, none⟩ = some (.bool a1) := (blk_cell BK103.out 2).trans rfl; have hcz51_3 : w50.cell? ⟨gb103, 3, none⟩ = some (.string x104003_7) := (blk_cell BK103.out 3).trans rfl; have hfz51_0 := blk_frozen BK103.out 0; have hfz51_1 := blk_frozen BK103.out 1; have hfz51_2 := blk_frozen BK103.out 2; have hfz51_3 := blk_frozen BK103.out 3) | ((with_reducible refine gate_callee (f := 27) rfl ?_); refine goesL_ (some 56) rfl rfl Try.func27 (by kernel_rfl) rfl #[.int .u64 (IntKind.u64.wrap ((Int.tmod a0 536870912))), .int .i64 29] rfl (by (try simp only [List.map_toArray, List.map_cons, List.map_nil]); first | done | rfl | (simp only [List.length_drop, List.length_take]; rfl)) ?_; (with_reducible refine (ostinatoref1_Of.calls (IntKind.u64.wrap ((Int.tmod a0 536870912))) 29 t108 _ A28.out).mono ?_); rintro e w52 ⟨rfl, hb⟩; refine ⟨_, rfl, ?_⟩; have n0_ := Aside0.mk (blk_below (g := gb102) (o := .cells #[.bool false, .int .u32 (Int.tmod a0 2048), .bool a1, .string x103003_7] 24 (0, 0)) (by (with_reducible repeat (first | refine blk_drewN ?_ _ | refine blk_drew ?_ | refine blk_alloc ?_ _)); exact BK102.out) hb); have n1_ := Aside0.mk (blk_below (g := gb103) (o := .cells #[.bool true, .int .u32 (Int.tmod a0 536870912), .bool a1, .string x104003_7] 24 (0, 0)) (by (with_reducible repeat (first | refine blk_drewN ?_ _ | refine blk_drew ?_ | refine blk_alloc ?_ _)); exact BK103.out) hb); have n2_ := Aside0.mk (below_step (by repeat (first | (with_reducible first | exact HB.out | apply below_alloc | apply pw_below_drewN | apply below_drew1 | refine below_set ?_ GE102.out | refine below_set ?_ GE103.out) | exact HB.out)) hb); clear BK102; clear BK103; clear HB; have BK102 := n0_; have BK103 := n1_; have HB := n2_; clear n0_ n1_ n2_; (try clear hb); (try clear hb2); (try clear hk); (try clear hi)))
                                          have n0_ := Aside0.mk (blk_drew BK102.out)
                                          have n1_ := Aside0.mk (blk_drew BK103.out)
                                          have n2_ := Aside0.mk (below_drew1 HB.out)
                                          clear BK102
                                          clear BK103
                                          clear HB
                                          have BK102 := n0_
                                          have BK103 := n1_
                                          have HB := n2_
                                          clear n0_ n1_ n2_
                                          refine start_ (n := 13) (S := fun w' => True) (ds := []) #[false, false, false, false, false, false, false, false, false, false, false, false, false] (by kernel_rfl) rfl rfl trivial (fun hHeld => ?_); refine with_tabW ostinatolaw3_FrameFields.tab13 ostinatolaw3_FrameFields.bits13 (fun HT_ HW_ => ?_)
                                          generalize w52.drew = w53 at BK102 BK103 HB hHeld ⊢
                                          refine pure_ (i := 0) (N := some 57) (v := ?_) (a' := ?_) #[true, false, false, false, false, false, false, false, false, false, false, false, false] rfl rfl (any_of HT_.out (by kernel_rfl)) (fun _ _ _ h => h) (Or.inl ⟨by rfl, ?_⟩) ?_ ?_
                                          rotate_left
                                          · intro w'
                                            go_simp
                                            with_reducible rfl
                                          rotate_left
                                          · simp only [Act.put, List.setIfInBounds_toArray, List.set_cons_zero, List.set_cons_succ, i64_w, i32_w]
                                            rfl
                                          refine pure_ (i := 1) (N := some 58) (v := ?_) (a' := ?_) #[true, true, false, false, false, false, false, false, false, false, false, false, false] rfl rfl (any_of HT_.out (by kernel_rfl)) (fun _ _ _ h => h) (Or.inl ⟨by rfl, ?_⟩) ?_ ?_
                                          rotate_left
                                          · intro w'
                                            go_simp
                                            with_reducible rfl
                                          rotate_left
                                          · simp only [Act.put, List.setIfInBounds_toArray, List.set_cons_zero, List.set_cons_succ, i64_w, i32_w]
                                            rfl
                                          refine pure_ (i := 2) (N := some 59) (v := ?_) (a' := ?_) #[true, true, true, false, false, false, false, false, false, false, false, false, false] rfl rfl (any_of HT_.out (by kernel_rfl)) (fun _ _ _ h => h) (Or.inl ⟨by rfl, ?_⟩) ?_ ?_
                                          rotate_left
                                          · intro w'
                                            go_simp
                                            with_reducible rfl
                                          rotate_left
                                          · simp only [Act.put, List.setIfInBounds_toArray, List.set_cons_zero, List.set_cons_succ, i64_w, i32_w]
                                            rfl
                                          refine pure_ (i := 3) (N := some 60) (v := ?_) (a' := ?_) #[true, true, true, true, false, false, false, false, false, false, false, false, false] rfl rfl (any_of HT_.out (by kernel_rfl)) (fun _ _ _ h => h) (Or.inl ⟨by rfl, ?_⟩) ?_ ?_
                                          rotate_left
                                          · intro w'
                                            go_simp
                                            with_reducible rfl
                                          rotate_left
                                          · simp only [Act.put, List.setIfInBounds_toArray, List.set_cons_zero, List.set_cons_succ, i64_w, i32_w]
                                            rfl
                                          refine pure_ (i := 4) (N := some 61) (v := ?_) (a' := ?_) #[true, true, true, true, true, false, false, false, false, false, false, false, false] rfl rfl (any_of HT_.out (by kernel_rfl)) (fun _ _ _ h => h) (Or.inl ⟨by rfl, ?_⟩) ?_ ?_
                                          rotate_left
                                          · intro w'
                                            go_simp
                                            with_reducible rfl
                                          rotate_left
                                          · simp only [Act.put, List.setIfInBounds_toArray, List.set_cons_zero, List.set_cons_succ, i64_w, i32_w]
                                            rfl
                                          refine pure_ (i := 5) (N := some 62) (v := ?_) (a' := ?_) #[true, true, true, true, true, true, false, false, false, false, false, false, false] rfl rfl (any_of HT_.out (by kernel_rfl)) (fun _ _ _ h => h) (Or.inl ⟨by rfl, ?_⟩) ?_ ?_
                                          rotate_left
                                          · intro w'
                                            go_simp
                                            with_reducible rfl
                                          rotate_left
                                          · simp only [Act.put, List.setIfInBounds_toArray, List.set_cons_zero, List.set_cons_succ, i64_w, i32_w]
                                            rfl
                                          refine pure_ (i := 6) (N := some 63) (v := ?_) (a' := ?_) #[true, true, true, true, true, true, true, false, false, false, false, false, false] rfl rfl (any_of HT_.out (by kernel_rfl)) (fun _ _ _ h => h) (Or.inl ⟨by rfl, ?_⟩) ?_ ?_
                                          rotate_left
                                          · intro w'
                                            go_simp
                                            with_reducible rfl
                                          rotate_left
                                          · simp only [Act.put, List.setIfInBounds_toArray, List.set_cons_zero, List.set_cons_succ, i64_w, i32_w]
                                            rfl
                                          refine pure_ (i := 7) (N := some 64) (v := ?_) (a' := ?_) #[true, true, true, true, true, true, true, true, false, false, false, false, false] rfl rfl (any_of HT_.out (by kernel_rfl)) (fun _ _ _ h => h) (Or.inl ⟨by rfl, ?_⟩) ?_ ?_
                                          rotate_left
                                          · intro w'
                                            go_simp
                                            with_reducible rfl
                                          rotate_left
                                          · simp only [Act.put, List.setIfInBounds_toArray, List.set_cons_zero, List.set_cons_succ, i64_w, i32_w]
                                            rfl
                                          refine pure_ (i := 8) (N := some 65) (v := ?_) (a' := ?_) #[true, true, true, true, true, true, true, true, true, false, false, false, false] rfl rfl (any_of HT_.out (by kernel_rfl)) (fun _ _ _ h => h) (Or.inl ⟨by rfl, ?_⟩) ?_ ?_
                                          rotate_left
                                          · intro w'
                                            go_simp
                                            with_reducible rfl
                                          rotate_left
                                          · simp only [Act.put, List.setIfInBounds_toArray, List.set_cons_zero, List.set_cons_succ, i64_w, i32_w]
                                            rfl
                                          refine pure_ (i := 9) (N := some 66) (v := ?_) (a' := ?_) #[true, true, true, true, true, true, true, true, true, true, false, false, false] rfl rfl (any_of HT_.out (by kernel_rfl)) (fun _ _ _ h => h) (Or.inl ⟨by rfl, ?_⟩) ?_ ?_
                                          rotate_left
                                          · intro w'
                                            go_simp
                                            with_reducible rfl
                                          rotate_left
                                          · simp only [Act.put, List.setIfInBounds_toArray, List.set_cons_zero, List.set_cons_succ, i64_w, i32_w]
                                            rfl
                                          refine pure_ (i := 10) (N := some 67) (v := ?_) (a' := ?_) #[true, true, true, true, true, true, true, true, true, true, true, false, false] rfl rfl (any_of HT_.out (by kernel_rfl)) (fun _ _ _ h => h) (Or.inl ⟨by rfl, ?_⟩) ?_ ?_
                                          rotate_left
                                          · intro w'
                                            go_simp
                                            with_reducible rfl
                                          rotate_left
                                          · simp only [Act.put, List.setIfInBounds_toArray, List.set_cons_zero, List.set_cons_succ, i64_w, i32_w]
                                            rfl
                                          refine pure_ (i := 11) (N := some 68) (v := ?_) (a' := ?_) #[true, true, true, true, true, true, true, true, true, true, true, true, false] rfl rfl (any_of HT_.out (by kernel_rfl)) (fun _ _ _ h => h) (Or.inl ⟨by rfl, ?_⟩) ?_ ?_
                                          rotate_left
                                          · intro w'
                                            go_simp
                                            with_reducible rfl
                                          rotate_left
                                          · simp only [Act.put, List.setIfInBounds_toArray, List.set_cons_zero, List.set_cons_succ, i64_w, i32_w]
                                            rfl
                                          refine pure_ (i := 12) (N := some 13) (v := ?_) (a' := ?_) #[true, true, true, true, true, true, true, true, true, true, true, true, true] rfl rfl (any_of HT_.out (by kernel_rfl)) (fun _ _ _ h => h) (Or.inl ⟨by rfl, ?_⟩) ?_ ?_
                                          rotate_left
                                          · intro w'
                                            go_simp
                                            with_reducible rfl
                                          rotate_left
                                          · simp only [Act.put, List.setIfInBounds_toArray, List.set_cons_zero, List.set_cons_succ, i64_w, i32_w]
                                            rfl
                                          refine done_ (done_of HT_.out (by kernel_rfl)) ?_
                                          have hcz54_0 : w53.cell? ⟨gb102, 0, none⟩ = some (.bool false) := (blk_cell BK102.out 0).trans rfl
                                          have hcz54_1 : w53.cell? ⟨gb102, 1, none⟩ = some (.int .u32 (Int.tmod a0 2048)) := (blk_cell BK102.out 1).trans rfl
                                          have hcz54_2 : w53.cell? ⟨gb102, 2, none⟩ = some (.bool a1) := (blk_cell BK102.out 2).trans rfl
                                          have hcz54_3 : w53.cell? ⟨gb102, 3, none⟩ = some (.string x103003_7) := (blk_cell BK102.out 3).trans rfl
                                          have hfz54_0 := blk_frozen BK102.out 0
                                          have hfz54_1 := blk_frozen BK102.out 1
                                          have hfz54_2 := blk_frozen BK102.out 2
                                          have hfz54_3 := blk_frozen BK102.out 3
                                          try go_wp2_with (first | ((with_reducible refine gate_callee (f := 15) rfl ?_); refine goesL_ (some 70) rfl rfl Try.func15 (by kernel_rfl) rfl #[.agg #[.bool false, .int .u32 (Int.tmod a0 2048), .bool a1, .string x103003_7]] rfl (by (try simp only [List.map_toArray, List.map_cons, List.map_nil]); first | done | rfl | (simp only [List.length_drop, List.length_take]; rfl)) ?_; (with_reducible refine (frame_Body.calls false (Int.tmod a0 2048) a1 x103003_7 t109 _ A38.out).mono ?_); rintro e w55 ⟨rfl, hb⟩; refine ⟨_, rfl, ?_⟩; have n0_ := Aside0.mk (blk_below (g := gb102) (o := .cells #[.bool false, .int .u32 (Int.tmod a0 2048), .bool a1, .string x103003_7] 24 (0, 0)) (by (with_reducible repeat (first | refine blk_drewN ?_ _ | refine blk_drew ?_ | refine blk_alloc ?_ _)); exact BK102.out) hb); have n1_ := Aside0.mk (blk_below (g := gb103) (o := .cells #[.bool true, .int .u32 (Int.tmod a0 536870912), .bool a1, .string x104003_7] 24 (0, 0)) (by (with_reducible repeat (first | refine blk_drewN ?_ _ | refine blk_drew ?_ | refine blk_alloc ?_ _)); exact BK103.out) hb); have n2_ := Aside0.mk (below_step (by repeat (first | (with_reducible first | exact HB.out | apply below_alloc | apply pw_below_drewN | apply below_drew1 | refine below_set ?_ GE102.out | refine below_set ?_ GE103.out) | exact HB.out)) hb); clear BK102; clear BK103; clear HB; have BK102 := n0_; have BK103 := n1_; have HB := n2_; clear n0_ n1_ n2_; (try clear hb); (try clear hb2); (try clear hk); (try clear hi); have hcz56_0 : w55.cell? ⟨gb103, 0, none⟩ = some (.bool true) := (blk_cell BK103.out 0).trans rfl; have hcz56_1 : w55.cell? ⟨gb103, 1, none⟩ = some (.int .u32 (Int.tmod a0 536870912)) := (blk_cell BK103.out 1).trans rfl; have hcz56_2 : w55.cell? ⟨gb103, 2, none⟩ = some (.bool a1) := (blk_cell BK103.out 2).trans rfl; have hcz56_3 : w55.cell? ⟨gb103, 3, none⟩ = some (.string x104003_7) := (blk_cell BK103.out 3).trans rfl; have hfz56_0 := blk_frozen BK103.out 0; have hfz56_1 := blk_frozen BK103.out 1; have hfz56_2 := blk_frozen BK103.out 2; have hfz56_3 := blk_frozen BK103.out 3) | (go_at_call 15; (with_reducible refine (frame_Body.calls true (Int.tmod a0 536870912) a1 x104003_7 t110 _ A40.out).mono ?_); rintro e w57 ⟨rfl, hb⟩; have n0_ := Aside0.mk (blk_below (g := gb102) (o := .cells #[.bool false, .int .u32 (Int.tmod a0 2048), .bool a1, .string x103003_7] 24 (0, 0)) (by (with_reducible repeat (first | refine blk_drewN ?_ _ | refine blk_drew ?_ | refine blk_alloc ?_ _)); exact BK102.out) hb); have n1_ := Aside0.mk (blk_below (g := gb103) (o := .cells #[.bool true, .int .u32 (Int.tmod a0 536870912), .bool a1, .string x104003_7] 24 (0, 0)) (by (with_reducible repeat (first | refine blk_drewN ?_ _ | refine blk_drew ?_ | refine blk_alloc ?_ _)); exact BK103.out) hb); have n2_ := Aside0.mk (below_step (by repeat (first | (with_reducible first | exact HB.out | apply below_alloc | apply pw_below_drewN | apply below_drew1 | refine below_set ?_ GE102.out | refine below_set ?_ GE103.out) | exact HB.out)) hb); clear BK102; clear BK103; clear HB; have BK102 := n0_; have BK103 := n1_; have HB := n2_; clear n0_ n1_ n2_; (try clear hb); (try clear hb2); (try clear hk); (try clear hi); have hcz58_0 : w57.cell? ⟨gb102, 0, none⟩ = some (.bool false) := (blk_cell BK102.out 0).trans rfl; have hcz58_1 : w57.cell? ⟨gb102, 1, none⟩ = some (.int .u32 (Int.tmod a0 2048)) := (blk_cell BK102.out 1).trans rfl; have hcz58_2 : w57.cell? ⟨gb102, 2, none⟩ = some (.bool a1) := (blk_cell BK102.out 2).trans rfl; have hcz58_3 : w57.cell? ⟨gb102, 3, none⟩ = some (.string x103003_7) := (blk_cell BK102.out 3).trans rfl; have hfz58_0 := blk_frozen BK102.out 0; have hfz58_1 := blk_frozen BK102.out 1; have hfz58_2 := blk_frozen BK102.out 2; have hfz58_3 := blk_frozen BK102.out 3) | (go_at_call 17; (with_reducible refine (frame_Arb.calls false (Int.tmod a0 2048) a1 x103003_7 t111 _ A42.out).mono ?_); rintro e w59 ⟨rfl, hb⟩; have n0_ := Aside0.mk (blk_below (g := gb102) (o := .cells #[.bool false, .int .u32 (Int.tmod a0 2048), .bool a1, .string x103003_7] 24 (0, 0)) (by (with_reducible repeat (first | refine blk_drewN ?_ _ | refine blk_drew ?_ | refine blk_alloc ?_ _)); exact BK102.out) hb); have n1_ := Aside0.mk (blk_below (g := gb103) (o := .cells #[.bool true, .int .u32 (Int.tmod a0 536870912), .bool a1, .string x104003_7] 24 (0, 0)) (by (with_reducible repeat (first | refine blk_drewN ?_ _ | refine blk_drew ?_ | refine blk_alloc ?_ _)); exact BK103.out) hb); have n2_ := Aside0.mk (below_step (by repeat (first | (with_reducible first | exact HB.out | apply below_alloc | apply pw_below_drewN | apply below_drew1 | refine below_set ?_ GE102.out | refine below_set ?_ GE103.out) | exact HB.out)) hb); clear BK102; clear BK103; clear HB; have BK102 := n0_; have BK103 := n1_; have HB := n2_; clear n0_ n1_ n2_; (try clear hb); (try clear hb2); (try clear hk); (try clear hi); have hcz60_0 : w59.cell? ⟨gb103, 0, none⟩ = some (.bool true) := (blk_cell BK103.out 0).trans rfl; have hcz60_1 : w59.cell? ⟨gb103, 1, none⟩ = some (.int .u32 (Int.tmod a0 536870912)) := (blk_cell BK103.out 1).trans rfl; have hcz60_2 : w59.cell? ⟨gb103, 2, none⟩ = some (.bool a1) := (blk_cell BK103.out 2).trans rfl; have hcz60_3 : w59.cell? ⟨gb103, 3, none⟩ = some (.string x104003_7) := (blk_cell BK103.out 3).trans rfl; have hfz60_0 := blk_frozen BK103.out 0; have hfz60_1 := blk_frozen BK103.out 1; have hfz60_2 := blk_frozen BK103.out 2; have hfz60_3 := blk_frozen BK103.out 3) | (go_at_call 17; (with_reducible refine (frame_Arb.calls true (Int.tmod a0 536870912) a1 x104003_7 t112 _ A44.out).mono ?_); rintro e w61 ⟨rfl, hb⟩; have n0_ := Aside0.mk (blk_below (g := gb102) (o := .cells #[.bool false, .int .u32 (Int.tmod a0 2048), .bool a1, .string x103003_7] 24 (0, 0)) (by (with_reducible repeat (first | refine blk_drewN ?_ _ | refine blk_drew ?_ | refine blk_alloc ?_ _)); exact BK102.out) hb); have n1_ := Aside0.mk (blk_below (g := gb103) (o := .cells #[.bool true, .int .u32 (Int.tmod a0 536870912), .bool a1, .string x104003_7] 24 (0, 0)) (by (with_reducible repeat (first | refine blk_drewN ?_ _ | refine blk_drew ?_ | refine blk_alloc ?_ _)); exact BK103.out) hb); have n2_ := Aside0.mk (below_step (by repeat (first | (with_reducible first | exact HB.out | apply below_alloc | apply pw_below_drewN | apply below_drew1 | refine below_set ?_ GE102.out | refine below_set ?_ GE103.out) | exact HB.out)) hb); clear BK102; clear BK103; clear HB; have BK102 := n0_; have BK103 := n1_; have HB := n2_; clear n0_ n1_ n2_; (try clear hb); (try clear hb2); (try clear hk); (try clear hi)))
                                          go_ret
                                          exact ⟨by first | rfl | (simp [errW_none, errW_some] <;> rfl) | (simp [*, errW_none, errW_some] <;> rfl), by repeat (first | (with_reducible first | exact HB.out | apply below_alloc | apply pw_below_drewN | apply below_drew1 | refine below_set ?_ GE102.out | refine below_set ?_ GE103.out) | exact HB.out)⟩
                                        · rw [if_neg c43] at H
                                          have c43b0 : ((t111.size : Int) == 14) = false := beq_eq_false_iff_ne.mpr c43
                                          have c43b1 : ((t111.size : Int) != 14) = true := bne_iff_ne.mpr c43
                                          obtain rfl := Option.some.inj H
                                          try go_wp2_with (first | ((with_reducible refine gate_callee (f := 26) rfl ?_); refine goesL_ (some 33) rfl rfl Try.func26 (by kernel_rfl) rfl #[.bool a1] rfl (by (try simp only [List.map_toArray, List.map_cons, List.map_nil]); first | done | rfl | (simp only [List.length_drop, List.length_take]; rfl)) ?_; (with_reducible refine (ostinatoref1_Bit.calls a1 t104 _ A19.out).mono ?_); rintro e w' ⟨rfl, ⟨nd, rfl⟩⟩; refine ⟨_, rfl, ?_⟩))
                                          (try (rw [drewN_self wc]; generalize hq_ : World.drewN wc _ = wc; have n0_ : Aside0 (wc.heap[gb102]? = some (.cells #[.bool false, .int .u32 (Int.tmod a0 2048), .bool a1, .string x103003_7] 24 (0, 0))) := ⟨by rw [← hq_]; exact (by (with_reducible repeat (first | refine blk_drewN ?_ _ | refine blk_drew ?_ | refine blk_alloc ?_ _)); exact BK102.out)⟩; have n1_ : Aside0 (wc.heap[gb103]? = some (.cells #[.bool true, .int .u32 (Int.tmod a0 536870912), .bool a1, .string x104003_7] 24 (0, 0))) := ⟨by rw [← hq_]; exact (by (with_reducible repeat (first | refine blk_drewN ?_ _ | refine blk_drew ?_ | refine blk_alloc ?_ _)); exact BK103.out)⟩; have n2_ : Aside0 (Below w.heap.size w wc) := ⟨by rw [← hq_]; exact (by repeat (first | (with_reducible first | exact HB.out | apply below_alloc | apply pw_below_drewN | apply below_drew1 | refine below_set ?_ GE102.out | refine below_set ?_ GE103.out) | exact HB.out))⟩; clear BK102 BK103 HB hq_; have BK102 := n0_; have BK103 := n1_; have HB := n2_; clear n0_ n1_ n2_))
                                          have n0_ := Aside0.mk (blk_drew BK102.out)
                                          have n1_ := Aside0.mk (blk_drew BK103.out)
                                          have n2_ := Aside0.mk (below_drew1 HB.out)
                                          clear BK102
                                          clear BK103
                                          clear HB
                                          have BK102 := n0_
                                          have BK103 := n1_
                                          have HB := n2_
                                          clear n0_ n1_ n2_
                                          refine start_ (n := 10) (S := fun w' => w'.cell? ⟨gb102, 0, none⟩ = some (.bool false) ∧ w'.cell? ⟨gb102, 1, none⟩ = some (.int .u32 (Int.tmod a0 2048)) ∧ w'.cell? ⟨gb102, 2, none⟩ = some (.bool a1) ∧ w'.cell? ⟨gb102, 3, none⟩ = some (.string x103003_7)) (ds := []) #[false, false, false, false, false, false, false, false, false, false] (by kernel_rfl) rfl rfl ⟨(blk_cell BK102.out 0).trans rfl, (blk_cell BK102.out 1).trans rfl, (blk_cell BK102.out 2).trans rfl, (blk_cell BK102.out 3).trans rfl⟩ (fun hHeld => ?_); refine with_tabW ostinatolaw3_FrameFields.tab10 ostinatolaw3_FrameFields.bits10 (fun HT_ HW_ => ?_)
                                          generalize wc.drew = w62 at BK102 BK103 HB hHeld ⊢
                                          refine pure_ (i := 0) (N := some 34) (v := ?_) (a' := ?_) #[true, false, false, false, false, false, false, false, false, false] rfl rfl (any_of HT_.out (by kernel_rfl)) (fun _ _ _ h => h) (Or.inl ⟨by rfl, ?_⟩) ?_ ?_
                                          rotate_left
                                          · intro w'
                                            go_simp
                                            with_reducible rfl
                                          rotate_left
                                          · simp only [Act.put, List.setIfInBounds_toArray, List.set_cons_zero, List.set_cons_succ, i64_w, i32_w]
                                            rfl
                                          refine pure_ (i := 5) (N := some 39) (v := ?_) (a' := ?_) #[true, false, false, false, false, true, false, false, false, false] rfl rfl (any_of HT_.out (by kernel_rfl)) (fun _ _ _ h => h) (Or.inl ⟨by rfl, ?_⟩) ?_ ?_
                                          rotate_left
                                          · intro w'
                                            go_simp
                                            with_reducible rfl
                                          rotate_left
                                          · simp only [Act.put, List.setIfInBounds_toArray, List.set_cons_zero, List.set_cons_succ, i64_w, i32_w]
                                            rfl
                                          refine take_ (i := 1) (N := some 35) (v := ?_) (a' := ?_) #[true, true, false, false, false, true, false, false, false, false] rfl rfl (take_ofW HT_.out HW_.out (by kernel_rfl)) (fun _ _ _ h => h) (Or.inl ⟨by rfl, ?_⟩) hHeld ?_ ?_
                                          rotate_left
                                          · rintro w' ⟨s0, s1, s2, s3⟩
                                            go_simp
                                            with_reducible rfl
                                          rotate_left
                                          · simp only [Act.put, List.setIfInBounds_toArray, List.set_cons_zero, List.set_cons_succ, i64_w, i32_w]
                                            rfl
                                          refine pure_ (i := 2) (N := some 36) (v := ?_) (a' := ?_) #[true, true, true, false, false, true, false, false, false, false] rfl rfl (any_of HT_.out (by kernel_rfl)) (fun _ _ _ h => h) (Or.inl ⟨by rfl, ?_⟩) ?_ ?_
                                          rotate_left
                                          · intro w'
                                            go_simp
                                            with_reducible rfl
                                          rotate_left
                                          · simp only [Act.put, List.setIfInBounds_toArray, List.set_cons_zero, List.set_cons_succ, i64_w, i32_w]
                                            rfl
                                          refine pure_ (i := 3) (N := some 37) (v := ?_) (a' := ?_) #[true, true, true, true, false, true, false, false, false, false] rfl rfl (any_of HT_.out (by kernel_rfl)) (fun _ _ _ h => h) (Or.inl ⟨by rfl, ?_⟩) ?_ ?_
                                          rotate_left
                                          · intro w'
                                            go_simp
                                            with_reducible rfl
                                          rotate_left
                                          · simp only [Act.put, List.setIfInBounds_toArray, List.set_cons_zero, List.set_cons_succ, i64_w, i32_w]
                                            rfl
                                          refine take_ (i := 6) (N := some 40) (v := ?_) (a' := ?_) #[true, true, true, true, false, true, true, false, false, false] rfl rfl (take_ofW HT_.out HW_.out (by kernel_rfl)) (fun _ _ _ h => h) (Or.inl ⟨by rfl, ?_⟩) hHeld ?_ ?_
                                          rotate_left
                                          · rintro w' ⟨s0, s1, s2, s3⟩
                                            go_simp
                                            with_reducible rfl
                                          rotate_left
                                          · simp only [Act.put, List.setIfInBounds_toArray, List.set_cons_zero, List.set_cons_succ, i64_w, i32_w]
                                            rfl
                                          refine one_ (i := 4) (N := some 38) #[true, true, true, true, true, true, true, false, false, false] rfl rfl (one_of HT_.out (by kernel_rfl)) (by decide) (fun K hK => ?_)
                                          refine goes_ Try.func27 (by kernel_rfl) rfl #[.int .u64 (IntKind.u64.wrap ((x103003_7.size : Int))), .int .i64 4] (by rfl) rfl rfl (by (try simp only [List.map_toArray, List.map_cons, List.map_nil]); first | done | rfl | (simp only [List.length_drop, List.length_take]; rfl)) ?_
                                          with_reducible refine (ostinatoref1_Of.calls (IntKind.u64.wrap ((x103003_7.size : Int))) 4 t105 _ A20.out).mono ?_
                                          rintro e w63 ⟨rfl, hb⟩
                                          refine ⟨_, rfl, ?_⟩
                                          have n0_ := Aside0.mk (blk_below (g := gb102) (o := .cells #[.bool false, .int .u32 (Int.tmod a0 2048), .bool a1, .string x103003_7] 24 (0, 0)) (by (with_reducible repeat (first | refine blk_drewN ?_ _ | refine blk_drew ?_ | refine blk_alloc ?_ _)); exact BK102.out) hb)
                                          have n1_ := Aside0.mk (blk_below (g := gb103) (o := .cells #[.bool true, .int .u32 (Int.tmod a0 536870912), .bool a1, .string x104003_7] 24 (0, 0)) (by (with_reducible repeat (first | refine blk_drewN ?_ _ | refine blk_drew ?_ | refine blk_alloc ?_ _)); exact BK103.out) hb)
                                          have n2_ := Aside0.mk (below_step (by repeat (first | (with_reducible first | exact HB.out | apply below_alloc | apply pw_below_drewN | apply below_drew1 | refine below_set ?_ GE102.out | refine below_set ?_ GE103.out) | exact HB.out)) hb)
                                          clear BK102
                                          clear BK103
                                          clear HB
                                          have BK102 := n0_
                                          have BK103 := n1_
                                          have HB := n2_
                                          clear n0_ n1_ n2_
                                          (try clear hb)
                                          (try clear hb2)
                                          (try clear hk)
                                          (try clear hi)
                                          refine hK.out _ _ ⟨(blk_cell BK102.out 0).trans rfl, (blk_cell BK102.out 1).trans rfl, (blk_cell BK102.out 2).trans rfl, (blk_cell BK102.out 3).trans rfl⟩ (fun hHeld => ?_)
                                          clear hK K
                                          refine norm_ (a' := ?_) ?_ ?_
                                          rotate_left
                                          · show Act.put _ (some 38) _ = _
                                            simp only [Act.put, List.setIfInBounds_toArray, List.set_cons_zero, List.set_cons_succ, i64_w, i32_w]
                                            rfl
                                          refine one_ (i := 7) (N := some 41) #[true, true, true, true, true, true, true, true, false, false] rfl rfl (one_of HT_.out (by kernel_rfl)) (by decide) (fun K hK => ?_)
                                          refine goes_ Try.func28 (by kernel_rfl) rfl #[.string x103003_7] (by rfl) rfl rfl (by (try simp only [List.map_toArray, List.map_cons, List.map_nil]); first | done | rfl | (simp only [List.length_drop, List.length_take]; rfl)) ?_
                                          with_reducible refine (ostinatoref1_FromBytes.calls x103003_7 t106 _ A21.out).mono ?_
                                          rintro e w64 ⟨rfl, hb⟩
                                          refine ⟨_, rfl, ?_⟩
                                          have n0_ := Aside0.mk (blk_below (g := gb102) (o := .cells #[.bool false, .int .u32 (Int.tmod a0 2048), .bool a1, .string x103003_7] 24 (0, 0)) (by (with_reducible repeat (first | refine blk_drewN ?_ _ | refine blk_drew ?_ | refine blk_alloc ?_ _)); exact BK102.out) hb)
                                          have n1_ := Aside0.mk (blk_below (g := gb103) (o := .cells #[.bool true, .int .u32 (Int.tmod a0 536870912), .bool a1, .string x104003_7] 24 (0, 0)) (by (with_reducible repeat (first | refine blk_drewN ?_ _ | refine blk_drew ?_ | refine blk_alloc ?_ _)); exact BK103.out) hb)
                                          have n2_ := Aside0.mk (below_step (by repeat (first | (with_reducible first | exact HB.out | apply below_alloc | apply pw_below_drewN | apply below_drew1 | refine below_set ?_ GE102.out | refine below_set ?_ GE103.out) | exact HB.out)) hb)
                                          clear BK102
                                          clear BK103
                                          clear HB
                                          have BK102 := n0_
                                          have BK103 := n1_
                                          have HB := n2_
                                          clear n0_ n1_ n2_
                                          (try clear hb)
                                          (try clear hb2)
                                          (try clear hk)
                                          (try clear hi)
                                          refine hK.out _ _ ⟨(blk_cell BK102.out 0).trans rfl, (blk_cell BK102.out 1).trans rfl, (blk_cell BK102.out 2).trans rfl, (blk_cell BK102.out 3).trans rfl⟩ (fun hHeld => ?_)
                                          clear hK K
                                          refine norm_ (a' := ?_) ?_ ?_
                                          rotate_left
                                          · show Act.put _ (some 41) _ = _
                                            simp only [Act.put, List.setIfInBounds_toArray, List.set_cons_zero, List.set_cons_succ, i64_w, i32_w]
                                            rfl
                                          refine pure_ (i := 8) (N := some 42) (v := ?_) (a' := ?_) #[true, true, true, true, true, true, true, true, true, false] rfl rfl (any_of HT_.out (by kernel_rfl)) (fun _ _ _ h => h) (Or.inl ⟨by rfl, ?_⟩) ?_ ?_
                                          rotate_left
                                          · intro w'
                                            go_simp
                                            with_reducible rfl
                                          rotate_left
                                          · simp only [Act.put, List.setIfInBounds_toArray, List.set_cons_zero, List.set_cons_succ, i64_w, i32_w]
                                            rfl
                                          refine pure_ (i := 9) (N := some 10) (v := ?_) (a' := ?_) #[true, true, true, true, true, true, true, true, true, true] rfl rfl (any_of HT_.out (by kernel_rfl)) (fun _ _ _ h => h) (Or.inl ⟨by rfl, ?_⟩) ?_ ?_
                                          rotate_left
                                          · intro w'
                                            go_simp
                                            with_reducible rfl
                                          rotate_left
                                          · simp only [Act.put, List.setIfInBounds_toArray, List.set_cons_zero, List.set_cons_succ, i64_w, i32_w]
                                            rfl
                                          refine done_ (done_of HT_.out (by kernel_rfl)) ?_
                                          have hnb65 := NB102_103.out
                                          have hnc65 := NB103_102.out
                                          have hcz66_0 : w64.cell? ⟨gb102, 0, none⟩ = some (.bool false) := (blk_cell BK102.out 0).trans rfl
                                          have hcz66_1 : w64.cell? ⟨gb102, 1, none⟩ = some (.int .u32 (Int.tmod a0 2048)) := (blk_cell BK102.out 1).trans rfl
                                          have hcz66_2 : w64.cell? ⟨gb102, 2, none⟩ = some (.bool a1) := (blk_cell BK102.out 2).trans rfl
                                          have hcz66_3 : w64.cell? ⟨gb102, 3, none⟩ = some (.string x103003_7) := (blk_cell BK102.out 3).trans rfl
                                          have hfz66_0 := blk_frozen BK102.out 0
                                          have hfz66_1 := blk_frozen BK102.out 1
                                          have hfz66_2 := blk_frozen BK102.out 2
                                          have hfz66_3 := blk_frozen BK102.out 3
                                          try go_wp2_with (first | ((with_reducible refine gate_callee (f := 27) rfl ?_); refine goesL_ (some 46) rfl rfl Try.func27 (by kernel_rfl) rfl #[.int .u64 (IntKind.u64.wrap ((Int.tmod a0 2048))), .int .i64 11] rfl (by (try simp only [List.map_toArray, List.map_cons, List.map_nil]); first | done | rfl | (simp only [List.length_drop, List.length_take]; rfl)) ?_; (with_reducible refine (ostinatoref1_Of.calls (IntKind.u64.wrap ((Int.tmod a0 2048))) 11 t107 _ A23.out).mono ?_); rintro e w67 ⟨rfl, hb⟩; refine ⟨_, rfl, ?_⟩; have n0_ := Aside0.mk (blk_below (g := gb102) (o := .cells #[.bool false, .int .u32 (Int.tmod a0 2048), .bool a1, .string x103003_7] 24 (0, 0)) (by (with_reducible repeat (first | refine blk_drewN ?_ _ | refine blk_drew ?_ | refine blk_alloc ?_ _)); exact BK102.out) hb); have n1_ := Aside0.mk (blk_below (g := gb103) (o := .cells #[.bool true, .int .u32 (Int.tmod a0 536870912), .bool a1, .string x104003_7] 24 (0, 0)) (by (with_reducible repeat (first | refine blk_drewN ?_ _ | refine blk_drew ?_ | refine blk_alloc ?_ _)); exact BK103.out) hb); have n2_ := Aside0.mk (below_step (by repeat (first | (with_reducible first | exact HB.out | apply below_alloc | apply pw_below_drewN | apply below_drew1 | refine below_set ?_ GE102.out | refine below_set ?_ GE103.out) | exact HB.out)) hb); clear BK102; clear BK103; clear HB; have BK102 := n0_; have BK103 := n1_; have HB := n2_; clear n0_ n1_ n2_; (try clear hb); (try clear hb2); (try clear hk); (try clear hi); have hcz68_0 : w67.cell? ⟨gb103, 0, none⟩ = some (.bool true) := (blk_cell BK103.out 0).trans rfl; have hcz68_1 : w67.cell? ⟨gb103, 1, none⟩ = some (.int .u32 (Int.tmod a0 536870912)) := (blk_cell BK103.out 1).trans rfl; have hcz68_2 : w67.cell? ⟨gb103, 2, none⟩ = some (.bool a1) := (blk_cell BK103.out 2).trans rfl; have hcz68_3 : w67.cell? ⟨gb103, 3, none⟩ = some (.string x104003_7) := (blk_cell BK103.out 3).trans rfl; have hfz68_0 := blk_frozen BK103.out 0; have hfz68_1 := blk_frozen BK103.out 1; have hfz68_2 := blk_frozen BK103.out 2; have hfz68_3 := blk_frozen BK103.out 3) | ((with_reducible refine gate_callee (f := 27) rfl ?_); refine goesL_ (some 56) rfl rfl Try.func27 (by kernel_rfl) rfl #[.int .u64 (IntKind.u64.wrap ((Int.tmod a0 536870912))), .int .i64 29] rfl (by (try simp only [List.map_toArray, List.map_cons, List.map_nil]); first | done | rfl | (simp only [List.length_drop, List.length_take]; rfl)) ?_; (with_reducible refine (ostinatoref1_Of.calls (IntKind.u64.wrap ((Int.tmod a0 536870912))) 29 t108 _ A28.out).mono ?_); rintro e w69 ⟨rfl, hb⟩; refine ⟨_, rfl, ?_⟩; have n0_ := Aside0.mk (blk_below (g := gb102) (o := .cells #[.bool false, .int .u32 (Int.tmod a0 2048), .bool a1, .string x103003_7] 24 (0, 0)) (by (with_reducible repeat (first | refine blk_drewN ?_ _ | refine blk_drew ?_ | refine blk_alloc ?_ _)); exact BK102.out) hb); have n1_ := Aside0.mk (blk_below (g := gb103) (o := .cells #[.bool true, .int .u32 (Int.tmod a0 536870912), .bool a1, .string x104003_7] 24 (0, 0)) (by (with_reducible repeat (first | refine blk_drewN ?_ _ | refine blk_drew ?_ | refine blk_alloc ?_ _)); exact BK103.out) hb); have n2_ := Aside0.mk (below_step (by repeat (first | (with_reducible first | exact HB.out | apply below_alloc | apply pw_below_drewN | apply below_drew1 | refine below_set ?_ GE102.out | refine below_set ?_ GE103.out) | exact HB.out)) hb); clear BK102; clear BK103; clear HB; have BK102 := n0_; have BK103 := n1_; have HB := n2_; clear n0_ n1_ n2_; (try clear hb); (try clear hb2); (try clear hk); (try clear hi)))
                                          have n0_ := Aside0.mk (blk_drew BK102.out)
                                          have n1_ := Aside0.mk (blk_drew BK103.out)
                                          have n2_ := Aside0.mk (below_drew1 HB.out)
                                          clear BK102
                                          clear BK103
                                          clear HB
                                          have BK102 := n0_
                                          have BK103 := n1_
                                          have HB := n2_
                                          clear n0_ n1_ n2_
                                          refine start_ (n := 13) (S := fun w' => True) (ds := []) #[false, false, false, false, false, false, false, false, false, false, false, false, false] (by kernel_rfl) rfl rfl trivial (fun hHeld => ?_); refine with_tabW ostinatolaw3_FrameFields.tab13 ostinatolaw3_FrameFields.bits13 (fun HT_ HW_ => ?_)
                                          generalize w69.drew = w70 at BK102 BK103 HB hHeld ⊢
                                          refine pure_ (i := 0) (N := some 57) (v := ?_) (a' := ?_) #[true, false, false, false, false, false, false, false, false, false, false, false, false] rfl rfl (any_of HT_.out (by kernel_rfl)) (fun _ _ _ h => h) (Or.inl ⟨by rfl, ?_⟩) ?_ ?_
                                          rotate_left
                                          · intro w'
                                            go_simp
                                            with_reducible rfl
                                          rotate_left
                                          · simp only [Act.put, List.setIfInBounds_toArray, List.set_cons_zero, List.set_cons_succ, i64_w, i32_w]
                                            rfl
                                          refine pure_ (i := 1) (N := some 58) (v := ?_) (a' := ?_) #[true, true, false, false, false, false, false, false, false, false, false, false, false] rfl rfl (any_of HT_.out (by kernel_rfl)) (fun _ _ _ h => h) (Or.inl ⟨by rfl, ?_⟩) ?_ ?_
                                          rotate_left
                                          · intro w'
                                            go_simp
                                            with_reducible rfl
                                          rotate_left
                                          · simp only [Act.put, List.setIfInBounds_toArray, List.set_cons_zero, List.set_cons_succ, i64_w, i32_w]
                                            rfl
                                          refine pure_ (i := 2) (N := some 59) (v := ?_) (a' := ?_) #[true, true, true, false, false, false, false, false, false, false, false, false, false] rfl rfl (any_of HT_.out (by kernel_rfl)) (fun _ _ _ h => h) (Or.inl ⟨by rfl, ?_⟩) ?_ ?_
                                          rotate_left
                                          · intro w'
                                            go_simp
                                            with_reducible rfl
                                          rotate_left
                                          · simp only [Act.put, List.setIfInBounds_toArray, List.set_cons_zero, List.set_cons_succ, i64_w, i32_w]
                                            rfl
                                          refine pure_ (i := 3) (N := some 60) (v := ?_) (a' := ?_) #[true, true, true, true, false, false, false, false, false, false, false, false, false] rfl rfl (any_of HT_.out (by kernel_rfl)) (fun _ _ _ h => h) (Or.inl ⟨by rfl, ?_⟩) ?_ ?_
                                          rotate_left
                                          · intro w'
                                            go_simp
                                            with_reducible rfl
                                          rotate_left
                                          · simp only [Act.put, List.setIfInBounds_toArray, List.set_cons_zero, List.set_cons_succ, i64_w, i32_w]
                                            rfl
                                          refine pure_ (i := 4) (N := some 61) (v := ?_) (a' := ?_) #[true, true, true, true, true, false, false, false, false, false, false, false, false] rfl rfl (any_of HT_.out (by kernel_rfl)) (fun _ _ _ h => h) (Or.inl ⟨by rfl, ?_⟩) ?_ ?_
                                          rotate_left
                                          · intro w'
                                            go_simp
                                            with_reducible rfl
                                          rotate_left
                                          · simp only [Act.put, List.setIfInBounds_toArray, List.set_cons_zero, List.set_cons_succ, i64_w, i32_w]
                                            rfl
                                          refine pure_ (i := 5) (N := some 62) (v := ?_) (a' := ?_) #[true, true, true, true, true, true, false, false, false, false, false, false, false] rfl rfl (any_of HT_.out (by kernel_rfl)) (fun _ _ _ h => h) (Or.inl ⟨by rfl, ?_⟩) ?_ ?_
                                          rotate_left
                                          · intro w'
                                            go_simp
                                            with_reducible rfl
                                          rotate_left
                                          · simp only [Act.put, List.setIfInBounds_toArray, List.set_cons_zero, List.set_cons_succ, i64_w, i32_w]
                                            rfl
                                          refine pure_ (i := 6) (N := some 63) (v := ?_) (a' := ?_) #[true, true, true, true, true, true, true, false, false, false, false, false, false] rfl rfl (any_of HT_.out (by kernel_rfl)) (fun _ _ _ h => h) (Or.inl ⟨by rfl, ?_⟩) ?_ ?_
                                          rotate_left
                                          · intro w'
                                            go_simp
                                            with_reducible rfl
                                          rotate_left
                                          · simp only [Act.put, List.setIfInBounds_toArray, List.set_cons_zero, List.set_cons_succ, i64_w, i32_w]
                                            rfl
                                          refine pure_ (i := 7) (N := some 64) (v := ?_) (a' := ?_) #[true, true, true, true, true, true, true, true, false, false, false, false, false] rfl rfl (any_of HT_.out (by kernel_rfl)) (fun _ _ _ h => h) (Or.inl ⟨by rfl, ?_⟩) ?_ ?_
                                          rotate_left
                                          · intro w'
                                            go_simp
                                            with_reducible rfl
                                          rotate_left
                                          · simp only [Act.put, List.setIfInBounds_toArray, List.set_cons_zero, List.set_cons_succ, i64_w, i32_w]
                                            rfl
                                          refine pure_ (i := 8) (N := some 65) (v := ?_) (a' := ?_) #[true, true, true, true, true, true, true, true, true, false, false, false, false] rfl rfl (any_of HT_.out (by kernel_rfl)) (fun _ _ _ h => h) (Or.inl ⟨by rfl, ?_⟩) ?_ ?_
                                          rotate_left
                                          · intro w'
                                            go_simp
                                            with_reducible rfl
                                          rotate_left
                                          · simp only [Act.put, List.setIfInBounds_toArray, List.set_cons_zero, List.set_cons_succ, i64_w, i32_w]
                                            rfl
                                          refine pure_ (i := 9) (N := some 66) (v := ?_) (a' := ?_) #[true, true, true, true, true, true, true, true, true, true, false, false, false] rfl rfl (any_of HT_.out (by kernel_rfl)) (fun _ _ _ h => h) (Or.inl ⟨by rfl, ?_⟩) ?_ ?_
                                          rotate_left
                                          · intro w'
                                            go_simp
                                            with_reducible rfl
                                          rotate_left
                                          · simp only [Act.put, List.setIfInBounds_toArray, List.set_cons_zero, List.set_cons_succ, i64_w, i32_w]
                                            rfl
                                          refine pure_ (i := 10) (N := some 67) (v := ?_) (a' := ?_) #[true, true, true, true, true, true, true, true, true, true, true, false, false] rfl rfl (any_of HT_.out (by kernel_rfl)) (fun _ _ _ h => h) (Or.inl ⟨by rfl, ?_⟩) ?_ ?_
                                          rotate_left
                                          · intro w'
                                            go_simp
                                            with_reducible rfl
                                          rotate_left
                                          · simp only [Act.put, List.setIfInBounds_toArray, List.set_cons_zero, List.set_cons_succ, i64_w, i32_w]
                                            rfl
                                          refine pure_ (i := 11) (N := some 68) (v := ?_) (a' := ?_) #[true, true, true, true, true, true, true, true, true, true, true, true, false] rfl rfl (any_of HT_.out (by kernel_rfl)) (fun _ _ _ h => h) (Or.inl ⟨by rfl, ?_⟩) ?_ ?_
                                          rotate_left
                                          · intro w'
                                            go_simp
                                            with_reducible rfl
                                          rotate_left
                                          · simp only [Act.put, List.setIfInBounds_toArray, List.set_cons_zero, List.set_cons_succ, i64_w, i32_w]
                                            rfl
                                          refine pure_ (i := 12) (N := some 13) (v := ?_) (a' := ?_) #[true, true, true, true, true, true, true, true, true, true, true, true, true] rfl rfl (any_of HT_.out (by kernel_rfl)) (fun _ _ _ h => h) (Or.inl ⟨by rfl, ?_⟩) ?_ ?_
                                          rotate_left
                                          · intro w'
                                            go_simp
                                            with_reducible rfl
                                          rotate_left
                                          · simp only [Act.put, List.setIfInBounds_toArray, List.set_cons_zero, List.set_cons_succ, i64_w, i32_w]
                                            rfl
                                          refine done_ (done_of HT_.out (by kernel_rfl)) ?_
                                          have hcz71_0 : w70.cell? ⟨gb102, 0, none⟩ = some (.bool false) := (blk_cell BK102.out 0).trans rfl
                                          have hcz71_1 : w70.cell? ⟨gb102, 1, none⟩ = some (.int .u32 (Int.tmod a0 2048)) := (blk_cell BK102.out 1).trans rfl
                                          have hcz71_2 : w70.cell? ⟨gb102, 2, none⟩ = some (.bool a1) := (blk_cell BK102.out 2).trans rfl
                                          have hcz71_3 : w70.cell? ⟨gb102, 3, none⟩ = some (.string x103003_7) := (blk_cell BK102.out 3).trans rfl
                                          have hfz71_0 := blk_frozen BK102.out 0
                                          have hfz71_1 := blk_frozen BK102.out 1
                                          have hfz71_2 := blk_frozen BK102.out 2
                                          have hfz71_3 := blk_frozen BK102.out 3
                                          try go_wp2_with (first | ((with_reducible refine gate_callee (f := 15) rfl ?_); refine goesL_ (some 70) rfl rfl Try.func15 (by kernel_rfl) rfl #[.agg #[.bool false, .int .u32 (Int.tmod a0 2048), .bool a1, .string x103003_7]] rfl (by (try simp only [List.map_toArray, List.map_cons, List.map_nil]); first | done | rfl | (simp only [List.length_drop, List.length_take]; rfl)) ?_; (with_reducible refine (frame_Body.calls false (Int.tmod a0 2048) a1 x103003_7 t109 _ A38.out).mono ?_); rintro e w72 ⟨rfl, hb⟩; refine ⟨_, rfl, ?_⟩; have n0_ := Aside0.mk (blk_below (g := gb102) (o := .cells #[.bool false, .int .u32 (Int.tmod a0 2048), .bool a1, .string x103003_7] 24 (0, 0)) (by (with_reducible repeat (first | refine blk_drewN ?_ _ | refine blk_drew ?_ | refine blk_alloc ?_ _)); exact BK102.out) hb); have n1_ := Aside0.mk (blk_below (g := gb103) (o := .cells #[.bool true, .int .u32 (Int.tmod a0 536870912), .bool a1, .string x104003_7] 24 (0, 0)) (by (with_reducible repeat (first | refine blk_drewN ?_ _ | refine blk_drew ?_ | refine blk_alloc ?_ _)); exact BK103.out) hb); have n2_ := Aside0.mk (below_step (by repeat (first | (with_reducible first | exact HB.out | apply below_alloc | apply pw_below_drewN | apply below_drew1 | refine below_set ?_ GE102.out | refine below_set ?_ GE103.out) | exact HB.out)) hb); clear BK102; clear BK103; clear HB; have BK102 := n0_; have BK103 := n1_; have HB := n2_; clear n0_ n1_ n2_; (try clear hb); (try clear hb2); (try clear hk); (try clear hi); have hcz73_0 : w72.cell? ⟨gb103, 0, none⟩ = some (.bool true) := (blk_cell BK103.out 0).trans rfl; have hcz73_1 : w72.cell? ⟨gb103, 1, none⟩ = some (.int .u32 (Int.tmod a0 536870912)) := (blk_cell BK103.out 1).trans rfl; have hcz73_2 : w72.cell? ⟨gb103, 2, none⟩ = some (.bool a1) := (blk_cell BK103.out 2).trans rfl; have hcz73_3 : w72.cell? ⟨gb103, 3, none⟩ = some (.string x104003_7) := (blk_cell BK103.out 3).trans rfl; have hfz73_0 := blk_frozen BK103.out 0; have hfz73_1 := blk_frozen BK103.out 1; have hfz73_2 := blk_frozen BK103.out 2; have hfz73_3 := blk_frozen BK103.out 3) | (go_at_call 15; (with_reducible refine (frame_Body.calls true (Int.tmod a0 536870912) a1 x104003_7 t110 _ A40.out).mono ?_); rintro e w74 ⟨rfl, hb⟩; have n0_ := Aside0.mk (blk_below (g := gb102) (o := .cells #[.bool false, .int .u32 (Int.tmod a0 2048), .bool a1, .string x103003_7] 24 (0, 0)) (by (with_reducible repeat (first | refine blk_drewN ?_ _ | refine blk_drew ?_ | refine blk_alloc ?_ _)); exact BK102.out) hb); have n1_ := Aside0.mk (blk_below (g := gb103) (o := .cells #[.bool true, .int .u32 (Int.tmod a0 536870912), .bool a1, .string x104003_7] 24 (0, 0)) (by (with_reducible repeat (first | refine blk_drewN ?_ _ | refine blk_drew ?_ | refine blk_alloc ?_ _)); exact BK103.out) hb); have n2_ := Aside0.mk (below_step (by repeat (first | (with_reducible first | exact HB.out | apply below_alloc | apply pw_below_drewN | apply below_drew1 | refine below_set ?_ GE102.out | refine below_set ?_ GE103.out) | exact HB.out)) hb); clear BK102; clear BK103; clear HB; have BK102 := n0_; have BK103 := n1_; have HB := n2_; clear n0_ n1_ n2_; (try clear hb); (try clear hb2); (try clear hk); (try clear hi); have hcz75_0 : w74.cell? ⟨gb102, 0, none⟩ = some (.bool false) := (blk_cell BK102.out 0).trans rfl; have hcz75_1 : w74.cell? ⟨gb102, 1, none⟩ = some (.int .u32 (Int.tmod a0 2048)) := (blk_cell BK102.out 1).trans rfl; have hcz75_2 : w74.cell? ⟨gb102, 2, none⟩ = some (.bool a1) := (blk_cell BK102.out 2).trans rfl; have hcz75_3 : w74.cell? ⟨gb102, 3, none⟩ = some (.string x103003_7) := (blk_cell BK102.out 3).trans rfl; have hfz75_0 := blk_frozen BK102.out 0; have hfz75_1 := blk_frozen BK102.out 1; have hfz75_2 := blk_frozen BK102.out 2; have hfz75_3 := blk_frozen BK102.out 3) | (go_at_call 17; (with_reducible refine (frame_Arb.calls false (Int.tmod a0 2048) a1 x103003_7 t111 _ A42.out).mono ?_); rintro e w76 ⟨rfl, hb⟩; have n0_ := Aside0.mk (blk_below (g := gb102) (o := .cells #[.bool false, .int .u32 (Int.tmod a0 2048), .bool a1, .string x103003_7] 24 (0, 0)) (by (with_reducible repeat (first | refine blk_drewN ?_ _ | refine blk_drew ?_ | refine blk_alloc ?_ _)); exact BK102.out) hb); have n1_ := Aside0.mk (blk_below (g := gb103) (o := .cells #[.bool true, .int .u32 (Int.tmod a0 536870912), .bool a1, .string x104003_7] 24 (0, 0)) (by (with_reducible repeat (first | refine blk_drewN ?_ _ | refine blk_drew ?_ | refine blk_alloc ?_ _)); exact BK103.out) hb); have n2_ := Aside0.mk (below_step (by repeat (first | (with_reducible first | exact HB.out | apply below_alloc | apply pw_below_drewN | apply below_drew1 | refine below_set ?_ GE102.out | refine below_set ?_ GE103.out) | exact HB.out)) hb); clear BK102; clear BK103; clear HB; have BK102 := n0_; have BK103 := n1_; have HB := n2_; clear n0_ n1_ n2_; (try clear hb); (try clear hb2); (try clear hk); (try clear hi)))
                                          go_ret
                                          exact ⟨by first | rfl | (simp [errW_none, errW_some] <;> rfl) | (simp [*, errW_none, errW_some] <;> rfl), by repeat (first | (with_reducible first | exact HB.out | apply below_alloc | apply pw_below_drewN | apply below_drew1 | refine below_set ?_ GE102.out | refine below_set ?_ GE103.out) | exact HB.out)⟩
                                      · rw [if_neg c41] at H
                                        have c41b0 : (t110.toList == (((((((⟨#[48]⟩ : ByteArray) ++ (t108.extract 0 11)) ++ (⟨#[49, 49]⟩ : ByteArray)) ++ (t108.extract 11 t108.size)) ++ t104) ++ (⟨#[48, 48]⟩ : ByteArray)) ++ (t105 ++ t106)).toList) = false := beq_eq_false_iff_ne.mpr c41
                                        have c41b1 : (t110.toList != (((((((⟨#[48]⟩ : ByteArray) ++ (t108.extract 0 11)) ++ (⟨#[49, 49]⟩ : ByteArray)) ++ (t108.extract 11 t108.size)) ++ t104) ++ (⟨#[48, 48]⟩ : ByteArray)) ++ (t105 ++ t106)).toList) = true := bne_iff_ne.mpr c41
                                        obtain rfl := Option.some.inj H
                                        try go_wp2_with (first | ((with_reducible refine gate_callee (f := 26) rfl ?_); refine goesL_ (some 33) rfl rfl Try.func26 (by kernel_rfl) rfl #[.bool a1] rfl (by (try simp only [List.map_toArray, List.map_cons, List.map_nil]); first | done | rfl | (simp only [List.length_drop, List.length_take]; rfl)) ?_; (with_reducible refine (ostinatoref1_Bit.calls a1 t104 _ A19.out).mono ?_); rintro e w' ⟨rfl, ⟨nd, rfl⟩⟩; refine ⟨_, rfl, ?_⟩))
                                        (try (rw [drewN_self wc]; generalize hq_ : World.drewN wc _ = wc; have n0_ : Aside0 (wc.heap[gb102]? = some (.cells #[.bool false, .int .u32 (Int.tmod a0 2048), .bool a1, .string x103003_7] 24 (0, 0))) := ⟨by rw [← hq_]; exact (by (with_reducible repeat (first | refine blk_drewN ?_ _ | refine blk_drew ?_ | refine blk_alloc ?_ _)); exact BK102.out)⟩; have n1_ : Aside0 (wc.heap[gb103]? = some (.cells #[.bool true, .int .u32 (Int.tmod a0 536870912), .bool a1, .string x104003_7] 24 (0, 0))) := ⟨by rw [← hq_]; exact (by (with_reducible repeat (first | refine blk_drewN ?_ _ | refine blk_drew ?_ | refine blk_alloc ?_ _)); exact BK103.out)⟩; have n2_ : Aside0 (Below w.heap.size w wc) := ⟨by rw [← hq_]; exact (by repeat (first | (with_reducible first | exact HB.out | apply below_alloc | apply pw_below_drewN | apply below_drew1 | refine below_set ?_ GE102.out | refine below_set ?_ GE103.out) | exact HB.out))⟩; clear BK102 BK103 HB hq_; have BK102 := n0_; have BK103 := n1_; have HB := n2_; clear n0_ n1_ n2_))
                                        have n0_ := Aside0.mk (blk_drew BK102.out)
                                        have n1_ := Aside0.mk (blk_drew BK103.out)
                                        have n2_ := Aside0.mk (below_drew1 HB.out)
                                        clear BK102
                                        clear BK103
                                        clear HB
                                        have BK102 := n0_
                                        have BK103 := n1_
                                        have HB := n2_
                                        clear n0_ n1_ n2_
                                        refine start_ (n := 10) (S := fun w' => w'.cell? ⟨gb102, 0, none⟩ = some (.bool false) ∧ w'.cell? ⟨gb102, 1, none⟩ = some (.int .u32 (Int.tmod a0 2048)) ∧ w'.cell? ⟨gb102, 2, none⟩ = some (.bool a1) ∧ w'.cell? ⟨gb102, 3, none⟩ = some (.string x103003_7)) (ds := []) #[false, false, false, false, false, false, false, false, false, false] (by kernel_rfl) rfl rfl ⟨(blk_cell BK102.out 0).trans rfl, (blk_cell BK102.out 1).trans rfl, (blk_cell BK102.out 2).trans rfl, (blk_cell BK102.out 3).trans rfl⟩ (fun hHeld => ?_); refine with_tabW ostinatolaw3_FrameFields.tab10 ostinatolaw3_FrameFields.bits10 (fun HT_ HW_ => ?_)
                                        generalize wc.drew = w77 at BK102 BK103 HB hHeld ⊢
                                        refine pure_ (i := 0) (N := some 34) (v := ?_) (a' := ?_) #[true, false, false, false, false, false, false, false, false, false] rfl rfl (any_of HT_.out (by kernel_rfl)) (fun _ _ _ h => h) (Or.inl ⟨by rfl, ?_⟩) ?_ ?_
                                        rotate_left
                                        · intro w'
                                          go_simp
                                          with_reducible rfl
                                        rotate_left
                                        · simp only [Act.put, List.setIfInBounds_toArray, List.set_cons_zero, List.set_cons_succ, i64_w, i32_w]
                                          rfl
                                        refine pure_ (i := 5) (N := some 39) (v := ?_) (a' := ?_) #[true, false, false, false, false, true, false, false, false, false] rfl rfl (any_of HT_.out (by kernel_rfl)) (fun _ _ _ h => h) (Or.inl ⟨by rfl, ?_⟩) ?_ ?_
                                        rotate_left
                                        · intro w'
                                          go_simp
                                          with_reducible rfl
                                        rotate_left
                                        · simp only [Act.put, List.setIfInBounds_toArray, List.set_cons_zero, List.set_cons_succ, i64_w, i32_w]
                                          rfl
                                        refine take_ (i := 1) (N := some 35) (v := ?_) (a' := ?_) #[true, true, false, false, false, true, false, false, false, false] rfl rfl (take_ofW HT_.out HW_.out (by kernel_rfl)) (fun _ _ _ h => h) (Or.inl ⟨by rfl, ?_⟩) hHeld ?_ ?_
                                        rotate_left
                                        · rintro w' ⟨s0, s1, s2, s3⟩
                                          go_simp
                                          with_reducible rfl
                                        rotate_left
                                        · simp only [Act.put, List.setIfInBounds_toArray, List.set_cons_zero, List.set_cons_succ, i64_w, i32_w]
                                          rfl
                                        refine pure_ (i := 2) (N := some 36) (v := ?_) (a' := ?_) #[true, true, true, false, false, true, false, false, false, false] rfl rfl (any_of HT_.out (by kernel_rfl)) (fun _ _ _ h => h) (Or.inl ⟨by rfl, ?_⟩) ?_ ?_
                                        rotate_left
                                        · intro w'
                                          go_simp
                                          with_reducible rfl
                                        rotate_left
                                        · simp only [Act.put, List.setIfInBounds_toArray, List.set_cons_zero, List.set_cons_succ, i64_w, i32_w]
                                          rfl
                                        refine pure_ (i := 3) (N := some 37) (v := ?_) (a' := ?_) #[true, true, true, true, false, true, false, false, false, false] rfl rfl (any_of HT_.out (by kernel_rfl)) (fun _ _ _ h => h) (Or.inl ⟨by rfl, ?_⟩) ?_ ?_
                                        rotate_left
                                        · intro w'
                                          go_simp
                                          with_reducible rfl
                                        rotate_left
                                        · simp only [Act.put, List.setIfInBounds_toArray, List.set_cons_zero, List.set_cons_succ, i64_w, i32_w]
                                          rfl
                                        refine take_ (i := 6) (N := some 40) (v := ?_) (a' := ?_) #[true, true, true, true, false, true, true, false, false, false] rfl rfl (take_ofW HT_.out HW_.out (by kernel_rfl)) (fun _ _ _ h => h) (Or.inl ⟨by rfl, ?_⟩) hHeld ?_ ?_
                                        rotate_left
                                        · rintro w' ⟨s0, s1, s2, s3⟩
                                          go_simp
                                          with_reducible rfl
                                        rotate_left
                                        · simp only [Act.put, List.setIfInBounds_toArray, List.set_cons_zero, List.set_cons_succ, i64_w, i32_w]
                                          rfl
                                        refine one_ (i := 4) (N := some 38) #[true, true, true, true, true, true, true, false, false, false] rfl rfl (one_of HT_.out (by kernel_rfl)) (by decide) (fun K hK => ?_)
                                        refine goes_ Try.func27 (by kernel_rfl) rfl #[.int .u64 (IntKind.u64.wrap ((x103003_7.size : Int))), .int .i64 4] (by rfl) rfl rfl (by (try simp only [List.map_toArray, List.map_cons, List.map_nil]); first | done | rfl | (simp only [List.length_drop, List.length_take]; rfl)) ?_
                                        with_reducible refine (ostinatoref1_Of.calls (IntKind.u64.wrap ((x103003_7.size : Int))) 4 t105 _ A20.out).mono ?_
                                        rintro e w78 ⟨rfl, hb⟩
                                        refine ⟨_, rfl, ?_⟩
                                        have n0_ := Aside0.mk (blk_below (g := gb102) (o := .cells #[.bool false, .int .u32 (Int.tmod a0 2048), .bool a1, .string x103003_7] 24 (0, 0)) (by (with_reducible repeat (first | refine blk_drewN ?_ _ | refine blk_drew ?_ | refine blk_alloc ?_ _)); exact BK102.out) hb)
                                        have n1_ := Aside0.mk (blk_below (g := gb103) (o := .cells #[.bool true, .int .u32 (Int.tmod a0 536870912), .bool a1, .string x104003_7] 24 (0, 0)) (by (with_reducible repeat (first | refine blk_drewN ?_ _ | refine blk_drew ?_ | refine blk_alloc ?_ _)); exact BK103.out) hb)
                                        have n2_ := Aside0.mk (below_step (by repeat (first | (with_reducible first | exact HB.out | apply below_alloc | apply pw_below_drewN | apply below_drew1 | refine below_set ?_ GE102.out | refine below_set ?_ GE103.out) | exact HB.out)) hb)
                                        clear BK102
                                        clear BK103
                                        clear HB
                                        have BK102 := n0_
                                        have BK103 := n1_
                                        have HB := n2_
                                        clear n0_ n1_ n2_
                                        (try clear hb)
                                        (try clear hb2)
                                        (try clear hk)
                                        (try clear hi)
                                        refine hK.out _ _ ⟨(blk_cell BK102.out 0).trans rfl, (blk_cell BK102.out 1).trans rfl, (blk_cell BK102.out 2).trans rfl, (blk_cell BK102.out 3).trans rfl⟩ (fun hHeld => ?_)
                                        clear hK K
                                        refine norm_ (a' := ?_) ?_ ?_
                                        rotate_left
                                        · show Act.put _ (some 38) _ = _
                                          simp only [Act.put, List.setIfInBounds_toArray, List.set_cons_zero, List.set_cons_succ, i64_w, i32_w]
                                          rfl
                                        refine one_ (i := 7) (N := some 41) #[true, true, true, true, true, true, true, true, false, false] rfl rfl (one_of HT_.out (by kernel_rfl)) (by decide) (fun K hK => ?_)
                                        refine goes_ Try.func28 (by kernel_rfl) rfl #[.string x103003_7] (by rfl) rfl rfl (by (try simp only [List.map_toArray, List.map_cons, List.map_nil]); first | done | rfl | (simp only [List.length_drop, List.length_take]; rfl)) ?_
                                        with_reducible refine (ostinatoref1_FromBytes.calls x103003_7 t106 _ A21.out).mono ?_
                                        rintro e w79 ⟨rfl, hb⟩
                                        refine ⟨_, rfl, ?_⟩
                                        have n0_ := Aside0.mk (blk_below (g := gb102) (o := .cells #[.bool false, .int .u32 (Int.tmod a0 2048), .bool a1, .string x103003_7] 24 (0, 0)) (by (with_reducible repeat (first | refine blk_drewN ?_ _ | refine blk_drew ?_ | refine blk_alloc ?_ _)); exact BK102.out) hb)
                                        have n1_ := Aside0.mk (blk_below (g := gb103) (o := .cells #[.bool true, .int .u32 (Int.tmod a0 536870912), .bool a1, .string x104003_7] 24 (0, 0)) (by (with_reducible repeat (first | refine blk_drewN ?_ _ | refine blk_drew ?_ | refine blk_alloc ?_ _)); exact BK103.out) hb)
                                        have n2_ := Aside0.mk (below_step (by repeat (first | (with_reducible first | exact HB.out | apply below_alloc | apply pw_below_drewN | apply below_drew1 | refine below_set ?_ GE102.out | refine below_set ?_ GE103.out) | exact HB.out)) hb)
                                        clear BK102
                                        clear BK103
                                        clear HB
                                        have BK102 := n0_
                                        have BK103 := n1_
                                        have HB := n2_
                                        clear n0_ n1_ n2_
                                        (try clear hb)
                                        (try clear hb2)
                                        (try clear hk)
                                        (try clear hi)
                                        refine hK.out _ _ ⟨(blk_cell BK102.out 0).trans rfl, (blk_cell BK102.out 1).trans rfl, (blk_cell BK102.out 2).trans rfl, (blk_cell BK102.out 3).trans rfl⟩ (fun hHeld => ?_)
                                        clear hK K
                                        refine norm_ (a' := ?_) ?_ ?_
                                        rotate_left
                                        · show Act.put _ (some 41) _ = _
                                          simp only [Act.put, List.setIfInBounds_toArray, List.set_cons_zero, List.set_cons_succ, i64_w, i32_w]
                                          rfl
                                        refine pure_ (i := 8) (N := some 42) (v := ?_) (a' := ?_) #[true, true, true, true, true, true, true, true, true, false] rfl rfl (any_of HT_.out (by kernel_rfl)) (fun _ _ _ h => h) (Or.inl ⟨by rfl, ?_⟩) ?_ ?_
                                        rotate_left
                                        · intro w'
                                          go_simp
                                          with_reducible rfl
                                        rotate_left
                                        · simp only [Act.put, List.setIfInBounds_toArray, List.set_cons_zero, List.set_cons_succ, i64_w, i32_w]
                                          rfl
                                        refine pure_ (i := 9) (N := some 10) (v := ?_) (a' := ?_) #[true, true, true, true, true, true, true, true, true, true] rfl rfl (any_of HT_.out (by kernel_rfl)) (fun _ _ _ h => h) (Or.inl ⟨by rfl, ?_⟩) ?_ ?_
                                        rotate_left
                                        · intro w'
                                          go_simp
                                          with_reducible rfl
                                        rotate_left
                                        · simp only [Act.put, List.setIfInBounds_toArray, List.set_cons_zero, List.set_cons_succ, i64_w, i32_w]
                                          rfl
                                        refine done_ (done_of HT_.out (by kernel_rfl)) ?_
                                        have hnb80 := NB102_103.out
                                        have hnc80 := NB103_102.out
                                        have hcz81_0 : w79.cell? ⟨gb102, 0, none⟩ = some (.bool false) := (blk_cell BK102.out 0).trans rfl
                                        have hcz81_1 : w79.cell? ⟨gb102, 1, none⟩ = some (.int .u32 (Int.tmod a0 2048)) := (blk_cell BK102.out 1).trans rfl
                                        have hcz81_2 : w79.cell? ⟨gb102, 2, none⟩ = some (.bool a1) := (blk_cell BK102.out 2).trans rfl
                                        have hcz81_3 : w79.cell? ⟨gb102, 3, none⟩ = some (.string x103003_7) := (blk_cell BK102.out 3).trans rfl
                                        have hfz81_0 := blk_frozen BK102.out 0
                                        have hfz81_1 := blk_frozen BK102.out 1
                                        have hfz81_2 := blk_frozen BK102.out 2
                                        have hfz81_3 := blk_frozen BK102.out 3
                                        try go_wp2_with (first | ((with_reducible refine gate_callee (f := 27) rfl ?_); refine goesL_ (some 46) rfl rfl Try.func27 (by kernel_rfl) rfl #[.int .u64 (IntKind.u64.wrap ((Int.tmod a0 2048))), .int .i64 11] rfl (by (try simp only [List.map_toArray, List.map_cons, List.map_nil]); first | done | rfl | (simp only [List.length_drop, List.length_take]; rfl)) ?_; (with_reducible refine (ostinatoref1_Of.calls (IntKind.u64.wrap ((Int.tmod a0 2048))) 11 t107 _ A23.out).mono ?_); rintro e w82 ⟨rfl, hb⟩; refine ⟨_, rfl, ?_⟩; have n0_ := Aside0.mk (blk_below (g := gb102) (o := .cells #[.bool false, .int .u32 (Int.tmod a0 2048), .bool a1, .string x103003_7] 24 (0, 0)) (by (with_reducible repeat (first | refine blk_drewN ?_ _ | refine blk_drew ?_ | refine blk_alloc ?_ _)); exact BK102.out) hb); have n1_ := Aside0.mk (blk_below (g := gb103) (o := .cells #[.bool true, .int .u32 (Int.tmod a0 536870912), .bool a1, .string x104003_7] 24 (0, 0)) (by (with_reducible repeat (first | refine blk_drewN ?_ _ | refine blk_drew ?_ | refine blk_alloc ?_ _)); exact BK103.out) hb); have n2_ := Aside0.mk (below_step (by repeat (first | (with_reducible first | exact HB.out | apply below_alloc | apply pw_below_drewN | apply below_drew1 | refine below_set ?_ GE102.out | refine below_set ?_ GE103.out) | exact HB.out)) hb); clear BK102; clear BK103; clear HB; have BK102 := n0_; have BK103 := n1_; have HB := n2_; clear n0_ n1_ n2_; (try clear hb); (try clear hb2); (try clear hk); (try clear hi); have hcz83_0 : w82.cell? ⟨gb103, 0, none⟩ = some (.bool true) := (blk_cell BK103.out 0).trans rfl; have hcz83_1 : w82.cell? ⟨gb103, 1, none⟩ = some (.int .u32 (Int.tmod a0 536870912)) := (blk_cell BK103.out 1).trans rfl; have hcz83_2 : w82.cell? ⟨gb103, 2, none⟩ = some (.bool a1) := (blk_cell BK103.out 2).trans rfl; have hcz83_3 : w82.cell? ⟨gb103, 3, none⟩ = some (.string x104003_7) := (blk_cell BK103.out 3).trans rfl; have hfz83_0 := blk_frozen BK103.out 0; have hfz83_1 := blk_frozen BK103.out 1; have hfz83_2 := blk_frozen BK103.out 2; have hfz83_3 := blk_frozen BK103.out 3) | ((with_reducible refine gate_callee (f := 27) rfl ?_); refine goesL_ (some 56) rfl rfl Try.func27 (by kernel_rfl) rfl #[.int .u64 (IntKind.u64.wrap ((Int.tmod a0 536870912))), .int .i64 29] rfl (by (try simp only [List.map_toArray, List.map_cons, List.map_nil]); first | done | rfl | (simp only [List.length_drop, List.length_take]; rfl)) ?_; (with_reducible refine (ostinatoref1_Of.calls (IntKind.u64.wrap ((Int.tmod a0 536870912))) 29 t108 _ A28.out).mono ?_); rintro e w84 ⟨rfl, hb⟩; refine ⟨_, rfl, ?_⟩; have n0_ := Aside0.mk (blk_below (g := gb102) (o := .cells #[.bool false, .int .u32 (Int.tmod a0 2048), .bool a1, .string x103003_7] 24 (0, 0)) (by (with_reducible repeat (first | refine blk_drewN ?_ _ | refine blk_drew ?_ | refine blk_alloc ?_ _)); exact BK102.out) hb); have n1_ := Aside0.mk (blk_below (g := gb103) (o := .cells #[.bool true, .int .u32 (Int.tmod a0 536870912), .bool a1, .string x104003_7] 24 (0, 0)) (by (with_reducible repeat (first | refine blk_drewN ?_ _ | refine blk_drew ?_ | refine blk_alloc ?_ _)); exact BK103.out) hb); have n2_ := Aside0.mk (below_step (by repeat (first | (with_reducible first | exact HB.out | apply below_alloc | apply pw_below_drewN | apply below_drew1 | refine below_set ?_ GE102.out | refine below_set ?_ GE103.out) | exact HB.out)) hb); clear BK102; clear BK103; clear HB; have BK102 := n0_; have BK103 := n1_; have HB := n2_; clear n0_ n1_ n2_; (try clear hb); (try clear hb2); (try clear hk); (try clear hi)))
                                        have n0_ := Aside0.mk (blk_drew BK102.out)
                                        have n1_ := Aside0.mk (blk_drew BK103.out)
                                        have n2_ := Aside0.mk (below_drew1 HB.out)
                                        clear BK102
                                        clear BK103
                                        clear HB
                                        have BK102 := n0_
                                        have BK103 := n1_
                                        have HB := n2_
                                        clear n0_ n1_ n2_
                                        refine start_ (n := 13) (S := fun w' => True) (ds := []) #[false, false, false, false, false, false, false, false, false, false, false, false, false] (by kernel_rfl) rfl rfl trivial (fun hHeld => ?_); refine with_tabW ostinatolaw3_FrameFields.tab13 ostinatolaw3_FrameFields.bits13 (fun HT_ HW_ => ?_)
                                        generalize w84.drew = w85 at BK102 BK103 HB hHeld ⊢
                                        refine pure_ (i := 0) (N := some 57) (v := ?_) (a' := ?_) #[true, false, false, false, false, false, false, false, false, false, false, false, false] rfl rfl (any_of HT_.out (by kernel_rfl)) (fun _ _ _ h => h) (Or.inl ⟨by rfl, ?_⟩) ?_ ?_
                                        rotate_left
                                        · intro w'
                                          go_simp
                                          with_reducible rfl
                                        rotate_left
                                        · simp only [Act.put, List.setIfInBounds_toArray, List.set_cons_zero, List.set_cons_succ, i64_w, i32_w]
                                          rfl
                                        refine pure_ (i := 1) (N := some 58) (v := ?_) (a' := ?_) #[true, true, false, false, false, false, false, false, false, false, false, false, false] rfl rfl (any_of HT_.out (by kernel_rfl)) (fun _ _ _ h => h) (Or.inl ⟨by rfl, ?_⟩) ?_ ?_
                                        rotate_left
                                        · intro w'
                                          go_simp
                                          with_reducible rfl
                                        rotate_left
                                        · simp only [Act.put, List.setIfInBounds_toArray, List.set_cons_zero, List.set_cons_succ, i64_w, i32_w]
                                          rfl
                                        refine pure_ (i := 2) (N := some 59) (v := ?_) (a' := ?_) #[true, true, true, false, false, false, false, false, false, false, false, false, false] rfl rfl (any_of HT_.out (by kernel_rfl)) (fun _ _ _ h => h) (Or.inl ⟨by rfl, ?_⟩) ?_ ?_
                                        rotate_left
                                        · intro w'
                                          go_simp
                                          with_reducible rfl
                                        rotate_left
                                        · simp only [Act.put, List.setIfInBounds_toArray, List.set_cons_zero, List.set_cons_succ, i64_w, i32_w]
                                          rfl
                                        refine pure_ (i := 3) (N := some 60) (v := ?_) (a' := ?_) #[true, true, true, true, false, false, false, false, false, false, false, false, false] rfl rfl (any_of HT_.out (by kernel_rfl)) (fun _ _ _ h => h) (Or.inl ⟨by rfl, ?_⟩) ?_ ?_
                                        rotate_left
                                        · intro w'
                                          go_simp
                                          with_reducible rfl
                                        rotate_left
                                        · simp only [Act.put, List.setIfInBounds_toArray, List.set_cons_zero, List.set_cons_succ, i64_w, i32_w]
                                          rfl
                                        refine pure_ (i := 4) (N := some 61) (v := ?_) (a' := ?_) #[true, true, true, true, true, false, false, false, false, false, false, false, false] rfl rfl (any_of HT_.out (by kernel_rfl)) (fun _ _ _ h => h) (Or.inl ⟨by rfl, ?_⟩) ?_ ?_
                                        rotate_left
                                        · intro w'
                                          go_simp
                                          with_reducible rfl
                                        rotate_left
                                        · simp only [Act.put, List.setIfInBounds_toArray, List.set_cons_zero, List.set_cons_succ, i64_w, i32_w]
                                          rfl
                                        refine pure_ (i := 5) (N := some 62) (v := ?_) (a' := ?_) #[true, true, true, true, true, true, false, false, false, false, false, false, false] rfl rfl (any_of HT_.out (by kernel_rfl)) (fun _ _ _ h => h) (Or.inl ⟨by rfl, ?_⟩) ?_ ?_
                                        rotate_left
                                        · intro w'
                                          go_simp
                                          with_reducible rfl
                                        rotate_left
                                        · simp only [Act.put, List.setIfInBounds_toArray, List.set_cons_zero, List.set_cons_succ, i64_w, i32_w]
                                          rfl
                                        refine pure_ (i := 6) (N := some 63) (v := ?_) (a' := ?_) #[true, true, true, true, true, true, true, false, false, false, false, false, false] rfl rfl (any_of HT_.out (by kernel_rfl)) (fun _ _ _ h => h) (Or.inl ⟨by rfl, ?_⟩) ?_ ?_
                                        rotate_left
                                        · intro w'
                                          go_simp
                                          with_reducible rfl
                                        rotate_left
                                        · simp only [Act.put, List.setIfInBounds_toArray, List.set_cons_zero, List.set_cons_succ, i64_w, i32_w]
                                          rfl
                                        refine pure_ (i := 7) (N := some 64) (v := ?_) (a' := ?_) #[true, true, true, true, true, true, true, true, false, false, false, false, false] rfl rfl (any_of HT_.out (by kernel_rfl)) (fun _ _ _ h => h) (Or.inl ⟨by rfl, ?_⟩) ?_ ?_
                                        rotate_left
                                        · intro w'
                                          go_simp
                                          with_reducible rfl
                                        rotate_left
                                        · simp only [Act.put, List.setIfInBounds_toArray, List.set_cons_zero, List.set_cons_succ, i64_w, i32_w]
                                          rfl
                                        refine pure_ (i := 8) (N := some 65) (v := ?_) (a' := ?_) #[true, true, true, true, true, true, true, true, true, false, false, false, false] rfl rfl (any_of HT_.out (by kernel_rfl)) (fun _ _ _ h => h) (Or.inl ⟨by rfl, ?_⟩) ?_ ?_
                                        rotate_left
                                        · intro w'
                                          go_simp
                                          with_reducible rfl
                                        rotate_left
                                        · simp only [Act.put, List.setIfInBounds_toArray, List.set_cons_zero, List.set_cons_succ, i64_w, i32_w]
                                          rfl
                                        refine pure_ (i := 9) (N := some 66) (v := ?_) (a' := ?_) #[true, true, true, true, true, true, true, true, true, true, false, false, false] rfl rfl (any_of HT_.out (by kernel_rfl)) (fun _ _ _ h => h) (Or.inl ⟨by rfl, ?_⟩) ?_ ?_
                                        rotate_left
                                        · intro w'
                                          go_simp
                                          with_reducible rfl
                                        rotate_left
                                        · simp only [Act.put, List.setIfInBounds_toArray, List.set_cons_zero, List.set_cons_succ, i64_w, i32_w]
                                          rfl
                                        refine pure_ (i := 10) (N := some 67) (v := ?_) (a' := ?_) #[true, true, true, true, true, true, true, true, true, true, true, false, false] rfl rfl (any_of HT_.out (by kernel_rfl)) (fun _ _ _ h => h) (Or.inl ⟨by rfl, ?_⟩) ?_ ?_
                                        rotate_left
                                        · intro w'
                                          go_simp
                                          with_reducible rfl
                                        rotate_left
                                        · simp only [Act.put, List.setIfInBounds_toArray, List.set_cons_zero, List.set_cons_succ, i64_w, i32_w]
                                          rfl
                                        refine pure_ (i := 11) (N := some 68) (v := ?_) (a' := ?_) #[true, true, true, true, true, true, true, true, true, true, true, true, false] rfl rfl (any_of HT_.out (by kernel_rfl)) (fun _ _ _ h => h) (Or.inl ⟨by rfl, ?_⟩) ?_ ?_
                                        rotate_left
                                        · intro w'
                                          go_simp
                                          with_reducible rfl
                                        rotate_left
                                        · simp only [Act.put, List.setIfInBounds_toArray, List.set_cons_zero, List.set_cons_succ, i64_w, i32_w]
                                          rfl
                                        refine pure_ (i := 12) (N := some 13) (v := ?_) (a' := ?_) #[true, true, true, true, true, true, true, true, true, true, true, true, true] rfl rfl (any_of HT_.out (by kernel_rfl)) (fun _ _ _ h => h) (Or.inl ⟨by rfl, ?_⟩) ?_ ?_
                                        rotate_left
                                        · intro w'
                                          go_simp
                                          with_reducible rfl
                                        rotate_left
                                        · simp only [Act.put, List.setIfInBounds_toArray, List.set_cons_zero, List.set_cons_succ, i64_w, i32_w]
                                          rfl
                                        refine done_ (done_of HT_.out (by kernel_rfl)) ?_
                                        have hcz86_0 : w85.cell? ⟨gb102, 0, none⟩ = some (.bool false) := (blk_cell BK102.out 0).trans rfl
                                        have hcz86_1 : w85.cell? ⟨gb102, 1, none⟩ = some (.int .u32 (Int.tmod a0 2048)) := (blk_cell BK102.out 1).trans rfl
                                        have hcz86_2 : w85.cell? ⟨gb102, 2, none⟩ = some (.bool a1) := (blk_cell BK102.out 2).trans rfl
                                        have hcz86_3 : w85.cell? ⟨gb102, 3, none⟩ = some (.string x103003_7) := (blk_cell BK102.out 3).trans rfl
                                        have hfz86_0 := blk_frozen BK102.out 0
                                        have hfz86_1 := blk_frozen BK102.out 1
                                        have hfz86_2 := blk_frozen BK102.out 2
                                        have hfz86_3 := blk_frozen BK102.out 3
                                        try go_wp2_with (first | ((with_reducible refine gate_callee (f := 15) rfl ?_); refine goesL_ (some 70) rfl rfl Try.func15 (by kernel_rfl) rfl #[.agg #[.bool false, .int .u32 (Int.tmod a0 2048), .bool a1, .string x103003_7]] rfl (by (try simp only [List.map_toArray, List.map_cons, List.map_nil]); first | done | rfl | (simp only [List.length_drop, List.length_take]; rfl)) ?_; (with_reducible refine (frame_Body.calls false (Int.tmod a0 2048) a1 x103003_7 t109 _ A38.out).mono ?_); rintro e w87 ⟨rfl, hb⟩; refine ⟨_, rfl, ?_⟩; have n0_ := Aside0.mk (blk_below (g := gb102) (o := .cells #[.bool false, .int .u32 (Int.tmod a0 2048), .bool a1, .string x103003_7] 24 (0, 0)) (by (with_reducible repeat (first | refine blk_drewN ?_ _ | refine blk_drew ?_ | refine blk_alloc ?_ _)); exact BK102.out) hb); have n1_ := Aside0.mk (blk_below (g := gb103) (o := .cells #[.bool true, .int .u32 (Int.tmod a0 536870912), .bool a1, .string x104003_7] 24 (0, 0)) (by (with_reducible repeat (first | refine blk_drewN ?_ _ | refine blk_drew ?_ | refine blk_alloc ?_ _)); exact BK103.out) hb); have n2_ := Aside0.mk (below_step (by repeat (first | (with_reducible first | exact HB.out | apply below_alloc | apply pw_below_drewN | apply below_drew1 | refine below_set ?_ GE102.out | refine below_set ?_ GE103.out) | exact HB.out)) hb); clear BK102; clear BK103; clear HB; have BK102 := n0_; have BK103 := n1_; have HB := n2_; clear n0_ n1_ n2_; (try clear hb); (try clear hb2); (try clear hk); (try clear hi); have hcz88_0 : w87.cell? ⟨gb103, 0, none⟩ = some (.bool true) := (blk_cell BK103.out 0).trans rfl; have hcz88_1 : w87.cell? ⟨gb103, 1, none⟩ = some (.int .u32 (Int.tmod a0 536870912)) := (blk_cell BK103.out 1).trans rfl; have hcz88_2 : w87.cell? ⟨gb103, 2, none⟩ = some (.bool a1) := (blk_cell BK103.out 2).trans rfl; have hcz88_3 : w87.cell? ⟨gb103, 3, none⟩ = some (.string x104003_7) := (blk_cell BK103.out 3).trans rfl; have hfz88_0 := blk_frozen BK103.out 0; have hfz88_1 := blk_frozen BK103.out 1; have hfz88_2 := blk_frozen BK103.out 2; have hfz88_3 := blk_frozen BK103.out 3) | (go_at_call 15; (with_reducible refine (frame_Body.calls true (Int.tmod a0 536870912) a1 x104003_7 t110 _ A40.out).mono ?_); rintro e w89 ⟨rfl, hb⟩; have n0_ := Aside0.mk (blk_below (g := gb102) (o := .cells #[.bool false, .int .u32 (Int.tmod a0 2048), .bool a1, .string x103003_7] 24 (0, 0)) (by (with_reducible repeat (first | refine blk_drewN ?_ _ | refine blk_drew ?_ | refine blk_alloc ?_ _)); exact BK102.out) hb); have n1_ := Aside0.mk (blk_below (g := gb103) (o := .cells #[.bool true, .int .u32 (Int.tmod a0 536870912), .bool a1, .string x104003_7] 24 (0, 0)) (by (with_reducible repeat (first | refine blk_drewN ?_ _ | refine blk_drew ?_ | refine blk_alloc ?_ _)); exact BK103.out) hb); have n2_ := Aside0.mk (below_step (by repeat (first | (with_reducible first | exact HB.out | apply below_alloc | apply pw_below_drewN | apply below_drew1 | refine below_set ?_ GE102.out | refine below_set ?_ GE103.out) | exact HB.out)) hb); clear BK102; clear BK103; clear HB; have BK102 := n0_; have BK103 := n1_; have HB := n2_; clear n0_ n1_ n2_; (try clear hb); (try clear hb2); (try clear hk); (try clear hi)))
                                        go_ret
                                        exact ⟨by first | rfl | (simp [errW_none, errW_some] <;> rfl) | (simp [*, errW_none, errW_some] <;> rfl), by repeat (first | (with_reducible first | exact HB.out | apply below_alloc | apply pw_below_drewN | apply below_drew1 | refine below_set ?_ GE102.out | refine below_set ?_ GE103.out) | exact HB.out)⟩
                                    · rw [if_neg c39] at H
                                      have c39b0 : (t109.toList == (((((⟨#[48]⟩ : ByteArray) ++ t107) ++ t104) ++ (⟨#[48, 48]⟩ : ByteArray)) ++ (t105 ++ t106)).toList) = false := beq_eq_false_iff_ne.mpr c39
                                      have c39b1 : (t109.toList != (((((⟨#[48]⟩ : ByteArray) ++ t107) ++ t104) ++ (⟨#[48, 48]⟩ : ByteArray)) ++ (t105 ++ t106)).toList) = true := bne_iff_ne.mpr c39
                                      obtain rfl := Option.some.inj H
                                      try go_wp2_with (first | ((with_reducible refine gate_callee (f := 26) rfl ?_); refine goesL_ (some 33) rfl rfl Try.func26 (by kernel_rfl) rfl #[.bool a1] rfl (by (try simp only [List.map_toArray, List.map_cons, List.map_nil]); first | done | rfl | (simp only [List.length_drop, List.length_take]; rfl)) ?_; (with_reducible refine (ostinatoref1_Bit.calls a1 t104 _ A19.out).mono ?_); rintro e w' ⟨rfl, ⟨nd, rfl⟩⟩; refine ⟨_, rfl, ?_⟩))
                                      (try (rw [drewN_self wc]; generalize hq_ : World.drewN wc _ = wc; have n0_ : Aside0 (wc.heap[gb102]? = some (.cells #[.bool false, .int .u32 (Int.tmod a0 2048), .bool a1, .string x103003_7] 24 (0, 0))) := ⟨by rw [← hq_]; exact (by (with_reducible repeat (first | refine blk_drewN ?_ _ | refine blk_drew ?_ | refine blk_alloc ?_ _)); exact BK102.out)⟩; have n1_ : Aside0 (wc.heap[gb103]? = some (.cells #[.bool true, .int .u32 (Int.tmod a0 536870912), .bool a1, .string x104003_7] 24 (0, 0))) := ⟨by rw [← hq_]; exact (by (with_reducible repeat (first | refine blk_drewN ?_ _ | refine blk_drew ?_ | refine blk_alloc ?_ _)); exact BK103.out)⟩; have n2_ : Aside0 (Below w.heap.size w wc) := ⟨by rw [← hq_]; exact (by repeat (first | (with_reducible first | exact HB.out | apply below_alloc | apply pw_below_drewN | apply below_drew1 | refine below_set ?_ GE102.out | refine below_set ?_ GE103.out) | exact HB.out))⟩; clear BK102 BK103 HB hq_; have BK102 := n0_; have BK103 := n1_; have HB := n2_; clear n0_ n1_ n2_))
                                      have n0_ := Aside0.mk (blk_drew BK102.out)
                                      have n1_ := Aside0.mk (blk_drew BK103.out)
                                      have n2_ := Aside0.mk (below_drew1 HB.out)
                                      clear BK102
                                      clear BK103
                                      clear HB
                                      have BK102 := n0_
                                      have BK103 := n1_
                                      have HB := n2_
                                      clear n0_ n1_ n2_
                                      refine start_ (n := 10) (S := fun w' => w'.cell? ⟨gb102, 0, none⟩ = some (.bool false) ∧ w'.cell? ⟨gb102, 1, none⟩ = some (.int .u32 (Int.tmod a0 2048)) ∧ w'.cell? ⟨gb102, 2, none⟩ = some (.bool a1) ∧ w'.cell? ⟨gb102, 3, none⟩ = some (.string x103003_7)) (ds := []) #[false, false, false, false, false, false, false, false, false, false] (by kernel_rfl) rfl rfl ⟨(blk_cell BK102.out 0).trans rfl, (blk_cell BK102.out 1).trans rfl, (blk_cell BK102.out 2).trans rfl, (blk_cell BK102.out 3).trans rfl⟩ (fun hHeld => ?_); refine with_tabW ostinatolaw3_FrameFields.tab10 ostinatolaw3_FrameFields.bits10 (fun HT_ HW_ => ?_)
                                      generalize wc.drew = w90 at BK102 BK103 HB hHeld ⊢
                                      refine pure_ (i := 0) (N := some 34) (v := ?_) (a' := ?_) #[true, false, false, false, false, false, false, false, false, false] rfl rfl (any_of HT_.out (by kernel_rfl)) (fun _ _ _ h => h) (Or.inl ⟨by rfl, ?_⟩) ?_ ?_
                                      rotate_left
                                      · intro w'
                                        go_simp
                                        with_reducible rfl
                                      rotate_left
                                      · simp only [Act.put, List.setIfInBounds_toArray, List.set_cons_zero, List.set_cons_succ, i64_w, i32_w]
                                        rfl
                                      refine pure_ (i := 5) (N := some 39) (v := ?_) (a' := ?_) #[true, false, false, false, false, true, false, false, false, false] rfl rfl (any_of HT_.out (by kernel_rfl)) (fun _ _ _ h => h) (Or.inl ⟨by rfl, ?_⟩) ?_ ?_
                                      rotate_left
                                      · intro w'
                                        go_simp
                                        with_reducible rfl
                                      rotate_left
                                      · simp only [Act.put, List.setIfInBounds_toArray, List.set_cons_zero, List.set_cons_succ, i64_w, i32_w]
                                        rfl
                                      refine take_ (i := 1) (N := some 35) (v := ?_) (a' := ?_) #[true, true, false, false, false, true, false, false, false, false] rfl rfl (take_ofW HT_.out HW_.out (by kernel_rfl)) (fun _ _ _ h => h) (Or.inl ⟨by rfl, ?_⟩) hHeld ?_ ?_
                                      rotate_left
                                      · rintro w' ⟨s0, s1, s2, s3⟩
                                        go_simp
                                        with_reducible rfl
                                      rotate_left
                                      · simp only [Act.put, List.setIfInBounds_toArray, List.set_cons_zero, List.set_cons_succ, i64_w, i32_w]
                                        rfl
                                      refine pure_ (i := 2) (N := some 36) (v := ?_) (a' := ?_) #[true, true, true, false, false, true, false, false, false, false] rfl rfl (any_of HT_.out (by kernel_rfl)) (fun _ _ _ h => h) (Or.inl ⟨by rfl, ?_⟩) ?_ ?_
                                      rotate_left
                                      · intro w'
                                        go_simp
                                        with_reducible rfl
                                      rotate_left
                                      · simp only [Act.put, List.setIfInBounds_toArray, List.set_cons_zero, List.set_cons_succ, i64_w, i32_w]
                                        rfl
                                      refine pure_ (i := 3) (N := some 37) (v := ?_) (a' := ?_) #[true, true, true, true, false, true, false, false, false, false] rfl rfl (any_of HT_.out (by kernel_rfl)) (fun _ _ _ h => h) (Or.inl ⟨by rfl, ?_⟩) ?_ ?_
                                      rotate_left
                                      · intro w'
                                        go_simp
                                        with_reducible rfl
                                      rotate_left
                                      · simp only [Act.put, List.setIfInBounds_toArray, List.set_cons_zero, List.set_cons_succ, i64_w, i32_w]
                                        rfl
                                      refine take_ (i := 6) (N := some 40) (v := ?_) (a' := ?_) #[true, true, true, true, false, true, true, false, false, false] rfl rfl (take_ofW HT_.out HW_.out (by kernel_rfl)) (fun _ _ _ h => h) (Or.inl ⟨by rfl, ?_⟩) hHeld ?_ ?_
                                      rotate_left
                                      · rintro w' ⟨s0, s1, s2, s3⟩
                                        go_simp
                                        with_reducible rfl
                                      rotate_left
                                      · simp only [Act.put, List.setIfInBounds_toArray, List.set_cons_zero, List.set_cons_succ, i64_w, i32_w]
                                        rfl
                                      refine one_ (i := 4) (N := some 38) #[true, true, true, true, true, true, true, false, false, false] rfl rfl (one_of HT_.out (by kernel_rfl)) (by decide) (fun K hK => ?_)
                                      refine goes_ Try.func27 (by kernel_rfl) rfl #[.int .u64 (IntKind.u64.wrap ((x103003_7.size : Int))), .int .i64 4] (by rfl) rfl rfl (by (try simp only [List.map_toArray, List.map_cons, List.map_nil]); first | done | rfl | (simp only [List.length_drop, List.length_take]; rfl)) ?_
                                      with_reducible refine (ostinatoref1_Of.calls (IntKind.u64.wrap ((x103003_7.size : Int))) 4 t105 _ A20.out).mono ?_
                                      rintro e w91 ⟨rfl, hb⟩
                                      refine ⟨_, rfl, ?_⟩
                                      have n0_ := Aside0.mk (blk_below (g := gb102) (o := .cells #[.bool false, .int .u32 (Int.tmod a0 2048), .bool a1, .string x103003_7] 24 (0, 0)) (by (with_reducible repeat (first | refine blk_drewN ?_ _ | refine blk_drew ?_ | refine blk_alloc ?_ _)); exact BK102.out) hb)
                                      have n1_ := Aside0.mk (blk_below (g := gb103) (o := .cells #[.bool true, .int .u32 (Int.tmod a0 536870912), .bool a1, .string x104003_7] 24 (0, 0)) (by (with_reducible repeat (first | refine blk_drewN ?_ _ | refine blk_drew ?_ | refine blk_alloc ?_ _)); exact BK103.out) hb)
                                      have n2_ := Aside0.mk (below_step (by repeat (first | (with_reducible first | exact HB.out | apply below_alloc | apply pw_below_drewN | apply below_drew1 | refine below_set ?_ GE102.out | refine below_set ?_ GE103.out) | exact HB.out)) hb)
                                      clear BK102
                                      clear BK103
                                      clear HB
                                      have BK102 := n0_
                                      have BK103 := n1_
                                      have HB := n2_
                                      clear n0_ n1_ n2_
                                      (try clear hb)
                                      (try clear hb2)
                                      (try clear hk)
                                      (try clear hi)
                                      refine hK.out _ _ ⟨(blk_cell BK102.out 0).trans rfl, (blk_cell BK102.out 1).trans rfl, (blk_cell BK102.out 2).trans rfl, (blk_cell BK102.out 3).trans rfl⟩ (fun hHeld => ?_)
                                      clear hK K
                                      refine norm_ (a' := ?_) ?_ ?_
                                      rotate_left
                                      · show Act.put _ (some 38) _ = _
                                        simp only [Act.put, List.setIfInBounds_toArray, List.set_cons_zero, List.set_cons_succ, i64_w, i32_w]
                                        rfl
                                      refine one_ (i := 7) (N := some 41) #[true, true, true, true, true, true, true, true, false, false] rfl rfl (one_of HT_.out (by kernel_rfl)) (by decide) (fun K hK => ?_)
                                      refine goes_ Try.func28 (by kernel_rfl) rfl #[.string x103003_7] (by rfl) rfl rfl (by (try simp only [List.map_toArray, List.map_cons, List.map_nil]); first | done | rfl | (simp only [List.length_drop, List.length_take]; rfl)) ?_
                                      with_reducible refine (ostinatoref1_FromBytes.calls x103003_7 t106 _ A21.out).mono ?_
                                      rintro e w92 ⟨rfl, hb⟩
                                      refine ⟨_, rfl, ?_⟩
                                      have n0_ := Aside0.mk (blk_below (g := gb102) (o := .cells #[.bool false, .int .u32 (Int.tmod a0 2048), .bool a1, .string x103003_7] 24 (0, 0)) (by (with_reducible repeat (first | refine blk_drewN ?_ _ | refine blk_drew ?_ | refine blk_alloc ?_ _)); exact BK102.out) hb)
                                      have n1_ := Aside0.mk (blk_below (g := gb103) (o := .cells #[.bool true, .int .u32 (Int.tmod a0 536870912), .bool a1, .string x104003_7] 24 (0, 0)) (by (with_reducible repeat (first | refine blk_drewN ?_ _ | refine blk_drew ?_ | refine blk_alloc ?_ _)); exact BK103.out) hb)
                                      have n2_ := Aside0.mk (below_step (by repeat (first | (with_reducible first | exact HB.out | apply below_alloc | apply pw_below_drewN | apply below_drew1 | refine below_set ?_ GE102.out | refine below_set ?_ GE103.out) | exact HB.out)) hb)
                                      clear BK102
                                      clear BK103
                                      clear HB
                                      have BK102 := n0_
                                      have BK103 := n1_
                                      have HB := n2_
                                      clear n0_ n1_ n2_
                                      (try clear hb)
                                      (try clear hb2)
                                      (try clear hk)
                                      (try clear hi)
                                      refine hK.out _ _ ⟨(blk_cell BK102.out 0).trans rfl, (blk_cell BK102.out 1).trans rfl, (blk_cell BK102.out 2).trans rfl, (blk_cell BK102.out 3).trans rfl⟩ (fun hHeld => ?_)
                                      clear hK K
                                      refine norm_ (a' := ?_) ?_ ?_
                                      rotate_left
                                      · show Act.put _ (some 41) _ = _
                                        simp only [Act.put, List.setIfInBounds_toArray, List.set_cons_zero, List.set_cons_succ, i64_w, i32_w]
                                        rfl
                                      refine pure_ (i := 8) (N := some 42) (v := ?_) (a' := ?_) #[true, true, true, true, true, true, true, true, true, false] rfl rfl (any_of HT_.out (by kernel_rfl)) (fun _ _ _ h => h) (Or.inl ⟨by rfl, ?_⟩) ?_ ?_
                                      rotate_left
                                      · intro w'
                                        go_simp
                                        with_reducible rfl
                                      rotate_left
                                      · simp only [Act.put, List.setIfInBounds_toArray, List.set_cons_zero, List.set_cons_succ, i64_w, i32_w]
                                        rfl
                                      refine pure_ (i := 9) (N := some 10) (v := ?_) (a' := ?_) #[true, true, true, true, true, true, true, true, true, true] rfl rfl (any_of HT_.out (by kernel_rfl)) (fun _ _ _ h => h) (Or.inl ⟨by rfl, ?_⟩) ?_ ?_
                                      rotate_left
                                      · intro w'
                                        go_simp
                                        with_reducible rfl
                                      rotate_left
                                      · simp only [Act.put, List.setIfInBounds_toArray, List.set_cons_zero, List.set_cons_succ, i64_w, i32_w]
                                        rfl
                                      refine done_ (done_of HT_.out (by kernel_rfl)) ?_
                                      have hnb93 := NB102_103.out
                                      have hnc93 := NB103_102.out
                                      have hcz94_0 : w92.cell? ⟨gb102, 0, none⟩ = some (.bool false) := (blk_cell BK102.out 0).trans rfl
                                      have hcz94_1 : w92.cell? ⟨gb102, 1, none⟩ = some (.int .u32 (Int.tmod a0 2048)) := (blk_cell BK102.out 1).trans rfl
                                      have hcz94_2 : w92.cell? ⟨gb102, 2, none⟩ = some (.bool a1) := (blk_cell BK102.out 2).trans rfl
                                      have hcz94_3 : w92.cell? ⟨gb102, 3, none⟩ = some (.string x103003_7) := (blk_cell BK102.out 3).trans rfl
                                      have hfz94_0 := blk_frozen BK102.out 0
                                      have hfz94_1 := blk_frozen BK102.out 1
                                      have hfz94_2 := blk_frozen BK102.out 2
                                      have hfz94_3 := blk_frozen BK102.out 3
                                      try go_wp2_with (first | ((with_reducible refine gate_callee (f := 27) rfl ?_); refine goesL_ (some 46) rfl rfl Try.func27 (by kernel_rfl) rfl #[.int .u64 (IntKind.u64.wrap ((Int.tmod a0 2048))), .int .i64 11] rfl (by (try simp only [List.map_toArray, List.map_cons, List.map_nil]); first | done | rfl | (simp only [List.length_drop, List.length_take]; rfl)) ?_; (with_reducible refine (ostinatoref1_Of.calls (IntKind.u64.wrap ((Int.tmod a0 2048))) 11 t107 _ A23.out).mono ?_); rintro e w95 ⟨rfl, hb⟩; refine ⟨_, rfl, ?_⟩; have n0_ := Aside0.mk (blk_below (g := gb102) (o := .cells #[.bool false, .int .u32 (Int.tmod a0 2048), .bool a1, .string x103003_7] 24 (0, 0)) (by (with_reducible repeat (first | refine blk_drewN ?_ _ | refine blk_drew ?_ | refine blk_alloc ?_ _)); exact BK102.out) hb); have n1_ := Aside0.mk (blk_below (g := gb103) (o := .cells #[.bool true, .int .u32 (Int.tmod a0 536870912), .bool a1, .string x104003_7] 24 (0, 0)) (by (with_reducible repeat (first | refine blk_drewN ?_ _ | refine blk_drew ?_ | refine blk_alloc ?_ _)); exact BK103.out) hb); have n2_ := Aside0.mk (below_step (by repeat (first | (with_reducible first | exact HB.out | apply below_alloc | apply pw_below_drewN | apply below_drew1 | refine below_set ?_ GE102.out | refine below_set ?_ GE103.out) | exact HB.out)) hb); clear BK102; clear BK103; clear HB; have BK102 := n0_; have BK103 := n1_; have HB := n2_; clear n0_ n1_ n2_; (try clear hb); (try clear hb2); (try clear hk); (try clear hi); have hcz96_0 : w95.cell? ⟨gb103, 0, none⟩ = some (.bool true) := (blk_cell BK103.out 0).trans rfl; have hcz96_1 : w95.cell? ⟨gb103, 1, none⟩ = some (.int .u32 (Int.tmod a0 536870912)) := (blk_cell BK103.out 1).trans rfl; have hcz96_2 : w95.cell? ⟨gb103, 2, none⟩ = some (.bool a1) := (blk_cell BK103.out 2).trans rfl; have hcz96_3 : w95.cell? ⟨gb103, 3, none⟩ = some (.string x104003_7) := (blk_cell BK103.out 3).trans rfl; have hfz96_0 := blk_frozen BK103.out 0; have hfz96_1 := blk_frozen BK103.out 1; have hfz96_2 := blk_frozen BK103.out 2; have hfz96_3 := blk_frozen BK103.out 3) | ((with_reducible refine gate_callee (f := 27) rfl ?_); refine goesL_ (some 56) rfl rfl Try.func27 (by kernel_rfl) rfl #[.int .u64 (IntKind.u64.wrap ((Int.tmod a0 536870912))), .int .i64 29] rfl (by (try simp only [List.map_toArray, List.map_cons, List.map_nil]); first | done | rfl | (simp only [List.length_drop, List.length_take]; rfl)) ?_; (with_reducible refine (ostinatoref1_Of.calls (IntKind.u64.wrap ((Int.tmod a0 536870912))) 29 t108 _ A28.out).mono ?_); rintro e w97 ⟨rfl, hb⟩; refine ⟨_, rfl, ?_⟩; have n0_ := Aside0.mk (blk_below (g := gb102) (o := .cells #[.bool false, .int .u32 (Int.tmod a0 2048), .bool a1, .string x103003_7] 24 (0, 0)) (by (with_reducible repeat (first | refine blk_drewN ?_ _ | refine blk_drew ?_ | refine blk_alloc ?_ _)); exact BK102.out) hb); have n1_ := Aside0.mk (blk_below (g := gb103) (o := .cells #[.bool true, .int .u32 (Int.tmod a0 536870912), .bool a1, .string x104003_7] 24 (0, 0)) (by (with_reducible repeat (first | refine blk_drewN ?_ _ | refine blk_drew ?_ | refine blk_alloc ?_ _)); exact BK103.out) hb); have n2_ := Aside0.mk (below_step (by repeat (first | (with_reducible first | exact HB.out | apply below_alloc | apply pw_below_drewN | apply below_drew1 | refine below_set ?_ GE102.out | refine below_set ?_ GE103.out) | exact HB.out)) hb); clear BK102; clear BK103; clear HB; have BK102 := n0_; have BK103 := n1_; have HB := n2_; clear n0_ n1_ n2_; (try clear hb); (try clear hb2); (try clear hk); (try clear hi)))
                                      have n0_ := Aside0.mk (blk_drew BK102.out)
                                      have n1_ := Aside0.mk (blk_drew BK103.out)
                                      have n2_ := Aside0.mk (below_drew1 HB.out)
                                      clear BK102
                                      clear BK103
                                      clear HB
                                      have BK102 := n0_
                                      have BK103 := n1_
                                      have HB := n2_
                                      clear n0_ n1_ n2_
                                      refine start_ (n := 13) (S := fun w' => True) (ds := []) #[false, false, false, false, false, false, false, false, false, false, false, false, false] (by kernel_rfl) rfl rfl trivial (fun hHeld => ?_); refine with_tabW ostinatolaw3_FrameFields.tab13 ostinatolaw3_FrameFields.bits13 (fun HT_ HW_ => ?_)
                                      generalize w97.drew = w98 at BK102 BK103 HB hHeld ⊢
                                      refine pure_ (i := 0) (N := some 57) (v := ?_) (a' := ?_) #[true, false, false, false, false, false, false, false, false, false, false, false, false] rfl rfl (any_of HT_.out (by kernel_rfl)) (fun _ _ _ h => h) (Or.inl ⟨by rfl, ?_⟩) ?_ ?_
                                      rotate_left
                                      · intro w'
                                        go_simp
                                        with_reducible rfl
                                      rotate_left
                                      · simp only [Act.put, List.setIfInBounds_toArray, List.set_cons_zero, List.set_cons_succ, i64_w, i32_w]
                                        rfl
                                      refine pure_ (i := 1) (N := some 58) (v := ?_) (a' := ?_) #[true, true, false, false, false, false, false, false, false, false, false, false, false] rfl rfl (any_of HT_.out (by kernel_rfl)) (fun _ _ _ h => h) (Or.inl ⟨by rfl, ?_⟩) ?_ ?_
                                      rotate_left
                                      · intro w'
                                        go_simp
                                        with_reducible rfl
                                      rotate_left
                                      · simp only [Act.put, List.setIfInBounds_toArray, List.set_cons_zero, List.set_cons_succ, i64_w, i32_w]
                                        rfl
                                      refine pure_ (i := 2) (N := some 59) (v := ?_) (a' := ?_) #[true, true, true, false, false, false, false, false, false, false, false, false, false] rfl rfl (any_of HT_.out (by kernel_rfl)) (fun _ _ _ h => h) (Or.inl ⟨by rfl, ?_⟩) ?_ ?_
                                      rotate_left
                                      · intro w'
                                        go_simp
                                        with_reducible rfl
                                      rotate_left
                                      · simp only [Act.put, List.setIfInBounds_toArray, List.set_cons_zero, List.set_cons_succ, i64_w, i32_w]
                                        rfl
                                      refine pure_ (i := 3) (N := some 60) (v := ?_) (a' := ?_) #[true, true, true, true, false, false, false, false, false, false, false, false, false] rfl rfl (any_of HT_.out (by kernel_rfl)) (fun _ _ _ h => h) (Or.inl ⟨by rfl, ?_⟩) ?_ ?_
                                      rotate_left
                                      · intro w'
                                        go_simp
                                        with_reducible rfl
                                      rotate_left
                                      · simp only [Act.put, List.setIfInBounds_toArray, List.set_cons_zero, List.set_cons_succ, i64_w, i32_w]
                                        rfl
                                      refine pure_ (i := 4) (N := some 61) (v := ?_) (a' := ?_) #[true, true, true, true, true, false, false, false, false, false, false, false, false] rfl rfl (any_of HT_.out (by kernel_rfl)) (fun _ _ _ h => h) (Or.inl ⟨by rfl, ?_⟩) ?_ ?_
                                      rotate_left
                                      · intro w'
                                        go_simp
                                        with_reducible rfl
                                      rotate_left
                                      · simp only [Act.put, List.setIfInBounds_toArray, List.set_cons_zero, List.set_cons_succ, i64_w, i32_w]
                                        rfl
                                      refine pure_ (i := 5) (N := some 62) (v := ?_) (a' := ?_) #[true, true, true, true, true, true, false, false, false, false, false, false, false] rfl rfl (any_of HT_.out (by kernel_rfl)) (fun _ _ _ h => h) (Or.inl ⟨by rfl, ?_⟩) ?_ ?_
                                      rotate_left
                                      · intro w'
                                        go_simp
                                        with_reducible rfl
                                      rotate_left
                                      · simp only [Act.put, List.setIfInBounds_toArray, List.set_cons_zero, List.set_cons_succ, i64_w, i32_w]
                                        rfl
                                      refine pure_ (i := 6) (N := some 63) (v := ?_) (a' := ?_) #[true, true, true, true, true, true, true, false, false, false, false, false, false] rfl rfl (any_of HT_.out (by kernel_rfl)) (fun _ _ _ h => h) (Or.inl ⟨by rfl, ?_⟩) ?_ ?_
                                      rotate_left
                                      · intro w'
                                        go_simp
                                        with_reducible rfl
                                      rotate_left
                                      · simp only [Act.put, List.setIfInBounds_toArray, List.set_cons_zero, List.set_cons_succ, i64_w, i32_w]
                                        rfl
                                      refine pure_ (i := 7) (N := some 64) (v := ?_) (a' := ?_) #[true, true, true, true, true, true, true, true, false, false, false, false, false] rfl rfl (any_of HT_.out (by kernel_rfl)) (fun _ _ _ h => h) (Or.inl ⟨by rfl, ?_⟩) ?_ ?_
                                      rotate_left
                                      · intro w'
                                        go_simp
                                        with_reducible rfl
                                      rotate_left
                                      · simp only [Act.put, List.setIfInBounds_toArray, List.set_cons_zero, List.set_cons_succ, i64_w, i32_w]
                                        rfl
                                      refine pure_ (i := 8) (N := some 65) (v := ?_) (a' := ?_) #[true, true, true, true, true, true, true, true, true, false, false, false, false] rfl rfl (any_of HT_.out (by kernel_rfl)) (fun _ _ _ h => h) (Or.inl ⟨by rfl, ?_⟩) ?_ ?_
                                      rotate_left
                                      · intro w'
                                        go_simp
                                        with_reducible rfl
                                      rotate_left
                                      · simp only [Act.put, List.setIfInBounds_toArray, List.set_cons_zero, List.set_cons_succ, i64_w, i32_w]
                                        rfl
                                      refine pure_ (i := 9) (N := some 66) (v := ?_) (a' := ?_) #[true, true, true, true, true, true, true, true, true, true, false, false, false] rfl rfl (any_of HT_.out (by kernel_rfl)) (fun _ _ _ h => h) (Or.inl ⟨by rfl, ?_⟩) ?_ ?_
                                      rotate_left
                                      · intro w'
                                        go_simp
                                        with_reducible rfl
                                      rotate_left
                                      · simp only [Act.put, List.setIfInBounds_toArray, List.set_cons_zero, List.set_cons_succ, i64_w, i32_w]
                                        rfl
                                      refine pure_ (i := 10) (N := some 67) (v := ?_) (a' := ?_) #[true, true, true, true, true, true, true, true, true, true, true, false, false] rfl rfl (any_of HT_.out (by kernel_rfl)) (fun _ _ _ h => h) (Or.inl ⟨by rfl, ?_⟩) ?_ ?_
                                      rotate_left
                                      · intro w'
                                        go_simp
                                        with_reducible rfl
                                      rotate_left
                                      · simp only [Act.put, List.setIfInBounds_toArray, List.set_cons_zero, List.set_cons_succ, i64_w, i32_w]
                                        rfl
                                      refine pure_ (i := 11) (N := some 68) (v := ?_) (a' := ?_) #[true, true, true, true, true, true, true, true, true, true, true, true, false] rfl rfl (any_of HT_.out (by kernel_rfl)) (fun _ _ _ h => h) (Or.inl ⟨by rfl, ?_⟩) ?_ ?_
                                      rotate_left
                                      · intro w'
                                        go_simp
                                        with_reducible rfl
                                      rotate_left
                                      · simp only [Act.put, List.setIfInBounds_toArray, List.set_cons_zero, List.set_cons_succ, i64_w, i32_w]
                                        rfl
                                      refine pure_ (i := 12) (N := some 13) (v := ?_) (a' := ?_) #[true, true, true, true, true, true, true, true, true, true, true, true, true] rfl rfl (any_of HT_.out (by kernel_rfl)) (fun _ _ _ h => h) (Or.inl ⟨by rfl, ?_⟩) ?_ ?_
                                      rotate_left
                                      · intro w'
                                        go_simp
                                        with_reducible rfl
                                      rotate_left
                                      · simp only [Act.put, List.setIfInBounds_toArray, List.set_cons_zero, List.set_cons_succ, i64_w, i32_w]
                                        rfl
                                      refine done_ (done_of HT_.out (by kernel_rfl)) ?_
                                      have hcz99_0 : w98.cell? ⟨gb102, 0, none⟩ = some (.bool false) := (blk_cell BK102.out 0).trans rfl
                                      have hcz99_1 : w98.cell? ⟨gb102, 1, none⟩ = some (.int .u32 (Int.tmod a0 2048)) := (blk_cell BK102.out 1).trans rfl
                                      have hcz99_2 : w98.cell? ⟨gb102, 2, none⟩ = some (.bool a1) := (blk_cell BK102.out 2).trans rfl
                                      have hcz99_3 : w98.cell? ⟨gb102, 3, none⟩ = some (.string x103003_7) := (blk_cell BK102.out 3).trans rfl
                                      have hfz99_0 := blk_frozen BK102.out 0
                                      have hfz99_1 := blk_frozen BK102.out 1
                                      have hfz99_2 := blk_frozen BK102.out 2
                                      have hfz99_3 := blk_frozen BK102.out 3
                                      try go_wp2_with (first | ((with_reducible refine gate_callee (f := 15) rfl ?_); refine goesL_ (some 70) rfl rfl Try.func15 (by kernel_rfl) rfl #[.agg #[.bool false, .int .u32 (Int.tmod a0 2048), .bool a1, .string x103003_7]] rfl (by (try simp only [List.map_toArray, List.map_cons, List.map_nil]); first | done | rfl | (simp only [List.length_drop, List.length_take]; rfl)) ?_; (with_reducible refine (frame_Body.calls false (Int.tmod a0 2048) a1 x103003_7 t109 _ A38.out).mono ?_); rintro e w100 ⟨rfl, hb⟩; refine ⟨_, rfl, ?_⟩; have n0_ := Aside0.mk (blk_below (g := gb102) (o := .cells #[.bool false, .int .u32 (Int.tmod a0 2048), .bool a1, .string x103003_7] 24 (0, 0)) (by (with_reducible repeat (first | refine blk_drewN ?_ _ | refine blk_drew ?_ | refine blk_alloc ?_ _)); exact BK102.out) hb); have n1_ := Aside0.mk (blk_below (g := gb103) (o := .cells #[.bool true, .int .u32 (Int.tmod a0 536870912), .bool a1, .string x104003_7] 24 (0, 0)) (by (with_reducible repeat (first | refine blk_drewN ?_ _ | refine blk_drew ?_ | refine blk_alloc ?_ _)); exact BK103.out) hb); have n2_ := Aside0.mk (below_step (by repeat (first | (with_reducible first | exact HB.out | apply below_alloc | apply pw_below_drewN | apply below_drew1 | refine below_set ?_ GE102.out | refine below_set ?_ GE103.out) | exact HB.out)) hb); clear BK102; clear BK103; clear HB; have BK102 := n0_; have BK103 := n1_; have HB := n2_; clear n0_ n1_ n2_; (try clear hb); (try clear hb2); (try clear hk); (try clear hi)))
                                      go_ret
                                      exact ⟨by first | rfl | (simp [errW_none, errW_some] <;> rfl) | (simp [*, errW_none, errW_some] <;> rfl), by repeat (first | (with_reducible first | exact HB.out | apply below_alloc | apply pw_below_drewN | apply below_drew1 | refine below_set ?_ GE102.out | refine below_set ?_ GE103.out) | exact HB.out)⟩
                                  · rw [if_neg c37] at H
                                    exact absurd H (by simp)
                                · rw [if_neg c36] at H
                                  exact absurd H (by simp)
                              · rw [if_neg c35] at H
                                exact absurd H (by simp)
                            · rw [if_neg c34] at H
                              exact absurd H (by simp)
                          · rw [if_neg c32] at H
                            exact absurd H (by simp)
                        · rw [if_neg c31] at H
                          exact absurd H (by simp)
                      · rw [if_neg c30] at H
                        exact absurd H (by simp)
                    · rw [if_neg c29] at H
                      exact absurd H (by simp)
                  · rw [if_neg c27] at H
                    exact absurd H (by simp)
                · rw [if_neg c26] at H
                  exact absurd H (by simp)
              · rw [if_neg c25] at H
                exact absurd H (by simp)
            · rw [if_neg c24] at H
              exact absurd H (by simp)
          · rw [if_neg c22] at H
            exact absurd H (by simp)
  · replace c5 := Bool.eq_false_iff.mpr c5
    subst c5
    have H1 : (some false) = some r := by rw [if_neg (show ¬ (false = true) by decide)] at H; exact H
    clear H
    have H := H1
    clear H1
    obtain rfl := Option.some.inj H
    go_enter Try.func8, Try.ntmps8
    go_wp2_with (first | ((with_reducible refine gate_callee (f := 11) rfl ?_); refine goesL_ (some 14) rfl rfl Try.func11 (by kernel_rfl) rfl #[] rfl (by (try simp only [List.map_toArray, List.map_cons, List.map_nil]); first | done | rfl | (simp only [List.length_drop, List.length_take]; rfl)) ?_; (with_reducible refine (ostinatolaw3_known.calls  false _ A4.out).mono ?_); rintro e w101 ⟨rfl, hb⟩; refine ⟨_, rfl, ?_⟩; have n0_ := Aside0.mk (below_step (by repeat (first | (with_reducible first | exact HB.out | apply below_alloc | apply pw_below_drewN | apply below_drew1) | exact HB.out)) hb); clear HB; have HB := n0_; clear n0_; (try clear hb); (try clear hb2); (try clear hk); (try clear hi)))
    go_ret
    exact ⟨by first | rfl | (simp [errW_none, errW_some] <;> rfl) | (simp [*, errW_none, errW_some] <;> rfl), by repeat (first | (with_reducible first | exact HB.out | apply below_alloc | apply pw_below_drewN | apply below_drew1) | exact HB.out)⟩

/-- THE ONE PURE STATEMENT of ostinatolaw3_FrameFields: yours. -/
def ostinatolaw3_FrameFields.Pure : Prop := ∀ (a0 : Int) (a1 : Bool) (a2 : ByteArray), (Lit.int .u32 a0).wf = true → a2.size ≤ 140737488351232 → ∃ k, ostinatolaw3_FrameFields.f k a0 a1 a2 = some true
theorem ostinatolaw3_FrameFields.walk (P : ostinatolaw3_FrameFields.Pure) (a0 : Int) (a1 : Bool) (a2 : ByteArray) (w : World) (w0 : (Lit.int .u32 a0).wf = true) (w2 : a2.size ≤ 140737488351232) :
    Calls Try.prog 8 #[.int .u32 a0, .bool a1, .string a2] w fun e w' => e = .returned (.bool true) ∧ Below w.heap.size w w' := by
  obtain ⟨k, h⟩ := P a0 a1 a2 w0 w2
  refine (ostinatolaw3_FrameFields.calls k a0 a1 a2 true w h).mono ?_
  rintro e w' ⟨rfl, hd⟩
  exact ⟨rfl, hd⟩

end Go.Proofs.Ytdjlbdpajnlonaa.QFrameFields
