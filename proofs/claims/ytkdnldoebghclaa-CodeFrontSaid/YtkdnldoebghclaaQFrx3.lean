-- Written by a program out of the translation, over contracts proved by hand.
import Derived.Test.YtkdnldoebghclaaQFrx0
import Derived.Test.YtkdnldoebghclaaQFrx2
namespace Go.Proofs.Ytkdnldoebghclaa.QFr
open Go.RowKit Go.Proofs.Ytkdnldoebghclaa.Plug Go.Proofs.YtkdnldoebghclaaW.PrintWords Go.Proofs.YtkdnldoebghclaaW.PrintLast Go.Proofs.YtkdnldoebghclaaW.PrintMore
attribute [local go_sem] max2_int min2_int max_two min_two max_three min_three max_four min_four   -- for this text's walks alone
set_option linter.unusedVariables false
set_option linter.unusedSimpArgs false

/-! ### ostinatoref3_Arb: function 27 -/
def ostinatoref3_Arb.f (a0_0 : Bool) (a0_1 : Int) (a0_2 : Bool) (a0_3 : ByteArray) : Option (ByteArray) := (ostinatoref3_Is.f a0_0 a0_1 a0_2 a0_3).bind fun t119 => (if t119 = true then ((ostinatoref1_Bit.f a0_2).bind fun t120 => (if a0_0 = true then ((ostinatoref1_Of.f (IntKind.u64.wrap (a0_1 / 262144)) 11).bind fun t121 => (if 1 + t121.size ≤ 9223372036854775807 then (if ((⟨#[48]⟩ : ByteArray) ++ t121).size + 2 ≤ 9223372036854775807 then ((ostinatoref1_Of.f (IntKind.u64.wrap (a0_1)) 18).bind fun t122 => (if (((⟨#[48]⟩ : ByteArray) ++ t121) ++ (⟨#[49, 49]⟩ : ByteArray)).size + t122.size ≤ 9223372036854775807 then (if ((((⟨#[48]⟩ : ByteArray) ++ t121) ++ (⟨#[49, 49]⟩ : ByteArray)) ++ t122).size + t120.size ≤ 9223372036854775807 then (some (((((⟨#[48]⟩ : ByteArray) ++ t121) ++ (⟨#[49, 49]⟩ : ByteArray)) ++ t122) ++ t120)) else (none)) else (none))) else (none)) else (none))) else ((ostinatoref1_Of.f (IntKind.u64.wrap (a0_1)) 11).bind fun t123 => (if 1 + t123.size ≤ 9223372036854775807 then (if ((⟨#[48]⟩ : ByteArray) ++ t123).size + t120.size ≤ 9223372036854775807 then (if (((⟨#[48]⟩ : ByteArray) ++ t123) ++ t120).size + 1 ≤ 9223372036854775807 then (some ((((⟨#[48]⟩ : ByteArray) ++ t123) ++ t120) ++ (⟨#[48]⟩ : ByteArray))) else (none)) else (none)) else (none))))) else (some (⟨#[]⟩ : ByteArray)))
def ostinatoref3_Arb.T6 : Bool × List (List Nat × List Nat) := (true, [([], []), ([0], [0]), ([1], [1]), ([2], [2]), ([3], [3]), ([4], [4]), ([5], [5]), ([], []), ([7], [7]), ([8], [8]), ([9, 4], [9]), ([6, 10], [6, 10]), ([], []), ([11, 12], [11, 12]), ([13, 10, 0, 1, 2, 3, 4, 5, 6, 7, 8, 9, 10, 11, 12, 13], [13])])
def ostinatoref3_Arb.B6 : List Nat := [0, 1, 3, 7, 15, 31, 63, 0, 128, 384, 927, 2047, 0, 8191, 16383]
theorem ostinatoref3_Arb.tab6 : rtab .any (opsOf Try.f27 6) = ostinatoref3_Arb.T6 := by kernel_rfl
theorem ostinatoref3_Arb.bits6 : waitsOk ostinatoref3_Arb.T6.2 ostinatoref3_Arb.B6 = true := by kernel_rfl
set_option maxHeartbeats 8000000 in
set_option maxRecDepth 100000 in
theorem ostinatoref3_Arb.calls (a0_0 : Bool) (a0_1 : Int) (a0_2 : Bool) (a0_3 : ByteArray) (r : ByteArray) (w : World) (h : ostinatoref3_Arb.f a0_0 a0_1 a0_2 a0_3 = some r) :
    Calls Try.prog 27 #[.agg #[.bool a0_0, .int .u32 a0_1, .bool a0_2, .string a0_3]] w fun e w' => e = .returned (.string r) ∧ Below w.heap.size w w' := by
  have hu24 := Try.underlying24
  have HB := Aside0.mk (Below.refl w.heap.size w)
  have H : ((ostinatoref3_Is.f a0_0 a0_1 a0_2 a0_3).bind fun t119 => (if t119 = true then ((ostinatoref1_Bit.f a0_2).bind fun t120 => (if a0_0 = true then ((ostinatoref1_Of.f (IntKind.u64.wrap (a0_1 / 262144)) 11).bind fun t121 => (if 1 + t121.size ≤ 9223372036854775807 then (if ((⟨#[48]⟩ : ByteArray) ++ t121).size + 2 ≤ 9223372036854775807 then ((ostinatoref1_Of.f (IntKind.u64.wrap (a0_1)) 18).bind fun t122 => (if (((⟨#[48]⟩ : ByteArray) ++ t121) ++ (⟨#[49, 49]⟩ : ByteArray)).size + t122.size ≤ 9223372036854775807 then (if ((((⟨#[48]⟩ : ByteArray) ++ t121) ++ (⟨#[49, 49]⟩ : ByteArray)) ++ t122).size + t120.size ≤ 9223372036854775807 then (some (((((⟨#[48]⟩ : ByteArray) ++ t121) ++ (⟨#[49, 49]⟩ : ByteArray)) ++ t122) ++ t120)) else (none)) else (none))) else (none)) else (none))) else ((ostinatoref1_Of.f (IntKind.u64.wrap (a0_1)) 11).bind fun t123 => (if 1 + t123.size ≤ 9223372036854775807 then (if ((⟨#[48]⟩ : ByteArray) ++ t123).size + t120.size ≤ 9223372036854775807 then (if (((⟨#[48]⟩ : ByteArray) ++ t123) ++ t120).size + 1 ≤ 9223372036854775807 then (some ((((⟨#[48]⟩ : ByteArray) ++ t123) ++ t120) ++ (⟨#[48]⟩ : ByteArray))) else (none)) else (none)) else (none))))) else (some (⟨#[]⟩ : ByteArray)))) = some r := h
  clear h
  replace H := Option.bind_eq_some_iff.mp H
  obtain ⟨t119, A20, H⟩ := H
  replace H : (if t119 = true then ((ostinatoref1_Bit.f a0_2).bind fun t120 => (if a0_0 = true then ((ostinatoref1_Of.f (IntKind.u64.wrap (a0_1 / 262144)) 11).bind fun t121 => (if 1 + t121.size ≤ 9223372036854775807 then (if ((⟨#[48]⟩ : ByteArray) ++ t121).size + 2 ≤ 9223372036854775807 then ((ostinatoref1_Of.f (IntKind.u64.wrap (a0_1)) 18).bind fun t122 => (if (((⟨#[48]⟩ : ByteArray) ++ t121) ++ (⟨#[49, 49]⟩ : ByteArray)).size + t122.size ≤ 9223372036854775807 then (if ((((⟨#[48]⟩ : ByteArray) ++ t121) ++ (⟨#[49, 49]⟩ : ByteArray)) ++ t122).size + t120.size ≤ 9223372036854775807 then (some (((((⟨#[48]⟩ : ByteArray) ++ t121) ++ (⟨#[49, 49]⟩ : ByteArray)) ++ t122) ++ t120)) else (none)) else (none))) else (none)) else (none))) else ((ostinatoref1_Of.f (IntKind.u64.wrap (a0_1)) 11).bind fun t123 => (if 1 + t123.size ≤ 9223372036854775807 then (if ((⟨#[48]⟩ : ByteArray) ++ t123).size + t120.size ≤ 9223372036854775807 then (if (((⟨#[48]⟩ : ByteArray) ++ t123) ++ t120).size + 1 ≤ 9223372036854775807 then (some ((((⟨#[48]⟩ : ByteArray) ++ t123) ++ t120) ++ (⟨#[48]⟩ : ByteArray))) else (none)) else (none)) else (none))))) else (some (⟨#[]⟩ : ByteArray))) = some r := H
  have A2 := Aside0.mk A20
  clear A20
  by_cases c3 : t119 = true
  · subst c3
    have H1 : ((ostinatoref1_Bit.f a0_2).bind fun t120 => (if a0_0 = true then ((ostinatoref1_Of.f (IntKind.u64.wrap (a0_1 / 262144)) 11).bind fun t121 => (if 1 + t121.size ≤ 9223372036854775807 then (if ((⟨#[48]⟩ : ByteArray) ++ t121).size + 2 ≤ 9223372036854775807 then ((ostinatoref1_Of.f (IntKind.u64.wrap (a0_1)) 18).bind fun t122 => (if (((⟨#[48]⟩ : ByteArray) ++ t121) ++ (⟨#[49, 49]⟩ : ByteArray)).size + t122.size ≤ 9223372036854775807 then (if ((((⟨#[48]⟩ : ByteArray) ++ t121) ++ (⟨#[49, 49]⟩ : ByteArray)) ++ t122).size + t120.size ≤ 9223372036854775807 then (some (((((⟨#[48]⟩ : ByteArray) ++ t121) ++ (⟨#[49, 49]⟩ : ByteArray)) ++ t122) ++ t120)) else (none)) else (none))) else (none)) else (none))) else ((ostinatoref1_Of.f (IntKind.u64.wrap (a0_1)) 11).bind fun t123 => (if 1 + t123.size ≤ 9223372036854775807 then (if ((⟨#[48]⟩ : ByteArray) ++ t123).size + t120.size ≤ 9223372036854775807 then (if (((⟨#[48]⟩ : ByteArray) ++ t123) ++ t120).size + 1 ≤ 9223372036854775807 then (some ((((⟨#[48]⟩ : ByteArray) ++ t123) ++ t120) ++ (⟨#[48]⟩ : ByteArray))) else (none)) else (none)) else (none))))) = some r := by rw [if_pos rfl] at H; exact H
    clear H
    have H := H1
    clear H1
    replace H := Option.bind_eq_some_iff.mp H
    obtain ⟨t120, A40, H⟩ := H
    replace H : (if a0_0 = true then ((ostinatoref1_Of.f (IntKind.u64.wrap (a0_1 / 262144)) 11).bind fun t121 => (if 1 + t121.size ≤ 9223372036854775807 then (if ((⟨#[48]⟩ : ByteArray) ++ t121).size + 2 ≤ 9223372036854775807 then ((ostinatoref1_Of.f (IntKind.u64.wrap (a0_1)) 18).bind fun t122 => (if (((⟨#[48]⟩ : ByteArray) ++ t121) ++ (⟨#[49, 49]⟩ : ByteArray)).size + t122.size ≤ 9223372036854775807 then (if ((((⟨#[48]⟩ : ByteArray) ++ t121) ++ (⟨#[49, 49]⟩ : ByteArray)) ++ t122).size + t120.size ≤ 9223372036854775807 then (some (((((⟨#[48]⟩ : ByteArray) ++ t121) ++ (⟨#[49, 49]⟩ : ByteArray)) ++ t122) ++ t120)) else (none)) else (none))) else (none)) else (none))) else ((ostinatoref1_Of.f (IntKind.u64.wrap (a0_1)) 11).bind fun t123 => (if 1 + t123.size ≤ 9223372036854775807 then (if ((⟨#[48]⟩ : ByteArray) ++ t123).size + t120.size ≤ 9223372036854775807 then (if (((⟨#[48]⟩ : ByteArray) ++ t123) ++ t120).size + 1 ≤ 9223372036854775807 then (some ((((⟨#[48]⟩ : ByteArray) ++ t123) ++ t120) ++ (⟨#[48]⟩ : ByteArray))) else (none)) else (none)) else (none)))) = some r := H
    have A4 := Aside0.mk A40
    clear A40
    by_cases c5 : a0_0 = true
    · subst c5
      have H1 : ((ostinatoref1_Of.f (IntKind.u64.wrap (a0_1 / 262144)) 11).bind fun t121 => (if 1 + t121.size ≤ 9223372036854775807 then (if ((⟨#[48]⟩ : ByteArray) ++ t121).size + 2 ≤ 9223372036854775807 then ((ostinatoref1_Of.f (IntKind.u64.wrap (a0_1)) 18).bind fun t122 => (if (((⟨#[48]⟩ : ByteArray) ++ t121) ++ (⟨#[49, 49]⟩ : ByteArray)).size + t122.size ≤ 9223372036854775807 then (if ((((⟨#[48]⟩ : ByteArray) ++ t121) ++ (⟨#[49, 49]⟩ : ByteArray)) ++ t122).size + t120.size ≤ 9223372036854775807 then (some (((((⟨#[48]⟩ : ByteArray) ++ t121) ++ (⟨#[49, 49]⟩ : ByteArray)) ++ t122) ++ t120)) else (none)) else (none))) else (none)) else (none))) = some r := by rw [if_pos rfl] at H; exact H
      clear H
      have H := H1
      clear H1
      replace H := Option.bind_eq_some_iff.mp H
      obtain ⟨t121, A60, H⟩ := H
      replace H : (if 1 + t121.size ≤ 9223372036854775807 then (if ((⟨#[48]⟩ : ByteArray) ++ t121).size + 2 ≤ 9223372036854775807 then ((ostinatoref1_Of.f (IntKind.u64.wrap (a0_1)) 18).bind fun t122 => (if (((⟨#[48]⟩ : ByteArray) ++ t121) ++ (⟨#[49, 49]⟩ : ByteArray)).size + t122.size ≤ 9223372036854775807 then (if ((((⟨#[48]⟩ : ByteArray) ++ t121) ++ (⟨#[49, 49]⟩ : ByteArray)) ++ t122).size + t120.size ≤ 9223372036854775807 then (some (((((⟨#[48]⟩ : ByteArray) ++ t121) ++ (⟨#[49, 49]⟩ : ByteArray)) ++ t122) ++ t120)) else (none)) else (none))) else (none)) else (none)) = some r := H
      have A6 := Aside0.mk A60
      clear A60
      by_cases c7 : 1 + t121.size ≤ 9223372036854775807
      · rw [if_pos c7] at H
        have c7b0 := eq_true c7
        have c7b1 : decide (1 + t121.size ≤ 9223372036854775807) = true := decide_eq_true c7
        try have c7b2 : (9223372036854775807 < 1 + t121.size) = False := eq_false (Nat.not_lt.2 c7)
        by_cases c8 : ((⟨#[48]⟩ : ByteArray) ++ t121).size + 2 ≤ 9223372036854775807
        · rw [if_pos c8] at H
          have c8b0 := eq_true c8
          have c8s0 := c8
          (try simp only [ByteArray.size_append, sz1, sz2] at c8s0)
          have c8s1 := eq_false (Nat.not_lt.2 c8s0)
          have c8s2 := c8s1
          (try simp only [Nat.add_assoc, Nat.reduceAdd] at c8s2)
          have c8b1 : decide (((⟨#[48]⟩ : ByteArray) ++ t121).size + 2 ≤ 9223372036854775807) = true := decide_eq_true c8
          try have c8b2 : (9223372036854775807 < ((⟨#[48]⟩ : ByteArray) ++ t121).size + 2) = False := eq_false (Nat.not_lt.2 c8)
          replace H := Option.bind_eq_some_iff.mp H
          obtain ⟨t122, A90, H⟩ := H
          replace H : (if (((⟨#[48]⟩ : ByteArray) ++ t121) ++ (⟨#[49, 49]⟩ : ByteArray)).size + t122.size ≤ 9223372036854775807 then (if ((((⟨#[48]⟩ : ByteArray) ++ t121) ++ (⟨#[49, 49]⟩ : ByteArray)) ++ t122).size + t120.size ≤ 9223372036854775807 then (some (((((⟨#[48]⟩ : ByteArray) ++ t121) ++ (⟨#[49, 49]⟩ : ByteArray)) ++ t122) ++ t120)) else (none)) else (none)) = some r := H
          have A9 := Aside0.mk A90
          clear A90
          by_cases c10 : (((⟨#[48]⟩ : ByteArray) ++ t121) ++ (⟨#[49, 49]⟩ : ByteArray)).size + t122.size ≤ 9223372036854775807
          · rw [if_pos c10] at H
            have c10b0 := eq_true c10
            have c10s0 := c10
            (try simp only [ByteArray.size_append, sz1, sz2] at c10s0)
            have c10s1 := eq_false (Nat.not_lt.2 c10s0)
            have c10s2 := c10s1
            (try simp only [Nat.add_assoc, Nat.reduceAdd] at c10s2)
            have c10b1 : decide ((((⟨#[48]⟩ : ByteArray) ++ t121) ++ (⟨#[49, 49]⟩ : ByteArray)).size + t122.size ≤ 9223372036854775807) = true := decide_eq_true c10
            try have c10b2 : (9223372036854775807 < (((⟨#[48]⟩ : ByteArray) ++ t121) ++ (⟨#[49, 49]⟩ : ByteArray)).size + t122.size) = False := eq_false (Nat.not_lt.2 c10)
            by_cases c11 : ((((⟨#[48]⟩ : ByteArray) ++ t121) ++ (⟨#[49, 49]⟩ : ByteArray)) ++ t122).size + t120.size ≤ 9223372036854775807
            · rw [if_pos c11] at H
              have c11b0 := eq_true c11
              have c11s0 := c11
              (try simp only [ByteArray.size_append, sz1, sz2] at c11s0)
              have c11s1 := eq_false (Nat.not_lt.2 c11s0)
              have c11s2 := c11s1
              (try simp only [Nat.add_assoc, Nat.reduceAdd] at c11s2)
              have c11b1 : decide (((((⟨#[48]⟩ : ByteArray) ++ t121) ++ (⟨#[49, 49]⟩ : ByteArray)) ++ t122).size + t120.size ≤ 9223372036854775807) = true := decide_eq_true c11
              try have c11b2 : (9223372036854775807 < ((((⟨#[48]⟩ : ByteArray) ++ t121) ++ (⟨#[49, 49]⟩ : ByteArray)) ++ t122).size + t120.size) = False := eq_false (Nat.not_lt.2 c11)
              obtain rfl := Option.some.inj H
              go_enter Try.func27, Try.ntmps27
              try go_wp2_with (first | ((with_reducible refine gate_dst (N := 1) rfl ?_); refine box_event ?hg (N := 1) ?hd (cs := #[.bool true, .int .u32 a0_1, .bool a0_2, .string a0_3]) (t := 24) ?hr ?_; (case hd => rfl); (case hg => rfl); (case hr => first | (go_simp; done) | (go_simp; rfl)); intro gb118 hg w12 hbox hb; have n0_ := Aside0.mk (below_step (by repeat (first | (with_reducible first | exact HB.out | apply below_alloc | apply pw_below_drewN | apply below_drew1) | exact HB.out)) hb); have n1_ := Aside0.mk (hbox); have n2_ := Aside0.mk ((by rw [hg]; exact (below_size (by repeat (first | (with_reducible first | exact HB.out | apply below_alloc | apply pw_below_drewN | apply below_drew1) | exact HB.out))) : w.heap.size ≤ gb118)); have n3_ := Aside0.mk ((by rw [hg]; exact (below_size (by repeat (first | (with_reducible first | exact HB.out | apply below_alloc | apply pw_below_drewN | apply below_drew1) | exact HB.out))) : w.heap.size ≤ gb118)); clear HB; have HB := n0_; have BK118 := n1_; have GW118 := n2_; have GE118 := n3_; clear n0_ n1_ n2_ n3_; clear hb hbox hg; have hcz13_0 : w12.cell? ⟨gb118, 0, none⟩ = some (.bool true) := (blk_cell BK118.out 0).trans rfl; have hcz13_1 : w12.cell? ⟨gb118, 1, none⟩ = some (.int .u32 a0_1) := (blk_cell BK118.out 1).trans rfl; have hcz13_2 : w12.cell? ⟨gb118, 2, none⟩ = some (.bool a0_2) := (blk_cell BK118.out 2).trans rfl; have hcz13_3 : w12.cell? ⟨gb118, 3, none⟩ = some (.string a0_3) := (blk_cell BK118.out 3).trans rfl; have hfz13_0 := blk_frozen BK118.out 0; have hfz13_1 := blk_frozen BK118.out 1; have hfz13_2 := blk_frozen BK118.out 2; have hfz13_3 := blk_frozen BK118.out 3) | ((with_reducible refine gate_callee (f := 22) rfl ?_); refine goesL_ (some 5) rfl rfl Try.func22 (by kernel_rfl) rfl #[.agg #[.bool true, .int .u32 a0_1, .bool a0_2, .string a0_3]] rfl (by (try simp only [List.map_toArray, List.map_cons, List.map_nil]); first | done | rfl | (simp only [List.length_drop, List.length_take]; rfl)) ?_; (with_reducible refine (ostinatoref3_Is.calls true a0_1 a0_2 a0_3 true _ A2.out).mono ?_); rintro e w14 ⟨rfl, hb⟩; refine ⟨_, rfl, ?_⟩; have n0_ := Aside0.mk (blk_below (g := gb118) (o := .cells #[.bool true, .int .u32 a0_1, .bool a0_2, .string a0_3] 24 (0, 0)) (by (with_reducible repeat (first | refine blk_drewN ?_ _ | refine blk_drew ?_ | refine blk_alloc ?_ _)); exact BK118.out) hb); have n1_ := Aside0.mk (below_step (by repeat (first | (with_reducible first | exact HB.out | apply below_alloc | apply pw_below_drewN | apply below_drew1 | refine below_set ?_ GE118.out) | exact HB.out)) hb); clear BK118; clear HB; have BK118 := n0_; have HB := n1_; clear n0_ n1_; (try clear hb); (try clear hb2); (try clear hk); (try clear hi); have hcz15_0 : w14.cell? ⟨gb118, 0, none⟩ = some (.bool true) := (blk_cell BK118.out 0).trans rfl; have hcz15_1 : w14.cell? ⟨gb118, 1, none⟩ = some (.int .u32 a0_1) := (blk_cell BK118.out 1).trans rfl; have hcz15_2 : w14.cell? ⟨gb118, 2, none⟩ = some (.bool a0_2) := (blk_cell BK118.out 2).trans rfl; have hcz15_3 : w14.cell? ⟨gb118, 3, none⟩ = some (.string a0_3) := (blk_cell BK118.out 3).trans rfl; have hfz15_0 := blk_frozen BK118.out 0; have hfz15_1 := blk_frozen BK118.out 1; have hfz15_2 := blk_frozen BK118.out 2; have hfz15_3 := blk_frozen BK118.out 3) | ((with_reducible refine gate_callee (f := 28) rfl ?_); refine goesL_ (some 9) rfl rfl Try.func28 (by kernel_rfl) rfl #[.bool a0_2] rfl (by (try simp only [List.map_toArray, List.map_cons, List.map_nil]); first | done | rfl | (simp only [List.length_drop, List.length_take]; rfl)) ?_; (with_reducible refine (ostinatoref1_Bit.calls a0_2 t120 _ A4.out).mono ?_); rintro e w' ⟨rfl, ⟨nd, rfl⟩⟩; refine ⟨_, rfl, ?_⟩))
              (try (rw [drewN_self w14]; generalize hq_ : World.drewN w14 _ = w14; have n0_ : Aside0 (w14.heap[gb118]? = some (.cells #[.bool true, .int .u32 a0_1, .bool a0_2, .string a0_3] 24 (0, 0))) := ⟨by rw [← hq_]; exact (by (with_reducible repeat (first | refine blk_drewN ?_ _ | refine blk_drew ?_ | refine blk_alloc ?_ _)); exact BK118.out)⟩; have n1_ : Aside0 (Below w.heap.size w w14) := ⟨by rw [← hq_]; exact (by repeat (first | (with_reducible first | exact HB.out | apply below_alloc | apply pw_below_drewN | apply below_drew1 | refine below_set ?_ GE118.out) | exact HB.out))⟩; clear BK118 HB hq_; have BK118 := n0_; have HB := n1_; clear n0_ n1_))
              have n0_ := Aside0.mk (blk_drew BK118.out)
              have n1_ := Aside0.mk (below_drew1 HB.out)
              clear BK118
              clear HB
              have BK118 := n0_
              have HB := n1_
              clear n0_ n1_
              refine start_ (n := 15) (S := fun w' => w'.cell? ⟨gb118, 0, none⟩ = some (.bool true) ∧ w'.cell? ⟨gb118, 1, none⟩ = some (.int .u32 a0_1) ∧ w'.cell? ⟨gb118, 2, none⟩ = some (.bool a0_2) ∧ w'.cell? ⟨gb118, 3, none⟩ = some (.string a0_3)) (ds := []) #[false, false, false, false, false, false, false, false, false, false, false, false, false, false, false] (by kernel_rfl) rfl rfl ⟨(blk_cell BK118.out 0).trans rfl, (blk_cell BK118.out 1).trans rfl, (blk_cell BK118.out 2).trans rfl, (blk_cell BK118.out 3).trans rfl⟩ (fun hHeld => ?_); refine with_tabW ostinatoref3_Arb.tab6 ostinatoref3_Arb.bits6 (fun HT_ HW_ => ?_)
              generalize w14.drew = w16 at BK118 HB hHeld ⊢
              refine pure_ (i := 0) (N := some 21) (v := ?_) (a' := ?_) #[true, false, false, false, false, false, false, false, false, false, false, false, false, false, false] rfl rfl (any_of HT_.out (by kernel_rfl)) (fun _ _ _ h => h) (Or.inl ⟨by rfl, ?_⟩) ?_ ?_
              rotate_left
              · intro w'
                go_simp
                with_reducible rfl
              rotate_left
              · simp only [Act.put, List.setIfInBounds_toArray, List.set_cons_zero, List.set_cons_succ, i64_w, i32_w]
                rfl
              refine pure_ (i := 7) (N := some 28) (v := ?_) (a' := ?_) #[true, false, false, false, false, false, false, true, false, false, false, false, false, false, false] rfl rfl (any_of HT_.out (by kernel_rfl)) (fun _ _ _ h => h) (Or.inl ⟨by rfl, ?_⟩) ?_ ?_
              rotate_left
              · intro w'
                go_simp
                with_reducible rfl
              rotate_left
              · simp only [Act.put, List.setIfInBounds_toArray, List.set_cons_zero, List.set_cons_succ, i64_w, i32_w]
                rfl
              refine pure_ (i := 12) (N := some 33) (v := ?_) (a' := ?_) #[true, false, false, false, false, false, false, true, false, false, false, false, true, false, false] rfl rfl (any_of HT_.out (by kernel_rfl)) (fun _ _ _ h => h) (Or.inl ⟨by rfl, ?_⟩) ?_ ?_
              rotate_left
              · intro w'
                go_simp
                with_reducible rfl
              rotate_left
              · simp only [Act.put, List.setIfInBounds_toArray, List.set_cons_zero, List.set_cons_succ, i64_w, i32_w]
                rfl
              refine take_ (i := 1) (N := some 22) (v := ?_) (a' := ?_) #[true, true, false, false, false, false, false, true, false, false, false, false, true, false, false] rfl rfl (take_ofW HT_.out HW_.out (by kernel_rfl)) (fun _ _ _ h => h) (Or.inl ⟨by rfl, ?_⟩) hHeld ?_ ?_
              rotate_left
              · rintro w' ⟨s0, s1, s2, s3⟩
                go_simp
                with_reducible rfl
              rotate_left
              · simp only [Act.put, List.setIfInBounds_toArray, List.set_cons_zero, List.set_cons_succ, i64_w, i32_w]
                rfl
              refine pure_ (i := 2) (N := some 23) (v := ?_) (a' := ?_) #[true, true, true, false, false, false, false, true, false, false, false, false, true, false, false] rfl rfl (any_of HT_.out (by kernel_rfl)) (fun _ _ _ h => h) (Or.inl ⟨by rfl, ?_⟩) ?_ ?_
              rotate_left
              · intro w'
                go_simp
                with_reducible rfl
              rotate_left
              · simp only [Act.put, List.setIfInBounds_toArray, List.set_cons_zero, List.set_cons_succ, i64_w, i32_w]
                rfl
              refine pure_ (i := 3) (N := some 24) (v := ?_) (a' := ?_) #[true, true, true, true, false, false, false, true, false, false, false, false, true, false, false] rfl rfl (any_of HT_.out (by kernel_rfl)) (fun _ _ _ h => h) (Or.inl ⟨by rfl, ?_⟩) ?_ ?_
              rotate_left
              · intro w'
                go_simp
                with_reducible rfl
              rotate_left
              · simp only [Act.put, List.setIfInBounds_toArray, List.set_cons_zero, List.set_cons_succ, i64_w, i32_w]
                rfl
              refine take_ (i := 8) (N := some 29) (v := ?_) (a' := ?_) #[true, true, true, true, false, false, false, true, true, false, false, false, true, false, false] rfl rfl (take_ofW HT_.out HW_.out (by kernel_rfl)) (fun _ _ _ h => h) (Or.inl ⟨by rfl, ?_⟩) hHeld ?_ ?_
              rotate_left
              · rintro w' ⟨s0, s1, s2, s3⟩
                go_simp
                with_reducible rfl
              rotate_left
              · simp only [Act.put, List.setIfInBounds_toArray, List.set_cons_zero, List.set_cons_succ, i64_w, i32_w]
                rfl
              refine pure_ (i := 9) (N := some 30) (v := ?_) (a' := ?_) #[true, true, true, true, false, false, false, true, true, true, false, false, true, false, false] rfl rfl (any_of HT_.out (by kernel_rfl)) (fun _ _ _ h => h) (Or.inl ⟨by rfl, ?_⟩) ?_ ?_
              rotate_left
              · intro w'
                go_simp
                with_reducible rfl
              rotate_left
              · simp only [Act.put, List.setIfInBounds_toArray, List.set_cons_zero, List.set_cons_succ, i64_w, i32_w]
                rfl
              refine one_ (i := 4) (N := some 25) #[true, true, true, true, true, false, false, true, true, true, false, false, true, false, false] rfl rfl (one_of HT_.out (by kernel_rfl)) (by decide) (fun K hK => ?_)
              refine goes_ Try.func25 (by kernel_rfl) rfl #[.int .u64 (IntKind.u64.wrap (a0_1 / 262144)), .int .i64 11] (by rfl) rfl rfl (by (try simp only [List.map_toArray, List.map_cons, List.map_nil]); first | done | rfl | (simp only [List.length_drop, List.length_take]; rfl)) ?_
              with_reducible refine (ostinatoref1_Of.calls (IntKind.u64.wrap (a0_1 / 262144)) 11 t121 _ A6.out).mono ?_
              rintro e w17 ⟨rfl, hb⟩
              refine ⟨_, rfl, ?_⟩
              have n0_ := Aside0.mk (blk_below (g := gb118) (o := .cells #[.bool true, .int .u32 a0_1, .bool a0_2, .string a0_3] 24 (0, 0)) (by (with_reducible repeat (first | refine blk_drewN ?_ _ | refine blk_drew ?_ | refine blk_alloc ?_ _)); exact BK118.out) hb)
              have n1_ := Aside0.mk (below_step (by repeat (first | (with_reducible first | exact HB.out | apply below_alloc | apply pw_below_drewN | apply below_drew1 | refine below_set ?_ GE118.out) | exact HB.out)) hb)
              clear BK118
              clear HB
              have BK118 := n0_
              have HB := n1_
              clear n0_ n1_
              (try clear hb)
              (try clear hb2)
              (try clear hk)
              (try clear hi)
              refine hK.out _ _ ⟨(blk_cell BK118.out 0).trans rfl, (blk_cell BK118.out 1).trans rfl, (blk_cell BK118.out 2).trans rfl, (blk_cell BK118.out 3).trans rfl⟩ (fun hHeld => ?_)
              clear hK K
              refine norm_ (a' := ?_) ?_ ?_
              rotate_left
              · show Act.put _ (some 25) _ = _
                simp only [Act.put, List.setIfInBounds_toArray, List.set_cons_zero, List.set_cons_succ, i64_w, i32_w]
                rfl
              refine pure_ (i := 5) (N := some 26) (v := ?_) (a' := ?_) #[true, true, true, true, true, true, false, true, true, true, false, false, true, false, false] rfl rfl (any_of HT_.out (by kernel_rfl)) (fun _ _ _ h => h) (Or.inl ⟨by rfl, ?_⟩) ?_ ?_
              rotate_left
              · intro w'
                go_simp
                with_reducible rfl
              rotate_left
              · simp only [Act.put, List.setIfInBounds_toArray, List.set_cons_zero, List.set_cons_succ, i64_w, i32_w]
                rfl
              refine pure_ (i := 6) (N := some 27) (v := ?_) (a' := ?_) #[true, true, true, true, true, true, true, true, true, true, false, false, true, false, false] rfl rfl (any_of HT_.out (by kernel_rfl)) (fun _ _ _ h => h) (Or.inl ⟨by rfl, ?_⟩) ?_ ?_
              rotate_left
              · intro w'
                go_simp
                with_reducible rfl
              rotate_left
              · simp only [Act.put, List.setIfInBounds_toArray, List.set_cons_zero, List.set_cons_succ, i64_w, i32_w]
                rfl
              refine one_ (i := 10) (N := some 31) #[true, true, true, true, true, true, true, true, true, true, true, false, true, false, false] rfl rfl (one_of HT_.out (by kernel_rfl)) (by decide) (fun K hK => ?_)
              refine goes_ Try.func25 (by kernel_rfl) rfl #[.int .u64 (IntKind.u64.wrap (a0_1)), .int .i64 18] (by rfl) rfl rfl (by (try simp only [List.map_toArray, List.map_cons, List.map_nil]); first | done | rfl | (simp only [List.length_drop, List.length_take]; rfl)) ?_
              with_reducible refine (ostinatoref1_Of.calls (IntKind.u64.wrap (a0_1)) 18 t122 _ A9.out).mono ?_
              rintro e w18 ⟨rfl, hb⟩
              refine ⟨_, rfl, ?_⟩
              have n0_ := Aside0.mk (blk_below (g := gb118) (o := .cells #[.bool true, .int .u32 a0_1, .bool a0_2, .string a0_3] 24 (0, 0)) (by (with_reducible repeat (first | refine blk_drewN ?_ _ | refine blk_drew ?_ | refine blk_alloc ?_ _)); exact BK118.out) hb)
              have n1_ := Aside0.mk (below_step (by repeat (first | (with_reducible first | exact HB.out | apply below_alloc | apply pw_below_drewN | apply below_drew1 | refine below_set ?_ GE118.out) | exact HB.out)) hb)
              clear BK118
              clear HB
              have BK118 := n0_
              have HB := n1_
              clear n0_ n1_
              (try clear hb)
              (try clear hb2)
              (try clear hk)
              (try clear hi)
              refine hK.out _ _ ⟨(blk_cell BK118.out 0).trans rfl, (blk_cell BK118.out 1).trans rfl, (blk_cell BK118.out 2).trans rfl, (blk_cell BK118.out 3).trans rfl⟩ (fun hHeld => ?_)
              clear hK K
              refine norm_ (a' := ?_) ?_ ?_
              rotate_left
              · show Act.put _ (some 31) _ = _
                simp only [Act.put, List.setIfInBounds_toArray, List.set_cons_zero, List.set_cons_succ, i64_w, i32_w]
                rfl
              refine pure_ (i := 11) (N := some 32) (v := ?_) (a' := ?_) #[true, true, true, true, true, true, true, true, true, true, true, true, true, false, false] rfl rfl (any_of HT_.out (by kernel_rfl)) (fun _ _ _ h => h) (Or.inl ⟨by rfl, ?_⟩) ?_ ?_
              rotate_left
              · intro w'
                go_simp
                with_reducible rfl
              rotate_left
              · simp only [Act.put, List.setIfInBounds_toArray, List.set_cons_zero, List.set_cons_succ, i64_w, i32_w]
                rfl
              refine pure_ (i := 13) (N := some 34) (v := ?_) (a' := ?_) #[true, true, true, true, true, true, true, true, true, true, true, true, true, true, false] rfl rfl (any_of HT_.out (by kernel_rfl)) (fun _ _ _ h => h) (Or.inl ⟨by rfl, ?_⟩) ?_ ?_
              rotate_left
              · intro w'
                go_simp
                with_reducible rfl
              rotate_left
              · simp only [Act.put, List.setIfInBounds_toArray, List.set_cons_zero, List.set_cons_succ, i64_w, i32_w]
                rfl
              refine pure_ (i := 14) (N := some 2) (v := ?_) (a' := ?_) #[true, true, true, true, true, true, true, true, true, true, true, true, true, true, true] rfl rfl (any_of HT_.out (by kernel_rfl)) (fun _ _ _ h => h) (Or.inl ⟨by rfl, ?_⟩) ?_ ?_
              rotate_left
              · intro w'
                go_simp
                with_reducible rfl
              rotate_left
              · simp only [Act.put, List.setIfInBounds_toArray, List.set_cons_zero, List.set_cons_succ, i64_w, i32_w]
                rfl
              refine done_ (done_of HT_.out (by kernel_rfl)) ?_
              try go_wp2
              go_ret
              exact ⟨by first | rfl | (simp [errW_none, errW_some] <;> rfl) | (simp [*, errW_none, errW_some] <;> rfl), by repeat (first | (with_reducible first | exact HB.out | apply below_alloc | apply pw_below_drewN | apply below_drew1 | refine below_set ?_ GE118.out) | exact HB.out)⟩
            · rw [if_neg c11] at H
              exact absurd H (by simp)
          · rw [if_neg c10] at H
            exact absurd H (by simp)
        · rw [if_neg c8] at H
          exact absurd H (by simp)
      · rw [if_neg c7] at H
        exact absurd H (by simp)
    · replace c5 := Bool.eq_false_iff.mpr c5
      subst c5
      have H1 : ((ostinatoref1_Of.f (IntKind.u64.wrap (a0_1)) 11).bind fun t123 => (if 1 + t123.size ≤ 9223372036854775807 then (if ((⟨#[48]⟩ : ByteArray) ++ t123).size + t120.size ≤ 9223372036854775807 then (if (((⟨#[48]⟩ : ByteArray) ++ t123) ++ t120).size + 1 ≤ 9223372036854775807 then (some ((((⟨#[48]⟩ : ByteArray) ++ t123) ++ t120) ++ (⟨#[48]⟩ : ByteArray))) else (none)) else (none)) else (none))) = some r := by rw [if_neg (show ¬ (false = true) by decide)] at H; exact H
      clear H
      have H := H1
      clear H1
      replace H := Option.bind_eq_some_iff.mp H
      obtain ⟨t123, A190, H⟩ := H
      replace H : (if 1 + t123.size ≤ 9223372036854775807 then (if ((⟨#[48]⟩ : ByteArray) ++ t123).size + t120.size ≤ 9223372036854775807 then (if (((⟨#[48]⟩ : ByteArray) ++ t123) ++ t120).size + 1 ≤ 9223372036854775807 then (some ((((⟨#[48]⟩ : ByteArray) ++ t123) ++ t120) ++ (⟨#[48]⟩ : ByteArray))) else (none)) else (none)) else (none)) = some r := H
      have A19 := Aside0.mk A190
      clear A190
      by_cases c20 : 1 + t123.size ≤ 9223372036854775807
      · rw [if_pos c20] at H
        have c20b0 := eq_true c20
        have c20b1 : decide (1 + t123.size ≤ 9223372036854775807) = true := decide_eq_true c20
        try have c20b2 : (9223372036854775807 < 1 + t123.size) = False := eq_false (Nat.not_lt.2 c20)
        by_cases c21 : ((⟨#[48]⟩ : ByteArray) ++ t123).size + t120.size ≤ 9223372036854775807
        · rw [if_pos c21] at H
          have c21b0 := eq_true c21
          have c21s0 := c21
          (try simp only [ByteArray.size_append, sz1, sz2] at c21s0)
          have c21s1 := eq_false (Nat.not_lt.2 c21s0)
          have c21s2 := c21s1
          (try simp only [Nat.add_assoc, Nat.reduceAdd] at c21s2)
          have c21b1 : decide (((⟨#[48]⟩ : ByteArray) ++ t123).size + t120.size ≤ 9223372036854775807) = true := decide_eq_true c21
          try have c21b2 : (9223372036854775807 < ((⟨#[48]⟩ : ByteArray) ++ t123).size + t120.size) = False := eq_false (Nat.not_lt.2 c21)
          by_cases c22 : (((⟨#[48]⟩ : ByteArray) ++ t123) ++ t120).size + 1 ≤ 9223372036854775807
          · rw [if_pos c22] at H
            have c22b0 := eq_true c22
            have c22s0 := c22
            (try simp only [ByteArray.size_append, sz1, sz2] at c22s0)
            have c22s1 := eq_false (Nat.not_lt.2 c22s0)
            have c22s2 := c22s1
            (try simp only [Nat.add_assoc, Nat.reduceAdd] at c22s2)
            have c22b1 : decide ((((⟨#[48]⟩ : ByteArray) ++ t123) ++ t120).size + 1 ≤ 9223372036854775807) = true := decide_eq_true c22
            try have c22b2 : (9223372036854775807 < (((⟨#[48]⟩ : ByteArray) ++ t123) ++ t120).size + 1) = False := eq_false (Nat.not_lt.2 c22)
            obtain rfl := Option.some.inj H
            go_enter Try.func27, Try.ntmps27
            go_wp2_with (first | ((with_reducible refine gate_dst (N := 1) rfl ?_); refine box_event ?hg (N := 1) ?hd (cs := #[.bool false, .int .u32 a0_1, .bool a0_2, .string a0_3]) (t := 24) ?hr ?_; (case hd => rfl); (case hg => rfl); (case hr => first | (go_simp; done) | (go_simp; rfl)); intro gb118 hg w23 hbox hb; have n0_ := Aside0.mk (below_step (by repeat (first | (with_reducible first | exact HB.out | apply below_alloc | apply pw_below_drewN | apply below_drew1) | exact HB.out)) hb); have n1_ := Aside0.mk (hbox); have n2_ := Aside0.mk ((by rw [hg]; exact (below_size (by repeat (first | (with_reducible first | exact HB.out | apply below_alloc | apply pw_below_drewN | apply below_drew1) | exact HB.out))) : w.heap.size ≤ gb118)); have n3_ := Aside0.mk ((by rw [hg]; exact (below_size (by repeat (first | (with_reducible first | exact HB.out | apply below_alloc | apply pw_below_drewN | apply below_drew1) | exact HB.out))) : w.heap.size ≤ gb118)); clear HB; have HB := n0_; have BK118 := n1_; have GW118 := n2_; have GE118 := n3_; clear n0_ n1_ n2_ n3_; clear hb hbox hg; have hcz24_0 : w23.cell? ⟨gb118, 0, none⟩ = some (.bool false) := (blk_cell BK118.out 0).trans rfl; have hcz24_1 : w23.cell? ⟨gb118, 1, none⟩ = some (.int .u32 a0_1) := (blk_cell BK118.out 1).trans rfl; have hcz24_2 : w23.cell? ⟨gb118, 2, none⟩ = some (.bool a0_2) := (blk_cell BK118.out 2).trans rfl; have hcz24_3 : w23.cell? ⟨gb118, 3, none⟩ = some (.string a0_3) := (blk_cell BK118.out 3).trans rfl; have hfz24_0 := blk_frozen BK118.out 0; have hfz24_1 := blk_frozen BK118.out 1; have hfz24_2 := blk_frozen BK118.out 2; have hfz24_3 := blk_frozen BK118.out 3) | ((with_reducible refine gate_callee (f := 22) rfl ?_); refine goesL_ (some 5) rfl rfl Try.func22 (by kernel_rfl) rfl #[.agg #[.bool false, .int .u32 a0_1, .bool a0_2, .string a0_3]] rfl (by (try simp only [List.map_toArray, List.map_cons, List.map_nil]); first | done | rfl | (simp only [List.length_drop, List.length_take]; rfl)) ?_; (with_reducible refine (ostinatoref3_Is.calls false a0_1 a0_2 a0_3 true _ A2.out).mono ?_); rintro e w25 ⟨rfl, hb⟩; refine ⟨_, rfl, ?_⟩; have n0_ := Aside0.mk (blk_below (g := gb118) (o := .cells #[.bool false, .int .u32 a0_1, .bool a0_2, .string a0_3] 24 (0, 0)) (by (with_reducible repeat (first | refine blk_drewN ?_ _ | refine blk_drew ?_ | refine blk_alloc ?_ _)); exact BK118.out) hb); have n1_ := Aside0.mk (below_step (by repeat (first | (with_reducible first | exact HB.out | apply below_alloc | apply pw_below_drewN | apply below_drew1 | refine below_set ?_ GE118.out) | exact HB.out)) hb); clear BK118; clear HB; have BK118 := n0_; have HB := n1_; clear n0_ n1_; (try clear hb); (try clear hb2); (try clear hk); (try clear hi); have hcz26_0 : w25.cell? ⟨gb118, 0, none⟩ = some (.bool false) := (blk_cell BK118.out 0).trans rfl; have hcz26_1 : w25.cell? ⟨gb118, 1, none⟩ = some (.int .u32 a0_1) := (blk_cell BK118.out 1).trans rfl; have hcz26_2 : w25.cell? ⟨gb118, 2, none⟩ = some (.bool a0_2) := (blk_cell BK118.out 2).trans rfl; have hcz26_3 : w25.cell? ⟨gb118, 3, none⟩ = some (.string a0_3) := (blk_cell BK118.out 3).trans rfl; have hfz26_0 := blk_frozen BK118.out 0; have hfz26_1 := blk_frozen BK118.out 1; have hfz26_2 := blk_frozen BK118.out 2; have hfz26_3 := blk_frozen BK118.out 3) | ((with_reducible refine gate_callee (f := 28) rfl ?_); refine goesL_ (some 9) rfl rfl Try.func28 (by kernel_rfl) rfl #[.bool a0_2] rfl (by (try simp only [List.map_toArray, List.map_cons, List.map_nil]); first | done | rfl | (simp only [List.length_drop, List.length_take]; rfl)) ?_; (with_reducible refine (ostinatoref1_Bit.calls a0_2 t120 _ A4.out).mono ?_); rintro e w' ⟨rfl, ⟨nd, rfl⟩⟩; refine ⟨_, rfl, ?_⟩) | ((with_reducible refine gate_callee (f := 25) rfl ?_); refine goesL_ (some 16) rfl rfl Try.func25 (by kernel_rfl) rfl #[.int .u64 (IntKind.u64.wrap (a0_1)), .int .i64 11] rfl (by (try simp only [List.map_toArray, List.map_cons, List.map_nil]); first | done | rfl | (simp only [List.length_drop, List.length_take]; rfl)) ?_; (with_reducible refine (ostinatoref1_Of.calls (IntKind.u64.wrap (a0_1)) 11 t123 _ A19.out).mono ?_); rintro e w27 ⟨rfl, hb⟩; refine ⟨_, rfl, ?_⟩; have n0_ := Aside0.mk (blk_below (g := gb118) (o := .cells #[.bool false, .int .u32 a0_1, .bool a0_2, .string a0_3] 24 (0, 0)) (by (with_reducible repeat (first | refine blk_drewN ?_ _ | refine blk_drew ?_ | refine blk_alloc ?_ _)); exact BK118.out) hb); have n1_ := Aside0.mk (below_step (by repeat (first | (with_reducible first | exact HB.out | apply below_alloc | apply pw_below_drewN | apply below_drew1 | refine below_set ?_ GE118.out) | exact HB.out)) hb); clear BK118; clear HB; have BK118 := n0_; have HB := n1_; clear n0_ n1_; (try clear hb); (try clear hb2); (try clear hk); (try clear hi)))
            go_ret
            exact ⟨by first | rfl | (simp [errW_none, errW_some] <;> rfl) | (simp [*, errW_none, errW_some] <;> rfl), by repeat (first | (with_reducible first | exact HB.out | apply below_alloc | apply pw_below_drewN | apply below_drew1 | refine below_set ?_ GE118.out) | exact HB.out)⟩
          · rw [if_neg c22] at H
            exact absurd H (by simp)
        · rw [if_neg c21] at H
          exact absurd H (by simp)
      · rw [if_neg c20] at H
        exact absurd H (by simp)
  · replace c3 := Bool.eq_false_iff.mpr c3
    subst c3
    have H1 : (some (⟨#[]⟩ : ByteArray)) = some r := by rw [if_neg (show ¬ (false = true) by decide)] at H; exact H
    clear H
    have H := H1
    clear H1
    obtain rfl := Option.some.inj H
    go_enter Try.func27, Try.ntmps27
    go_wp2_with (first | ((with_reducible refine gate_dst (N := 1) rfl ?_); refine box_event ?hg (N := 1) ?hd (cs := #[.bool a0_0, .int .u32 a0_1, .bool a0_2, .string a0_3]) (t := 24) ?hr ?_; (case hd => rfl); (case hg => rfl); (case hr => first | (go_simp; done) | (go_simp; rfl)); intro gb118 hg w28 hbox hb; have n0_ := Aside0.mk (below_step (by repeat (first | (with_reducible first | exact HB.out | apply below_alloc | apply pw_below_drewN | apply below_drew1) | exact HB.out)) hb); have n1_ := Aside0.mk (hbox); have n2_ := Aside0.mk ((by rw [hg]; exact (below_size (by repeat (first | (with_reducible first | exact HB.out | apply below_alloc | apply pw_below_drewN | apply below_drew1) | exact HB.out))) : w.heap.size ≤ gb118)); have n3_ := Aside0.mk ((by rw [hg]; exact (below_size (by repeat (first | (with_reducible first | exact HB.out | apply below_alloc | apply pw_below_drewN | apply below_drew1) | exact HB.out))) : w.heap.size ≤ gb118)); clear HB; have HB := n0_; have BK118 := n1_; have GW118 := n2_; have GE118 := n3_; clear n0_ n1_ n2_ n3_; clear hb hbox hg; have hcz29_0 : w28.cell? ⟨gb118, 0, none⟩ = some (.bool a0_0) := (blk_cell BK118.out 0).trans rfl; have hcz29_1 : w28.cell? ⟨gb118, 1, none⟩ = some (.int .u32 a0_1) := (blk_cell BK118.out 1).trans rfl; have hcz29_2 : w28.cell? ⟨gb118, 2, none⟩ = some (.bool a0_2) := (blk_cell BK118.out 2).trans rfl; have hcz29_3 : w28.cell? ⟨gb118, 3, none⟩ = some (.string a0_3) := (blk_cell BK118.out 3).trans rfl; have hfz29_0 := blk_frozen BK118.out 0; have hfz29_1 := blk_frozen BK118.out 1; have hfz29_2 := blk_frozen BK118.out 2; have hfz29_3 := blk_frozen BK118.out 3) | ((with_reducible refine gate_callee (f := 22) rfl ?_); refine goesL_ (some 5) rfl rfl Try.func22 (by kernel_rfl) rfl #[.agg #[.bool a0_0, .int .u32 a0_1, .bool a0_2, .string a0_3]] rfl (by (try simp only [List.map_toArray, List.map_cons, List.map_nil]); first | done | rfl | (simp only [List.length_drop, List.length_take]; rfl)) ?_; (with_reducible refine (ostinatoref3_Is.calls a0_0 a0_1 a0_2 a0_3 false _ A2.out).mono ?_); rintro e w30 ⟨rfl, hb⟩; refine ⟨_, rfl, ?_⟩; have n0_ := Aside0.mk (blk_below (g := gb118) (o := .cells #[.bool a0_0, .int .u32 a0_1, .bool a0_2, .string a0_3] 24 (0, 0)) (by (with_reducible repeat (first | refine blk_drewN ?_ _ | refine blk_drew ?_ | refine blk_alloc ?_ _)); exact BK118.out) hb); have n1_ := Aside0.mk (below_step (by repeat (first | (with_reducible first | exact HB.out | apply below_alloc | apply pw_below_drewN | apply below_drew1 | refine below_set ?_ GE118.out) | exact HB.out)) hb); clear BK118; clear HB; have BK118 := n0_; have HB := n1_; clear n0_ n1_; (try clear hb); (try clear hb2); (try clear hk); (try clear hi)))
    go_ret
    exact ⟨by first | rfl | (simp [errW_none, errW_some] <;> rfl) | (simp [*, errW_none, errW_some] <;> rfl), by repeat (first | (with_reducible first | exact HB.out | apply below_alloc | apply pw_below_drewN | apply below_drew1 | refine below_set ?_ GE118.out) | exact HB.out)⟩

/-! ### ostinatoref3_Body: function 23 -/
def ostinatoref3_Body.f (a0_0 : Bool) (a0_1 : Int) (a0_2 : Bool) (a0_3 : ByteArray) : Option (ByteArray) := (ostinatoref3_Is.f a0_0 a0_1 a0_2 a0_3).bind fun t125 => (if t125 = true then ((ostinatoref3_Arb.f a0_0 a0_1 a0_2 a0_3).bind fun t126 => (if t126.size + 1 ≤ 9223372036854775807 then (if a0_0 = true then (if (t126 ++ (⟨#[48]⟩ : ByteArray)).size + 1 ≤ 9223372036854775807 then ((ostinatoref1_Of.f (IntKind.u64.wrap ((a0_3.size : Int))) 4).bind fun t127 => (if ((t126 ++ (⟨#[48]⟩ : ByteArray)) ++ (⟨#[48]⟩ : ByteArray)).size + t127.size ≤ 9223372036854775807 then ((ostinatoref1_FromBytes.f a0_3).bind fun t128 => (if (((t126 ++ (⟨#[48]⟩ : ByteArray)) ++ (⟨#[48]⟩ : ByteArray)) ++ t127).size + t128.size ≤ 9223372036854775807 then (some ((((t126 ++ (⟨#[48]⟩ : ByteArray)) ++ (⟨#[48]⟩ : ByteArray)) ++ t127) ++ t128)) else (none))) else (none))) else (none)) else ((ostinatoref1_Of.f (IntKind.u64.wrap ((a0_3.size : Int))) 4).bind fun t129 => (if (t126 ++ (⟨#[48]⟩ : ByteArray)).size + t129.size ≤ 9223372036854775807 then ((ostinatoref1_FromBytes.f a0_3).bind fun t130 => (if ((t126 ++ (⟨#[48]⟩ : ByteArray)) ++ t129).size + t130.size ≤ 9223372036854775807 then (some (((t126 ++ (⟨#[48]⟩ : ByteArray)) ++ t129) ++ t130)) else (none))) else (none)))) else (none))) else (some (⟨#[]⟩ : ByteArray)))
def ostinatoref3_Body.T6 : Bool × List (List Nat × List Nat) := (true, [([], []), ([], []), ([1], [1]), ([2], [2]), ([3], [3]), ([4], [4]), ([0, 5], [0, 5]), ([], []), ([7], [7]), ([8, 5], [8]), ([6, 9], [6, 9]), ([10, 9, 0, 1, 2, 3, 4, 5, 6, 7, 8, 9, 10], [10])])
def ostinatoref3_Body.B6 : List Nat := [0, 0, 2, 6, 14, 30, 63, 0, 128, 446, 1023, 2047]
theorem ostinatoref3_Body.tab6 : rtab .any (opsOf Try.f23 6) = ostinatoref3_Body.T6 := by kernel_rfl
theorem ostinatoref3_Body.bits6 : waitsOk ostinatoref3_Body.T6.2 ostinatoref3_Body.B6 = true := by kernel_rfl
set_option maxHeartbeats 8000000 in
set_option maxRecDepth 100000 in
theorem ostinatoref3_Body.calls (a0_0 : Bool) (a0_1 : Int) (a0_2 : Bool) (a0_3 : ByteArray) (r : ByteArray) (w : World) (h : ostinatoref3_Body.f a0_0 a0_1 a0_2 a0_3 = some r) :
    Calls Try.prog 23 #[.agg #[.bool a0_0, .int .u32 a0_1, .bool a0_2, .string a0_3]] w fun e w' => e = .returned (.string r) ∧ Below w.heap.size w w' := by
  have hu24 := Try.underlying24
  have HB := Aside0.mk (Below.refl w.heap.size w)
  have H : ((ostinatoref3_Is.f a0_0 a0_1 a0_2 a0_3).bind fun t125 => (if t125 = true then ((ostinatoref3_Arb.f a0_0 a0_1 a0_2 a0_3).bind fun t126 => (if t126.size + 1 ≤ 9223372036854775807 then (if a0_0 = true then (if (t126 ++ (⟨#[48]⟩ : ByteArray)).size + 1 ≤ 9223372036854775807 then ((ostinatoref1_Of.f (IntKind.u64.wrap ((a0_3.size : Int))) 4).bind fun t127 => (if ((t126 ++ (⟨#[48]⟩ : ByteArray)) ++ (⟨#[48]⟩ : ByteArray)).size + t127.size ≤ 9223372036854775807 then ((ostinatoref1_FromBytes.f a0_3).bind fun t128 => (if (((t126 ++ (⟨#[48]⟩ : ByteArray)) ++ (⟨#[48]⟩ : ByteArray)) ++ t127).size + t128.size ≤ 9223372036854775807 then (some ((((t126 ++ (⟨#[48]⟩ : ByteArray)) ++ (⟨#[48]⟩ : ByteArray)) ++ t127) ++ t128)) else (none))) else (none))) else (none)) else ((ostinatoref1_Of.f (IntKind.u64.wrap ((a0_3.size : Int))) 4).bind fun t129 => (if (t126 ++ (⟨#[48]⟩ : ByteArray)).size + t129.size ≤ 9223372036854775807 then ((ostinatoref1_FromBytes.f a0_3).bind fun t130 => (if ((t126 ++ (⟨#[48]⟩ : ByteArray)) ++ t129).size + t130.size ≤ 9223372036854775807 then (some (((t126 ++ (⟨#[48]⟩ : ByteArray)) ++ t129) ++ t130)) else (none))) else (none)))) else (none))) else (some (⟨#[]⟩ : ByteArray)))) = some r := h
  clear h
  replace H := Option.bind_eq_some_iff.mp H
  obtain ⟨t125, A20, H⟩ := H
  replace H : (if t125 = true then ((ostinatoref3_Arb.f a0_0 a0_1 a0_2 a0_3).bind fun t126 => (if t126.size + 1 ≤ 9223372036854775807 then (if a0_0 = true then (if (t126 ++ (⟨#[48]⟩ : ByteArray)).size + 1 ≤ 9223372036854775807 then ((ostinatoref1_Of.f (IntKind.u64.wrap ((a0_3.size : Int))) 4).bind fun t127 => (if ((t126 ++ (⟨#[48]⟩ : ByteArray)) ++ (⟨#[48]⟩ : ByteArray)).size + t127.size ≤ 9223372036854775807 then ((ostinatoref1_FromBytes.f a0_3).bind fun t128 => (if (((t126 ++ (⟨#[48]⟩ : ByteArray)) ++ (⟨#[48]⟩ : ByteArray)) ++ t127).size + t128.size ≤ 9223372036854775807 then (some ((((t126 ++ (⟨#[48]⟩ : ByteArray)) ++ (⟨#[48]⟩ : ByteArray)) ++ t127) ++ t128)) else (none))) else (none))) else (none)) else ((ostinatoref1_Of.f (IntKind.u64.wrap ((a0_3.size : Int))) 4).bind fun t129 => (if (t126 ++ (⟨#[48]⟩ : ByteArray)).size + t129.size ≤ 9223372036854775807 then ((ostinatoref1_FromBytes.f a0_3).bind fun t130 => (if ((t126 ++ (⟨#[48]⟩ : ByteArray)) ++ t129).size + t130.size ≤ 9223372036854775807 then (some (((t126 ++ (⟨#[48]⟩ : ByteArray)) ++ t129) ++ t130)) else (none))) else (none)))) else (none))) else (some (⟨#[]⟩ : ByteArray))) = some r := H
  have A2 := Aside0.mk A20
  clear A20
  by_cases c3 : t125 = true
  · subst c3
    have H1 : ((ostinatoref3_Arb.f a0_0 a0_1 a0_2 a0_3).bind fun t126 => (if t126.size + 1 ≤ 9223372036854775807 then (if a0_0 = true then (if (t126 ++ (⟨#[48]⟩ : ByteArray)).size + 1 ≤ 9223372036854775807 then ((ostinatoref1_Of.f (IntKind.u64.wrap ((a0_3.size : Int))) 4).bind fun t127 => (if ((t126 ++ (⟨#[48]⟩ : ByteArray)) ++ (⟨#[48]⟩ : ByteArray)).size + t127.size ≤ 9223372036854775807 then ((ostinatoref1_FromBytes.f a0_3).bind fun t128 => (if (((t126 ++ (⟨#[48]⟩ : ByteArray)) ++ (⟨#[48]⟩ : ByteArray)) ++ t127).size + t128.size ≤ 9223372036854775807 then (some ((((t126 ++ (⟨#[48]⟩ : ByteArray)) ++ (⟨#[48]⟩ : ByteArray)) ++ t127) ++ t128)) else (none))) else (none))) else (none)) else ((ostinatoref1_Of.f (IntKind.u64.wrap ((a0_3.size : Int))) 4).bind fun t129 => (if (t126 ++ (⟨#[48]⟩ : ByteArray)).size + t129.size ≤ 9223372036854775807 then ((ostinatoref1_FromBytes.f a0_3).bind fun t130 => (if ((t126 ++ (⟨#[48]⟩ : ByteArray)) ++ t129).size + t130.size ≤ 9223372036854775807 then (some (((t126 ++ (⟨#[48]⟩ : ByteArray)) ++ t129) ++ t130)) else (none))) else (none)))) else (none))) = some r := by rw [if_pos rfl] at H; exact H
    clear H
    have H := H1
    clear H1
    replace H := Option.bind_eq_some_iff.mp H
    obtain ⟨t126, A40, H⟩ := H
    replace H : (if t126.size + 1 ≤ 9223372036854775807 then (if a0_0 = true then (if (t126 ++ (⟨#[48]⟩ : ByteArray)).size + 1 ≤ 9223372036854775807 then ((ostinatoref1_Of.f (IntKind.u64.wrap ((a0_3.size : Int))) 4).bind fun t127 => (if ((t126 ++ (⟨#[48]⟩ : ByteArray)) ++ (⟨#[48]⟩ : ByteArray)).size + t127.size ≤ 9223372036854775807 then ((ostinatoref1_FromBytes.f a0_3).bind fun t128 => (if (((t126 ++ (⟨#[48]⟩ : ByteArray)) ++ (⟨#[48]⟩ : ByteArray)) ++ t127).size + t128.size ≤ 9223372036854775807 then (some ((((t126 ++ (⟨#[48]⟩ : ByteArray)) ++ (⟨#[48]⟩ : ByteArray)) ++ t127) ++ t128)) else (none))) else (none))) else (none)) else ((ostinatoref1_Of.f (IntKind.u64.wrap ((a0_3.size : Int))) 4).bind fun t129 => (if (t126 ++ (⟨#[48]⟩ : ByteArray)).size + t129.size ≤ 9223372036854775807 then ((ostinatoref1_FromBytes.f a0_3).bind fun t130 => (if ((t126 ++ (⟨#[48]⟩ : ByteArray)) ++ t129).size + t130.size ≤ 9223372036854775807 then (some (((t126 ++ (⟨#[48]⟩ : ByteArray)) ++ t129) ++ t130)) else (none))) else (none)))) else (none)) = some r := H
    have A4 := Aside0.mk A40
    clear A40
    by_cases c5 : t126.size + 1 ≤ 9223372036854775807
    · rw [if_pos c5] at H
      have c5b0 := eq_true c5
      have c5b1 : decide (t126.size + 1 ≤ 9223372036854775807) = true := decide_eq_true c5
      try have c5b2 : (9223372036854775807 < t126.size + 1) = False := eq_false (Nat.not_lt.2 c5)
      by_cases c6 : a0_0 = true
      · subst c6
        have H1 : (if (t126 ++ (⟨#[48]⟩ : ByteArray)).size + 1 ≤ 9223372036854775807 then ((ostinatoref1_Of.f (IntKind.u64.wrap ((a0_3.size : Int))) 4).bind fun t127 => (if ((t126 ++ (⟨#[48]⟩ : ByteArray)) ++ (⟨#[48]⟩ : ByteArray)).size + t127.size ≤ 9223372036854775807 then ((ostinatoref1_FromBytes.f a0_3).bind fun t128 => (if (((t126 ++ (⟨#[48]⟩ : ByteArray)) ++ (⟨#[48]⟩ : ByteArray)) ++ t127).size + t128.size ≤ 9223372036854775807 then (some ((((t126 ++ (⟨#[48]⟩ : ByteArray)) ++ (⟨#[48]⟩ : ByteArray)) ++ t127) ++ t128)) else (none))) else (none))) else (none)) = some r := by rw [if_pos rfl] at H; exact H
        clear H
        have H := H1
        clear H1
        by_cases c7 : (t126 ++ (⟨#[48]⟩ : ByteArray)).size + 1 ≤ 9223372036854775807
        · rw [if_pos c7] at H
          have c7b0 := eq_true c7
          have c7s0 := c7
          (try simp only [ByteArray.size_append, sz1, sz2] at c7s0)
          have c7s1 := eq_false (Nat.not_lt.2 c7s0)
          have c7s2 := c7s1
          (try simp only [Nat.add_assoc, Nat.reduceAdd] at c7s2)
          have c7b1 : decide ((t126 ++ (⟨#[48]⟩ : ByteArray)).size + 1 ≤ 9223372036854775807) = true := decide_eq_true c7
          try have c7b2 : (9223372036854775807 < (t126 ++ (⟨#[48]⟩ : ByteArray)).size + 1) = False := eq_false (Nat.not_lt.2 c7)
          replace H := Option.bind_eq_some_iff.mp H
          obtain ⟨t127, A80, H⟩ := H
          replace H : (if ((t126 ++ (⟨#[48]⟩ : ByteArray)) ++ (⟨#[48]⟩ : ByteArray)).size + t127.size ≤ 9223372036854775807 then ((ostinatoref1_FromBytes.f a0_3).bind fun t128 => (if (((t126 ++ (⟨#[48]⟩ : ByteArray)) ++ (⟨#[48]⟩ : ByteArray)) ++ t127).size + t128.size ≤ 9223372036854775807 then (some ((((t126 ++ (⟨#[48]⟩ : ByteArray)) ++ (⟨#[48]⟩ : ByteArray)) ++ t127) ++ t128)) else (none))) else (none)) = some r := H
          have A8 := Aside0.mk A80
          clear A80
          by_cases c9 : ((t126 ++ (⟨#[48]⟩ : ByteArray)) ++ (⟨#[48]⟩ : ByteArray)).size + t127.size ≤ 9223372036854775807
          · rw [if_pos c9] at H
            have c9b0 := eq_true c9
            have c9s0 := c9
            (try simp only [ByteArray.size_append, sz1, sz2] at c9s0)
            have c9s1 := eq_false (Nat.not_lt.2 c9s0)
            have c9s2 := c9s1
            (try simp only [Nat.add_assoc, Nat.reduceAdd] at c9s2)
            have c9b1 : decide (((t126 ++ (⟨#[48]⟩ : ByteArray)) ++ (⟨#[48]⟩ : ByteArray)).size + t127.size ≤ 9223372036854775807) = true := decide_eq_true c9
            try have c9b2 : (9223372036854775807 < ((t126 ++ (⟨#[48]⟩ : ByteArray)) ++ (⟨#[48]⟩ : ByteArray)).size + t127.size) = False := eq_false (Nat.not_lt.2 c9)
            replace H := Option.bind_eq_some_iff.mp H
            obtain ⟨t128, A100, H⟩ := H
            replace H : (if (((t126 ++ (⟨#[48]⟩ : ByteArray)) ++ (⟨#[48]⟩ : ByteArray)) ++ t127).size + t128.size ≤ 9223372036854775807 then (some ((((t126 ++ (⟨#[48]⟩ : ByteArray)) ++ (⟨#[48]⟩ : ByteArray)) ++ t127) ++ t128)) else (none)) = some r := H
            have A10 := Aside0.mk A100
            clear A100
            by_cases c11 : (((t126 ++ (⟨#[48]⟩ : ByteArray)) ++ (⟨#[48]⟩ : ByteArray)) ++ t127).size + t128.size ≤ 9223372036854775807
            · rw [if_pos c11] at H
              have c11b0 := eq_true c11
              have c11s0 := c11
              (try simp only [ByteArray.size_append, sz1, sz2] at c11s0)
              have c11s1 := eq_false (Nat.not_lt.2 c11s0)
              have c11s2 := c11s1
              (try simp only [Nat.add_assoc, Nat.reduceAdd] at c11s2)
              have c11b1 : decide ((((t126 ++ (⟨#[48]⟩ : ByteArray)) ++ (⟨#[48]⟩ : ByteArray)) ++ t127).size + t128.size ≤ 9223372036854775807) = true := decide_eq_true c11
              try have c11b2 : (9223372036854775807 < (((t126 ++ (⟨#[48]⟩ : ByteArray)) ++ (⟨#[48]⟩ : ByteArray)) ++ t127).size + t128.size) = False := eq_false (Nat.not_lt.2 c11)
              obtain rfl := Option.some.inj H
              go_enter Try.func23, Try.ntmps23
              try go_wp2_with (first | ((with_reducible refine gate_dst (N := 1) rfl ?_); refine box_event ?hg (N := 1) ?hd (cs := #[.bool true, .int .u32 a0_1, .bool a0_2, .string a0_3]) (t := 24) ?hr ?_; (case hd => rfl); (case hg => rfl); (case hr => first | (go_simp; done) | (go_simp; rfl)); intro gb124 hg w12 hbox hb; have n0_ := Aside0.mk (below_step (by repeat (first | (with_reducible first | exact HB.out | apply below_alloc | apply pw_below_drewN | apply below_drew1) | exact HB.out)) hb); have n1_ := Aside0.mk (hbox); have n2_ := Aside0.mk ((by rw [hg]; exact (below_size (by repeat (first | (with_reducible first | exact HB.out | apply below_alloc | apply pw_below_drewN | apply below_drew1) | exact HB.out))) : w.heap.size ≤ gb124)); have n3_ := Aside0.mk ((by rw [hg]; exact (below_size (by repeat (first | (with_reducible first | exact HB.out | apply below_alloc | apply pw_below_drewN | apply below_drew1) | exact HB.out))) : w.heap.size ≤ gb124)); clear HB; have HB := n0_; have BK124 := n1_; have GW124 := n2_; have GE124 := n3_; clear n0_ n1_ n2_ n3_; clear hb hbox hg; have hcz13_0 : w12.cell? ⟨gb124, 0, none⟩ = some (.bool true) := (blk_cell BK124.out 0).trans rfl; have hcz13_1 : w12.cell? ⟨gb124, 1, none⟩ = some (.int .u32 a0_1) := (blk_cell BK124.out 1).trans rfl; have hcz13_2 : w12.cell? ⟨gb124, 2, none⟩ = some (.bool a0_2) := (blk_cell BK124.out 2).trans rfl; have hcz13_3 : w12.cell? ⟨gb124, 3, none⟩ = some (.string a0_3) := (blk_cell BK124.out 3).trans rfl; have hfz13_0 := blk_frozen BK124.out 0; have hfz13_1 := blk_frozen BK124.out 1; have hfz13_2 := blk_frozen BK124.out 2; have hfz13_3 := blk_frozen BK124.out 3) | ((with_reducible refine gate_callee (f := 22) rfl ?_); refine goesL_ (some 5) rfl rfl Try.func22 (by kernel_rfl) rfl #[.agg #[.bool true, .int .u32 a0_1, .bool a0_2, .string a0_3]] rfl (by (try simp only [List.map_toArray, List.map_cons, List.map_nil]); first | done | rfl | (simp only [List.length_drop, List.length_take]; rfl)) ?_; (with_reducible refine (ostinatoref3_Is.calls true a0_1 a0_2 a0_3 true _ A2.out).mono ?_); rintro e w14 ⟨rfl, hb⟩; refine ⟨_, rfl, ?_⟩; have n0_ := Aside0.mk (blk_below (g := gb124) (o := .cells #[.bool true, .int .u32 a0_1, .bool a0_2, .string a0_3] 24 (0, 0)) (by (with_reducible repeat (first | refine blk_drewN ?_ _ | refine blk_drew ?_ | refine blk_alloc ?_ _)); exact BK124.out) hb); have n1_ := Aside0.mk (below_step (by repeat (first | (with_reducible first | exact HB.out | apply below_alloc | apply pw_below_drewN | apply below_drew1 | refine below_set ?_ GE124.out) | exact HB.out)) hb); clear BK124; clear HB; have BK124 := n0_; have HB := n1_; clear n0_ n1_; (try clear hb); (try clear hb2); (try clear hk); (try clear hi); have hcz15_0 : w14.cell? ⟨gb124, 0, none⟩ = some (.bool true) := (blk_cell BK124.out 0).trans rfl; have hcz15_1 : w14.cell? ⟨gb124, 1, none⟩ = some (.int .u32 a0_1) := (blk_cell BK124.out 1).trans rfl; have hcz15_2 : w14.cell? ⟨gb124, 2, none⟩ = some (.bool a0_2) := (blk_cell BK124.out 2).trans rfl; have hcz15_3 : w14.cell? ⟨gb124, 3, none⟩ = some (.string a0_3) := (blk_cell BK124.out 3).trans rfl; have hfz15_0 := blk_frozen BK124.out 0; have hfz15_1 := blk_frozen BK124.out 1; have hfz15_2 := blk_frozen BK124.out 2; have hfz15_3 := blk_frozen BK124.out 3) | ((with_reducible refine gate_callee (f := 27) rfl ?_); refine goesL_ (some 8) rfl rfl Try.func27 (by kernel_rfl) rfl #[.agg #[.bool true, .int .u32 a0_1, .bool a0_2, .string a0_3]] rfl (by (try simp only [List.map_toArray, List.map_cons, List.map_nil]); first | done | rfl | (simp only [List.length_drop, List.length_take]; rfl)) ?_; (with_reducible refine (ostinatoref3_Arb.calls true a0_1 a0_2 a0_3 t126 _ A4.out).mono ?_); rintro e w16 ⟨rfl, hb⟩; refine ⟨_, rfl, ?_⟩; have n0_ := Aside0.mk (blk_below (g := gb124) (o := .cells #[.bool true, .int .u32 a0_1, .bool a0_2, .string a0_3] 24 (0, 0)) (by (with_reducible repeat (first | refine blk_drewN ?_ _ | refine blk_drew ?_ | refine blk_alloc ?_ _)); exact BK124.out) hb); have n1_ := Aside0.mk (below_step (by repeat (first | (with_reducible first | exact HB.out | apply below_alloc | apply pw_below_drewN | apply below_drew1 | refine below_set ?_ GE124.out) | exact HB.out)) hb); clear BK124; clear HB; have BK124 := n0_; have HB := n1_; clear n0_ n1_; (try clear hb); (try clear hb2); (try clear hk); (try clear hi); have hcz17_0 : w16.cell? ⟨gb124, 0, none⟩ = some (.bool true) := (blk_cell BK124.out 0).trans rfl; have hcz17_1 : w16.cell? ⟨gb124, 1, none⟩ = some (.int .u32 a0_1) := (blk_cell BK124.out 1).trans rfl; have hcz17_2 : w16.cell? ⟨gb124, 2, none⟩ = some (.bool a0_2) := (blk_cell BK124.out 2).trans rfl; have hcz17_3 : w16.cell? ⟨gb124, 3, none⟩ = some (.string a0_3) := (blk_cell BK124.out 3).trans rfl; have hfz17_0 := blk_frozen BK124.out 0; have hfz17_1 := blk_frozen BK124.out 1; have hfz17_2 := blk_frozen BK124.out 2; have hfz17_3 := blk_frozen BK124.out 3))
              have n0_ := Aside0.mk (blk_drew BK124.out)
              have n1_ := Aside0.mk (below_drew1 HB.out)
              clear BK124
              clear HB
              have BK124 := n0_
              have HB := n1_
              clear n0_ n1_
              refine start_ (n := 12) (S := fun w' => w'.cell? ⟨gb124, 0, none⟩ = some (.bool true) ∧ w'.cell? ⟨gb124, 1, none⟩ = some (.int .u32 a0_1) ∧ w'.cell? ⟨gb124, 2, none⟩ = some (.bool a0_2) ∧ w'.cell? ⟨gb124, 3, none⟩ = some (.string a0_3)) (ds := []) #[false, false, false, false, false, false, false, false, false, false, false, false] (by kernel_rfl) rfl rfl ⟨(blk_cell BK124.out 0).trans rfl, (blk_cell BK124.out 1).trans rfl, (blk_cell BK124.out 2).trans rfl, (blk_cell BK124.out 3).trans rfl⟩ (fun hHeld => ?_); refine with_tabW ostinatoref3_Body.tab6 ostinatoref3_Body.bits6 (fun HT_ HW_ => ?_)
              generalize w16.drew = w18 at BK124 HB hHeld ⊢
              refine pure_ (i := 0) (N := some 14) (v := ?_) (a' := ?_) #[true, false, false, false, false, false, false, false, false, false, false, false] rfl rfl (any_of HT_.out (by kernel_rfl)) (fun _ _ _ h => h) (Or.inl ⟨by rfl, ?_⟩) ?_ ?_
              rotate_left
              · intro w'
                go_simp
                with_reducible rfl
              rotate_left
              · simp only [Act.put, List.setIfInBounds_toArray, List.set_cons_zero, List.set_cons_succ, i64_w, i32_w]
                rfl
              refine pure_ (i := 1) (N := some 15) (v := ?_) (a' := ?_) #[true, true, false, false, false, false, false, false, false, false, false, false] rfl rfl (any_of HT_.out (by kernel_rfl)) (fun _ _ _ h => h) (Or.inl ⟨by rfl, ?_⟩) ?_ ?_
              rotate_left
              · intro w'
                go_simp
                with_reducible rfl
              rotate_left
              · simp only [Act.put, List.setIfInBounds_toArray, List.set_cons_zero, List.set_cons_succ, i64_w, i32_w]
                rfl
              refine pure_ (i := 7) (N := some 21) (v := ?_) (a' := ?_) #[true, true, false, false, false, false, false, true, false, false, false, false] rfl rfl (any_of HT_.out (by kernel_rfl)) (fun _ _ _ h => h) (Or.inl ⟨by rfl, ?_⟩) ?_ ?_
              rotate_left
              · intro w'
                go_simp
                with_reducible rfl
              rotate_left
              · simp only [Act.put, List.setIfInBounds_toArray, List.set_cons_zero, List.set_cons_succ, i64_w, i32_w]
                rfl
              refine take_ (i := 2) (N := some 16) (v := ?_) (a' := ?_) #[true, true, true, false, false, false, false, true, false, false, false, false] rfl rfl (take_ofW HT_.out HW_.out (by kernel_rfl)) (fun _ _ _ h => h) (Or.inl ⟨by rfl, ?_⟩) hHeld ?_ ?_
              rotate_left
              · rintro w' ⟨s0, s1, s2, s3⟩
                go_simp
                with_reducible rfl
              rotate_left
              · simp only [Act.put, List.setIfInBounds_toArray, List.set_cons_zero, List.set_cons_succ, i64_w, i32_w]
                rfl
              refine pure_ (i := 3) (N := some 17) (v := ?_) (a' := ?_) #[true, true, true, true, false, false, false, true, false, false, false, false] rfl rfl (any_of HT_.out (by kernel_rfl)) (fun _ _ _ h => h) (Or.inl ⟨by rfl, ?_⟩) ?_ ?_
              rotate_left
              · intro w'
                go_simp
                with_reducible rfl
              rotate_left
              · simp only [Act.put, List.setIfInBounds_toArray, List.set_cons_zero, List.set_cons_succ, i64_w, i32_w]
                rfl
              refine pure_ (i := 4) (N := some 18) (v := ?_) (a' := ?_) #[true, true, true, true, true, false, false, true, false, false, false, false] rfl rfl (any_of HT_.out (by kernel_rfl)) (fun _ _ _ h => h) (Or.inl ⟨by rfl, ?_⟩) ?_ ?_
              rotate_left
              · intro w'
                go_simp
                with_reducible rfl
              rotate_left
              · simp only [Act.put, List.setIfInBounds_toArray, List.set_cons_zero, List.set_cons_succ, i64_w, i32_w]
                rfl
              refine take_ (i := 8) (N := some 22) (v := ?_) (a' := ?_) #[true, true, true, true, true, false, false, true, true, false, false, false] rfl rfl (take_ofW HT_.out HW_.out (by kernel_rfl)) (fun _ _ _ h => h) (Or.inl ⟨by rfl, ?_⟩) hHeld ?_ ?_
              rotate_left
              · rintro w' ⟨s0, s1, s2, s3⟩
                go_simp
                with_reducible rfl
              rotate_left
              · simp only [Act.put, List.setIfInBounds_toArray, List.set_cons_zero, List.set_cons_succ, i64_w, i32_w]
                rfl
              refine one_ (i := 5) (N := some 19) #[true, true, true, true, true, true, false, true, true, false, false, false] rfl rfl (one_of HT_.out (by kernel_rfl)) (by decide) (fun K hK => ?_)
              refine goes_ Try.func25 (by kernel_rfl) rfl #[.int .u64 (IntKind.u64.wrap ((a0_3.size : Int))), .int .i64 4] (by rfl) rfl rfl (by (try simp only [List.map_toArray, List.map_cons, List.map_nil]); first | done | rfl | (simp only [List.length_drop, List.length_take]; rfl)) ?_
              with_reducible refine (ostinatoref1_Of.calls (IntKind.u64.wrap ((a0_3.size : Int))) 4 t127 _ A8.out).mono ?_
              rintro e w19 ⟨rfl, hb⟩
              refine ⟨_, rfl, ?_⟩
              have n0_ := Aside0.mk (blk_below (g := gb124) (o := .cells #[.bool true, .int .u32 a0_1, .bool a0_2, .string a0_3] 24 (0, 0)) (by (with_reducible repeat (first | refine blk_drewN ?_ _ | refine blk_drew ?_ | refine blk_alloc ?_ _)); exact BK124.out) hb)
              have n1_ := Aside0.mk (below_step (by repeat (first | (with_reducible first | exact HB.out | apply below_alloc | apply pw_below_drewN | apply below_drew1 | refine below_set ?_ GE124.out) | exact HB.out)) hb)
              clear BK124
              clear HB
              have BK124 := n0_
              have HB := n1_
              clear n0_ n1_
              (try clear hb)
              (try clear hb2)
              (try clear hk)
              (try clear hi)
              refine hK.out _ _ ⟨(blk_cell BK124.out 0).trans rfl, (blk_cell BK124.out 1).trans rfl, (blk_cell BK124.out 2).trans rfl, (blk_cell BK124.out 3).trans rfl⟩ (fun hHeld => ?_)
              clear hK K
              refine norm_ (a' := ?_) ?_ ?_
              rotate_left
              · show Act.put _ (some 19) _ = _
                simp only [Act.put, List.setIfInBounds_toArray, List.set_cons_zero, List.set_cons_succ, i64_w, i32_w]
                rfl
              refine pure_ (i := 6) (N := some 20) (v := ?_) (a' := ?_) #[true, true, true, true, true, true, true, true, true, false, false, false] rfl rfl (any_of HT_.out (by kernel_rfl)) (fun _ _ _ h => h) (Or.inl ⟨by rfl, ?_⟩) ?_ ?_
              rotate_left
              · intro w'
                go_simp
                with_reducible rfl
              rotate_left
              · simp only [Act.put, List.setIfInBounds_toArray, List.set_cons_zero, List.set_cons_succ, i64_w, i32_w]
                rfl
              refine one_ (i := 9) (N := some 23) #[true, true, true, true, true, true, true, true, true, true, false, false] rfl rfl (one_of HT_.out (by kernel_rfl)) (by decide) (fun K hK => ?_)
              refine goes_ Try.func40 (by kernel_rfl) rfl #[.string a0_3] (by rfl) rfl rfl (by (try simp only [List.map_toArray, List.map_cons, List.map_nil]); first | done | rfl | (simp only [List.length_drop, List.length_take]; rfl)) ?_
              with_reducible refine (ostinatoref1_FromBytes.calls a0_3 t128 _ A10.out).mono ?_
              rintro e w20 ⟨rfl, hb⟩
              refine ⟨_, rfl, ?_⟩
              have n0_ := Aside0.mk (blk_below (g := gb124) (o := .cells #[.bool true, .int .u32 a0_1, .bool a0_2, .string a0_3] 24 (0, 0)) (by (with_reducible repeat (first | refine blk_drewN ?_ _ | refine blk_drew ?_ | refine blk_alloc ?_ _)); exact BK124.out) hb)
              have n1_ := Aside0.mk (below_step (by repeat (first | (with_reducible first | exact HB.out | apply below_alloc | apply pw_below_drewN | apply below_drew1 | refine below_set ?_ GE124.out) | exact HB.out)) hb)
              clear BK124
              clear HB
              have BK124 := n0_
              have HB := n1_
              clear n0_ n1_
              (try clear hb)
              (try clear hb2)
              (try clear hk)
              (try clear hi)
              refine hK.out _ _ ⟨(blk_cell BK124.out 0).trans rfl, (blk_cell BK124.out 1).trans rfl, (blk_cell BK124.out 2).trans rfl, (blk_cell BK124.out 3).trans rfl⟩ (fun hHeld => ?_)
              clear hK K
              refine norm_ (a' := ?_) ?_ ?_
              rotate_left
              · show Act.put _ (some 23) _ = _
                simp only [Act.put, List.setIfInBounds_toArray, List.set_cons_zero, List.set_cons_succ, i64_w, i32_w]
                rfl
              refine pure_ (i := 10) (N := some 24) (v := ?_) (a' := ?_) #[true, true, true, true, true, true, true, true, true, true, true, false] rfl rfl (any_of HT_.out (by kernel_rfl)) (fun _ _ _ h => h) (Or.inl ⟨by rfl, ?_⟩) ?_ ?_
              rotate_left
              · intro w'
                go_simp
                with_reducible rfl
              rotate_left
              · simp only [Act.put, List.setIfInBounds_toArray, List.set_cons_zero, List.set_cons_succ, i64_w, i32_w]
                rfl
              refine pure_ (i := 11) (N := some 2) (v := ?_) (a' := ?_) #[true, true, true, true, true, true, true, true, true, true, true, true] rfl rfl (any_of HT_.out (by kernel_rfl)) (fun _ _ _ h => h) (Or.inl ⟨by rfl, ?_⟩) ?_ ?_
              rotate_left
              · intro w'
                go_simp
                with_reducible rfl
              rotate_left
              · simp only [Act.put, List.setIfInBounds_toArray, List.set_cons_zero, List.set_cons_succ, i64_w, i32_w]
                rfl
              refine done_ (done_of HT_.out (by kernel_rfl)) ?_
              try go_wp2
              go_ret
              exact ⟨by first | rfl | (simp [errW_none, errW_some] <;> rfl) | (simp [*, errW_none, errW_some] <;> rfl), by repeat (first | (with_reducible first | exact HB.out | apply below_alloc | apply pw_below_drewN | apply below_drew1 | refine below_set ?_ GE124.out) | exact HB.out)⟩
            · rw [if_neg c11] at H
              exact absurd H (by simp)
          · rw [if_neg c9] at H
            exact absurd H (by simp)
        · rw [if_neg c7] at H
          exact absurd H (by simp)
      · replace c6 := Bool.eq_false_iff.mpr c6
        subst c6
        have H1 : ((ostinatoref1_Of.f (IntKind.u64.wrap ((a0_3.size : Int))) 4).bind fun t129 => (if (t126 ++ (⟨#[48]⟩ : ByteArray)).size + t129.size ≤ 9223372036854775807 then ((ostinatoref1_FromBytes.f a0_3).bind fun t130 => (if ((t126 ++ (⟨#[48]⟩ : ByteArray)) ++ t129).size + t130.size ≤ 9223372036854775807 then (some (((t126 ++ (⟨#[48]⟩ : ByteArray)) ++ t129) ++ t130)) else (none))) else (none))) = some r := by rw [if_neg (show ¬ (false = true) by decide)] at H; exact H
        clear H
        have H := H1
        clear H1
        replace H := Option.bind_eq_some_iff.mp H
        obtain ⟨t129, A210, H⟩ := H
        replace H : (if (t126 ++ (⟨#[48]⟩ : ByteArray)).size + t129.size ≤ 9223372036854775807 then ((ostinatoref1_FromBytes.f a0_3).bind fun t130 => (if ((t126 ++ (⟨#[48]⟩ : ByteArray)) ++ t129).size + t130.size ≤ 9223372036854775807 then (some (((t126 ++ (⟨#[48]⟩ : ByteArray)) ++ t129) ++ t130)) else (none))) else (none)) = some r := H
        have A21 := Aside0.mk A210
        clear A210
        by_cases c22 : (t126 ++ (⟨#[48]⟩ : ByteArray)).size + t129.size ≤ 9223372036854775807
        · rw [if_pos c22] at H
          have c22b0 := eq_true c22
          have c22s0 := c22
          (try simp only [ByteArray.size_append, sz1, sz2] at c22s0)
          have c22s1 := eq_false (Nat.not_lt.2 c22s0)
          have c22s2 := c22s1
          (try simp only [Nat.add_assoc, Nat.reduceAdd] at c22s2)
          have c22b1 : decide ((t126 ++ (⟨#[48]⟩ : ByteArray)).size + t129.size ≤ 9223372036854775807) = true := decide_eq_true c22
          try have c22b2 : (9223372036854775807 < (t126 ++ (⟨#[48]⟩ : ByteArray)).size + t129.size) = False := eq_false (Nat.not_lt.2 c22)
          replace H := Option.bind_eq_some_iff.mp H
          obtain ⟨t130, A230, H⟩ := H
          replace H : (if ((t126 ++ (⟨#[48]⟩ : ByteArray)) ++ t129).size + t130.size ≤ 9223372036854775807 then (some (((t126 ++ (⟨#[48]⟩ : ByteArray)) ++ t129) ++ t130)) else (none)) = some r := H
          have A23 := Aside0.mk A230
          clear A230
          by_cases c24 : ((t126 ++ (⟨#[48]⟩ : ByteArray)) ++ t129).size + t130.size ≤ 9223372036854775807
          · rw [if_pos c24] at H
            have c24b0 := eq_true c24
            have c24s0 := c24
            (try simp only [ByteArray.size_append, sz1, sz2] at c24s0)
            have c24s1 := eq_false (Nat.not_lt.2 c24s0)
            have c24s2 := c24s1
            (try simp only [Nat.add_assoc, Nat.reduceAdd] at c24s2)
            have c24b1 : decide (((t126 ++ (⟨#[48]⟩ : ByteArray)) ++ t129).size + t130.size ≤ 9223372036854775807) = true := decide_eq_true c24
            try have c24b2 : (9223372036854775807 < ((t126 ++ (⟨#[48]⟩ : ByteArray)) ++ t129).size + t130.size) = False := eq_false (Nat.not_lt.2 c24)
            obtain rfl := Option.some.inj H
            go_enter Try.func23, Try.ntmps23
            try go_wp2_with (first | ((with_reducible refine gate_dst (N := 1) rfl ?_); refine box_event ?hg (N := 1) ?hd (cs := #[.bool false, .int .u32 a0_1, .bool a0_2, .string a0_3]) (t := 24) ?hr ?_; (case hd => rfl); (case hg => rfl); (case hr => first | (go_simp; done) | (go_simp; rfl)); intro gb124 hg w25 hbox hb; have n0_ := Aside0.mk (below_step (by repeat (first | (with_reducible first | exact HB.out | apply below_alloc | apply pw_below_drewN | apply below_drew1) | exact HB.out)) hb); have n1_ := Aside0.mk (hbox); have n2_ := Aside0.mk ((by rw [hg]; exact (below_size (by repeat (first | (with_reducible first | exact HB.out | apply below_alloc | apply pw_below_drewN | apply below_drew1) | exact HB.out))) : w.heap.size ≤ gb124)); have n3_ := Aside0.mk ((by rw [hg]; exact (below_size (by repeat (first | (with_reducible first | exact HB.out | apply below_alloc | apply pw_below_drewN | apply below_drew1) | exact HB.out))) : w.heap.size ≤ gb124)); clear HB; have HB := n0_; have BK124 := n1_; have GW124 := n2_; have GE124 := n3_; clear n0_ n1_ n2_ n3_; clear hb hbox hg; have hcz26_0 : w25.cell? ⟨gb124, 0, none⟩ = some (.bool false) := (blk_cell BK124.out 0).trans rfl; have hcz26_1 : w25.cell? ⟨gb124, 1, none⟩ = some (.int .u32 a0_1) := (blk_cell BK124.out 1).trans rfl; have hcz26_2 : w25.cell? ⟨gb124, 2, none⟩ = some (.bool a0_2) := (blk_cell BK124.out 2).trans rfl; have hcz26_3 : w25.cell? ⟨gb124, 3, none⟩ = some (.string a0_3) := (blk_cell BK124.out 3).trans rfl; have hfz26_0 := blk_frozen BK124.out 0; have hfz26_1 := blk_frozen BK124.out 1; have hfz26_2 := blk_frozen BK124.out 2; have hfz26_3 := blk_frozen BK124.out 3) | ((with_reducible refine gate_callee (f := 22) rfl ?_); refine goesL_ (some 5) rfl rfl Try.func22 (by kernel_rfl) rfl #[.agg #[.bool false, .int .u32 a0_1, .bool a0_2, .string a0_3]] rfl (by (try simp only [List.map_toArray, List.map_cons, List.map_nil]); first | done | rfl | (simp only [List.length_drop, List.length_take]; rfl)) ?_; (with_reducible refine (ostinatoref3_Is.calls false a0_1 a0_2 a0_3 true _ A2.out).mono ?_); rintro e w27 ⟨rfl, hb⟩; refine ⟨_, rfl, ?_⟩; have n0_ := Aside0.mk (blk_below (g := gb124) (o := .cells #[.bool false, .int .u32 a0_1, .bool a0_2, .string a0_3] 24 (0, 0)) (by (with_reducible repeat (first | refine blk_drewN ?_ _ | refine blk_drew ?_ | refine blk_alloc ?_ _)); exact BK124.out) hb); have n1_ := Aside0.mk (below_step (by repeat (first | (with_reducible first | exact HB.out | apply below_alloc | apply pw_below_drewN | apply below_drew1 | refine below_set ?_ GE124.out) | exact HB.out)) hb); clear BK124; clear HB; have BK124 := n0_; have HB := n1_; clear n0_ n1_; (try clear hb); (try clear hb2); (try clear hk); (try clear hi); have hcz28_0 : w27.cell? ⟨gb124, 0, none⟩ = some (.bool false) := (blk_cell BK124.out 0).trans rfl; have hcz28_1 : w27.cell? ⟨gb124, 1, none⟩ = some (.int .u32 a0_1) := (blk_cell BK124.out 1).trans rfl; have hcz28_2 : w27.cell? ⟨gb124, 2, none⟩ = some (.bool a0_2) := (blk_cell BK124.out 2).trans rfl; have hcz28_3 : w27.cell? ⟨gb124, 3, none⟩ = some (.string a0_3) := (blk_cell BK124.out 3).trans rfl; have hfz28_0 := blk_frozen BK124.out 0; have hfz28_1 := blk_frozen BK124.out 1; have hfz28_2 := blk_frozen BK124.out 2; have hfz28_3 := blk_frozen BK124.out 3) | ((with_reducible refine gate_callee (f := 27) rfl ?_); refine goesL_ (some 8) rfl rfl Try.func27 (by kernel_rfl) rfl #[.agg #[.bool false, .int .u32 a0_1, .bool a0_2, .string a0_3]] rfl (by (try simp only [List.map_toArray, List.map_cons, List.map_nil]); first | done | rfl | (simp only [List.length_drop, List.length_take]; rfl)) ?_; (with_reducible refine (ostinatoref3_Arb.calls false a0_1 a0_2 a0_3 t126 _ A4.out).mono ?_); rintro e w29 ⟨rfl, hb⟩; refine ⟨_, rfl, ?_⟩; have n0_ := Aside0.mk (blk_below (g := gb124) (o := .cells #[.bool false, .int .u32 a0_1, .bool a0_2, .string a0_3] 24 (0, 0)) (by (with_reducible repeat (first | refine blk_drewN ?_ _ | refine blk_drew ?_ | refine blk_alloc ?_ _)); exact BK124.out) hb); have n1_ := Aside0.mk (below_step (by repeat (first | (with_reducible first | exact HB.out | apply below_alloc | apply pw_below_drewN | apply below_drew1 | refine below_set ?_ GE124.out) | exact HB.out)) hb); clear BK124; clear HB; have BK124 := n0_; have HB := n1_; clear n0_ n1_; (try clear hb); (try clear hb2); (try clear hk); (try clear hi); have hcz30_0 : w29.cell? ⟨gb124, 0, none⟩ = some (.bool false) := (blk_cell BK124.out 0).trans rfl; have hcz30_1 : w29.cell? ⟨gb124, 1, none⟩ = some (.int .u32 a0_1) := (blk_cell BK124.out 1).trans rfl; have hcz30_2 : w29.cell? ⟨gb124, 2, none⟩ = some (.bool a0_2) := (blk_cell BK124.out 2).trans rfl; have hcz30_3 : w29.cell? ⟨gb124, 3, none⟩ = some (.string a0_3) := (blk_cell BK124.out 3).trans rfl; have hfz30_0 := blk_frozen BK124.out 0; have hfz30_1 := blk_frozen BK124.out 1; have hfz30_2 := blk_frozen BK124.out 2; have hfz30_3 := blk_frozen BK124.out 3))
            have n0_ := Aside0.mk (blk_drew BK124.out)
            have n1_ := Aside0.mk (below_drew1 HB.out)
            clear BK124
            clear HB
            have BK124 := n0_
            have HB := n1_
            clear n0_ n1_
            refine start_ (n := 12) (S := fun w' => w'.cell? ⟨gb124, 0, none⟩ = some (.bool false) ∧ w'.cell? ⟨gb124, 1, none⟩ = some (.int .u32 a0_1) ∧ w'.cell? ⟨gb124, 2, none⟩ = some (.bool a0_2) ∧ w'.cell? ⟨gb124, 3, none⟩ = some (.string a0_3)) (ds := []) #[false, false, false, false, false, false, false, false, false, false, false, false] (by kernel_rfl) rfl rfl ⟨(blk_cell BK124.out 0).trans rfl, (blk_cell BK124.out 1).trans rfl, (blk_cell BK124.out 2).trans rfl, (blk_cell BK124.out 3).trans rfl⟩ (fun hHeld => ?_); refine with_tabW ostinatoref3_Body.tab6 ostinatoref3_Body.bits6 (fun HT_ HW_ => ?_)
            generalize w29.drew = w31 at BK124 HB hHeld ⊢
            refine pure_ (i := 0) (N := some 14) (v := ?_) (a' := ?_) #[true, false, false, false, false, false, false, false, false, false, false, false] rfl rfl (any_of HT_.out (by kernel_rfl)) (fun _ _ _ h => h) (Or.inl ⟨by rfl, ?_⟩) ?_ ?_
            rotate_left
            · intro w'
              go_simp
              with_reducible rfl
            rotate_left
            · simp only [Act.put, List.setIfInBounds_toArray, List.set_cons_zero, List.set_cons_succ, i64_w, i32_w]
              rfl
            refine pure_ (i := 1) (N := some 15) (v := ?_) (a' := ?_) #[true, true, false, false, false, false, false, false, false, false, false, false] rfl rfl (any_of HT_.out (by kernel_rfl)) (fun _ _ _ h => h) (Or.inl ⟨by rfl, ?_⟩) ?_ ?_
            rotate_left
            · intro w'
              go_simp
              with_reducible rfl
            rotate_left
            · simp only [Act.put, List.setIfInBounds_toArray, List.set_cons_zero, List.set_cons_succ, i64_w, i32_w]
              rfl
            refine pure_ (i := 7) (N := some 21) (v := ?_) (a' := ?_) #[true, true, false, false, false, false, false, true, false, false, false, false] rfl rfl (any_of HT_.out (by kernel_rfl)) (fun _ _ _ h => h) (Or.inl ⟨by rfl, ?_⟩) ?_ ?_
            rotate_left
            · intro w'
              go_simp
              with_reducible rfl
            rotate_left
            · simp only [Act.put, List.setIfInBounds_toArray, List.set_cons_zero, List.set_cons_succ, i64_w, i32_w]
              rfl
            refine take_ (i := 2) (N := some 16) (v := ?_) (a' := ?_) #[true, true, true, false, false, false, false, true, false, false, false, false] rfl rfl (take_ofW HT_.out HW_.out (by kernel_rfl)) (fun _ _ _ h => h) (Or.inl ⟨by rfl, ?_⟩) hHeld ?_ ?_
            rotate_left
            · rintro w' ⟨s0, s1, s2, s3⟩
              go_simp
              with_reducible rfl
            rotate_left
            · simp only [Act.put, List.setIfInBounds_toArray, List.set_cons_zero, List.set_cons_succ, i64_w, i32_w]
              rfl
            refine pure_ (i := 3) (N := some 17) (v := ?_) (a' := ?_) #[true, true, true, true, false, false, false, true, false, false, false, false] rfl rfl (any_of HT_.out (by kernel_rfl)) (fun _ _ _ h => h) (Or.inl ⟨by rfl, ?_⟩) ?_ ?_
            rotate_left
            · intro w'
              go_simp
              with_reducible rfl
            rotate_left
            · simp only [Act.put, List.setIfInBounds_toArray, List.set_cons_zero, List.set_cons_succ, i64_w, i32_w]
              rfl
            refine pure_ (i := 4) (N := some 18) (v := ?_) (a' := ?_) #[true, true, true, true, true, false, false, true, false, false, false, false] rfl rfl (any_of HT_.out (by kernel_rfl)) (fun _ _ _ h => h) (Or.inl ⟨by rfl, ?_⟩) ?_ ?_
            rotate_left
            · intro w'
              go_simp
              with_reducible rfl
            rotate_left
            · simp only [Act.put, List.setIfInBounds_toArray, List.set_cons_zero, List.set_cons_succ, i64_w, i32_w]
              rfl
            refine take_ (i := 8) (N := some 22) (v := ?_) (a' := ?_) #[true, true, true, true, true, false, false, true, true, false, false, false] rfl rfl (take_ofW HT_.out HW_.out (by kernel_rfl)) (fun _ _ _ h => h) (Or.inl ⟨by rfl, ?_⟩) hHeld ?_ ?_
            rotate_left
            · rintro w' ⟨s0, s1, s2, s3⟩
              go_simp
              with_reducible rfl
            rotate_left
            · simp only [Act.put, List.setIfInBounds_toArray, List.set_cons_zero, List.set_cons_succ, i64_w, i32_w]
              rfl
            refine one_ (i := 5) (N := some 19) #[true, true, true, true, true, true, false, true, true, false, false, false] rfl rfl (one_of HT_.out (by kernel_rfl)) (by decide) (fun K hK => ?_)
            refine goes_ Try.func25 (by kernel_rfl) rfl #[.int .u64 (IntKind.u64.wrap ((a0_3.size : Int))), .int .i64 4] (by rfl) rfl rfl (by (try simp only [List.map_toArray, List.map_cons, List.map_nil]); first | done | rfl | (simp only [List.length_drop, List.length_take]; rfl)) ?_
            with_reducible refine (ostinatoref1_Of.calls (IntKind.u64.wrap ((a0_3.size : Int))) 4 t129 _ A21.out).mono ?_
            rintro e w32 ⟨rfl, hb⟩
            refine ⟨_, rfl, ?_⟩
            have n0_ := Aside0.mk (blk_below (g := gb124) (o := .cells #[.bool false, .int .u32 a0_1, .bool a0_2, .string a0_3] 24 (0, 0)) (by (with_reducible repeat (first | refine blk_drewN ?_ _ | refine blk_drew ?_ | refine blk_alloc ?_ _)); exact BK124.out) hb)
            have n1_ := Aside0.mk (below_step (by repeat (first | (with_reducible first | exact HB.out | apply below_alloc | apply pw_below_drewN | apply below_drew1 | refine below_set ?_ GE124.out) | exact HB.out)) hb)
            clear BK124
            clear HB
            have BK124 := n0_
            have HB := n1_
            clear n0_ n1_
            (try clear hb)
            (try clear hb2)
            (try clear hk)
            (try clear hi)
            refine hK.out _ _ ⟨(blk_cell BK124.out 0).trans rfl, (blk_cell BK124.out 1).trans rfl, (blk_cell BK124.out 2).trans rfl, (blk_cell BK124.out 3).trans rfl⟩ (fun hHeld => ?_)
            clear hK K
            refine norm_ (a' := ?_) ?_ ?_
            rotate_left
            · show Act.put _ (some 19) _ = _
              simp only [Act.put, List.setIfInBounds_toArray, List.set_cons_zero, List.set_cons_succ, i64_w, i32_w]
              rfl
            refine pure_ (i := 6) (N := some 20) (v := ?_) (a' := ?_) #[true, true, true, true, true, true, true, true, true, false, false, false] rfl rfl (any_of HT_.out (by kernel_rfl)) (fun _ _ _ h => h) (Or.inl ⟨by rfl, ?_⟩) ?_ ?_
            rotate_left
            · intro w'
              go_simp
              with_reducible rfl
            rotate_left
            · simp only [Act.put, List.setIfInBounds_toArray, List.set_cons_zero, List.set_cons_succ, i64_w, i32_w]
              rfl
            refine one_ (i := 9) (N := some 23) #[true, true, true, true, true, true, true, true, true, true, false, false] rfl rfl (one_of HT_.out (by kernel_rfl)) (by decide) (fun K hK => ?_)
            refine goes_ Try.func40 (by kernel_rfl) rfl #[.string a0_3] (by rfl) rfl rfl (by (try simp only [List.map_toArray, List.map_cons, List.map_nil]); first | done | rfl | (simp only [List.length_drop, List.length_take]; rfl)) ?_
            with_reducible refine (ostinatoref1_FromBytes.calls a0_3 t130 _ A23.out).mono ?_
            rintro e w33 ⟨rfl, hb⟩
            refine ⟨_, rfl, ?_⟩
            have n0_ := Aside0.mk (blk_below (g := gb124) (o := .cells #[.bool false, .int .u32 a0_1, .bool a0_2, .string a0_3] 24 (0, 0)) (by (with_reducible repeat (first | refine blk_drewN ?_ _ | refine blk_drew ?_ | refine blk_alloc ?_ _)); exact BK124.out) hb)
            have n1_ := Aside0.mk (below_step (by repeat (first | (with_reducible first | exact HB.out | apply below_alloc | apply pw_below_drewN | apply below_drew1 | refine below_set ?_ GE124.out) | exact HB.out)) hb)
            clear BK124
            clear HB
            have BK124 := n0_
            have HB := n1_
            clear n0_ n1_
            (try clear hb)
            (try clear hb2)
            (try clear hk)
            (try clear hi)
            refine hK.out _ _ ⟨(blk_cell BK124.out 0).trans rfl, (blk_cell BK124.out 1).trans rfl, (blk_cell BK124.out 2).trans rfl, (blk_cell BK124.out 3).trans rfl⟩ (fun hHeld => ?_)
            clear hK K
            refine norm_ (a' := ?_) ?_ ?_
            rotate_left
            · show Act.put _ (some 23) _ = _
              simp only [Act.put, List.setIfInBounds_toArray, List.set_cons_zero, List.set_cons_succ, i64_w, i32_w]
              rfl
            refine pure_ (i := 10) (N := some 24) (v := ?_) (a' := ?_) #[true, true, true, true, true, true, true, true, true, true, true, false] rfl rfl (any_of HT_.out (by kernel_rfl)) (fun _ _ _ h => h) (Or.inl ⟨by rfl, ?_⟩) ?_ ?_
            rotate_left
            · intro w'
              go_simp
              with_reducible rfl
            rotate_left
            · simp only [Act.put, List.setIfInBounds_toArray, List.set_cons_zero, List.set_cons_succ, i64_w, i32_w]
              rfl
            refine pure_ (i := 11) (N := some 2) (v := ?_) (a' := ?_) #[true, true, true, true, true, true, true, true, true, true, true, true] rfl rfl (any_of HT_.out (by kernel_rfl)) (fun _ _ _ h => h) (Or.inl ⟨by rfl, ?_⟩) ?_ ?_
            rotate_left
            · intro w'
              go_simp
              with_reducible rfl
            rotate_left
            · simp only [Act.put, List.setIfInBounds_toArray, List.set_cons_zero, List.set_cons_succ, i64_w, i32_w]
              rfl
            refine done_ (done_of HT_.out (by kernel_rfl)) ?_
            try go_wp2
            go_ret
            exact ⟨by first | rfl | (simp [errW_none, errW_some] <;> rfl) | (simp [*, errW_none, errW_some] <;> rfl), by repeat (first | (with_reducible first | exact HB.out | apply below_alloc | apply pw_below_drewN | apply below_drew1 | refine below_set ?_ GE124.out) | exact HB.out)⟩
          · rw [if_neg c24] at H
            exact absurd H (by simp)
        · rw [if_neg c22] at H
          exact absurd H (by simp)
    · rw [if_neg c5] at H
      exact absurd H (by simp)
  · replace c3 := Bool.eq_false_iff.mpr c3
    subst c3
    have H1 : (some (⟨#[]⟩ : ByteArray)) = some r := by rw [if_neg (show ¬ (false = true) by decide)] at H; exact H
    clear H
    have H := H1
    clear H1
    obtain rfl := Option.some.inj H
    go_enter Try.func23, Try.ntmps23
    go_wp2_with (first | ((with_reducible refine gate_dst (N := 1) rfl ?_); refine box_event ?hg (N := 1) ?hd (cs := #[.bool a0_0, .int .u32 a0_1, .bool a0_2, .string a0_3]) (t := 24) ?hr ?_; (case hd => rfl); (case hg => rfl); (case hr => first | (go_simp; done) | (go_simp; rfl)); intro gb124 hg w34 hbox hb; have n0_ := Aside0.mk (below_step (by repeat (first | (with_reducible first | exact HB.out | apply below_alloc | apply pw_below_drewN | apply below_drew1) | exact HB.out)) hb); have n1_ := Aside0.mk (hbox); have n2_ := Aside0.mk ((by rw [hg]; exact (below_size (by repeat (first | (with_reducible first | exact HB.out | apply below_alloc | apply pw_below_drewN | apply below_drew1) | exact HB.out))) : w.heap.size ≤ gb124)); have n3_ := Aside0.mk ((by rw [hg]; exact (below_size (by repeat (first | (with_reducible first | exact HB.out | apply below_alloc | apply pw_below_drewN | apply below_drew1) | exact HB.out))) : w.heap.size ≤ gb124)); clear HB; have HB := n0_; have BK124 := n1_; have GW124 := n2_; have GE124 := n3_; clear n0_ n1_ n2_ n3_; clear hb hbox hg; have hcz35_0 : w34.cell? ⟨gb124, 0, none⟩ = some (.bool a0_0) := (blk_cell BK124.out 0).trans rfl; have hcz35_1 : w34.cell? ⟨gb124, 1, none⟩ = some (.int .u32 a0_1) := (blk_cell BK124.out 1).trans rfl; have hcz35_2 : w34.cell? ⟨gb124, 2, none⟩ = some (.bool a0_2) := (blk_cell BK124.out 2).trans rfl; have hcz35_3 : w34.cell? ⟨gb124, 3, none⟩ = some (.string a0_3) := (blk_cell BK124.out 3).trans rfl; have hfz35_0 := blk_frozen BK124.out 0; have hfz35_1 := blk_frozen BK124.out 1; have hfz35_2 := blk_frozen BK124.out 2; have hfz35_3 := blk_frozen BK124.out 3) | ((with_reducible refine gate_callee (f := 22) rfl ?_); refine goesL_ (some 5) rfl rfl Try.func22 (by kernel_rfl) rfl #[.agg #[.bool a0_0, .int .u32 a0_1, .bool a0_2, .string a0_3]] rfl (by (try simp only [List.map_toArray, List.map_cons, List.map_nil]); first | done | rfl | (simp only [List.length_drop, List.length_take]; rfl)) ?_; (with_reducible refine (ostinatoref3_Is.calls a0_0 a0_1 a0_2 a0_3 false _ A2.out).mono ?_); rintro e w36 ⟨rfl, hb⟩; refine ⟨_, rfl, ?_⟩; have n0_ := Aside0.mk (blk_below (g := gb124) (o := .cells #[.bool a0_0, .int .u32 a0_1, .bool a0_2, .string a0_3] 24 (0, 0)) (by (with_reducible repeat (first | refine blk_drewN ?_ _ | refine blk_drew ?_ | refine blk_alloc ?_ _)); exact BK124.out) hb); have n1_ := Aside0.mk (below_step (by repeat (first | (with_reducible first | exact HB.out | apply below_alloc | apply pw_below_drewN | apply below_drew1 | refine below_set ?_ GE124.out) | exact HB.out)) hb); clear BK124; clear HB; have BK124 := n0_; have HB := n1_; clear n0_ n1_; (try clear hb); (try clear hb2); (try clear hk); (try clear hi)))
    go_ret
    exact ⟨by first | rfl | (simp [errW_none, errW_some] <;> rfl) | (simp [*, errW_none, errW_some] <;> rfl), by repeat (first | (with_reducible first | exact HB.out | apply below_alloc | apply pw_below_drewN | apply below_drew1 | refine below_set ?_ GE124.out) | exact HB.out)⟩

end Go.Proofs.Ytkdnldoebghclaa.QFr
