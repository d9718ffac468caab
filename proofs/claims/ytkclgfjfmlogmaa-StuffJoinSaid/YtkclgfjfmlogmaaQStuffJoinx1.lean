-- Written by a program out of the translation, over contracts proved by hand.
import Derived.Test.YtkclgfjfmlogmaaQStuffJoinx0
namespace Go.Proofs.Ytkclgfjfmlogmaa.QStuffJoin
open Go.RowKit Go.Proofs.Ytkclgfjfmlogmaa.Plug Go.Proofs.YtkclgfjfmlogmaaW.PrintWords Go.Proofs.YtkclgfjfmlogmaaW.PrintLast Go.Proofs.YtkclgfjfmlogmaaW.PrintMore
attribute [local go_sem] max2_int min2_int max_two min_two max_three min_three max_four min_four   -- for this text's walks alone
set_option linter.unusedVariables false
set_option linter.unusedSimpArgs false

/-! ### ostinatolaw2_known: function 9 -/
def ostinatolaw2_known.f  : Option (Bool) := (stuff_Unstuff.f (⟨#[48, 48, 48, 48, 48, 49]⟩ : ByteArray)).bind fun bt101 => ((stuff_Unstuff.f (⟨#[48, 48, 48, 48, 48, 48, 49]⟩ : ByteArray)).bind fun bt103 => ((stuff_Stuff.f (⟨#[48, 48, 48, 48, 48]⟩ : ByteArray)).bind fun t105 => (if t105.toList = ([48, 48, 48, 48, 48, 49] : List UInt8) then (if bt101.1.toList = ([48, 48, 48, 48, 48] : List UInt8) then (if bt101.2 = (-1) then (if bt103.2 = 5 then ((stuff_Next.f (⟨#[48, 48, 48, 48, 48]⟩ : ByteArray)).bind fun t106 => (if t106 = 1 then ((stuff_Next.f (⟨#[49, 49, 49, 49, 49]⟩ : ByteArray)).bind fun t107 => (if t107 = 0 then ((stuff_Next.f (⟨#[48, 49]⟩ : ByteArray)).bind fun t108 => (if t108 = (-1) then ((stuff_Next.f (⟨#[48, 48, 48, 48, 48, 48]⟩ : ByteArray)).bind fun t109 => (if t109 = (-2) then ((stuff_Most.f 5).bind fun t110 => (some (t110 == 6))) else (some false))) else (some false))) else (some false))) else (some false))) else (some false)) else (some false)) else (some false)) else (some false))))
set_option maxHeartbeats 8000000 in
set_option maxRecDepth 100000 in
theorem ostinatolaw2_known.calls  (r : Bool) (w : World) (h : ostinatolaw2_known.f  = some r) :
    Calls Try.prog 9 #[] w fun e w' => e = .returned (.bool r) ∧ Below w.heap.size w w' := by
  have HB := Aside0.mk (Below.refl w.heap.size w)
  have H : ((stuff_Unstuff.f (⟨#[48, 48, 48, 48, 48, 49]⟩ : ByteArray)).bind fun bt101 => ((stuff_Unstuff.f (⟨#[48, 48, 48, 48, 48, 48, 49]⟩ : ByteArray)).bind fun bt103 => ((stuff_Stuff.f (⟨#[48, 48, 48, 48, 48]⟩ : ByteArray)).bind fun t105 => (if t105.toList = ([48, 48, 48, 48, 48, 49] : List UInt8) then (if bt101.1.toList = ([48, 48, 48, 48, 48] : List UInt8) then (if bt101.2 = (-1) then (if bt103.2 = 5 then ((stuff_Next.f (⟨#[48, 48, 48, 48, 48]⟩ : ByteArray)).bind fun t106 => (if t106 = 1 then ((stuff_Next.f (⟨#[49, 49, 49, 49, 49]⟩ : ByteArray)).bind fun t107 => (if t107 = 0 then ((stuff_Next.f (⟨#[48, 49]⟩ : ByteArray)).bind fun t108 => (if t108 = (-1) then ((stuff_Next.f (⟨#[48, 48, 48, 48, 48, 48]⟩ : ByteArray)).bind fun t109 => (if t109 = (-2) then ((stuff_Most.f 5).bind fun t110 => (some (t110 == 6))) else (some false))) else (some false))) else (some false))) else (some false))) else (some false)) else (some false)) else (some false)) else (some false))))) = some r := h
  clear h
  replace H := Option.bind_eq_some_iff.mp H
  obtain ⟨⟨t101, t102⟩, A10, H⟩ := H
  replace H : ((stuff_Unstuff.f (⟨#[48, 48, 48, 48, 48, 48, 49]⟩ : ByteArray)).bind fun bt103 => ((stuff_Stuff.f (⟨#[48, 48, 48, 48, 48]⟩ : ByteArray)).bind fun t105 => (if t105.toList = ([48, 48, 48, 48, 48, 49] : List UInt8) then (if t101.toList = ([48, 48, 48, 48, 48] : List UInt8) then (if t102 = (-1) then (if bt103.2 = 5 then ((stuff_Next.f (⟨#[48, 48, 48, 48, 48]⟩ : ByteArray)).bind fun t106 => (if t106 = 1 then ((stuff_Next.f (⟨#[49, 49, 49, 49, 49]⟩ : ByteArray)).bind fun t107 => (if t107 = 0 then ((stuff_Next.f (⟨#[48, 49]⟩ : ByteArray)).bind fun t108 => (if t108 = (-1) then ((stuff_Next.f (⟨#[48, 48, 48, 48, 48, 48]⟩ : ByteArray)).bind fun t109 => (if t109 = (-2) then ((stuff_Most.f 5).bind fun t110 => (some (t110 == 6))) else (some false))) else (some false))) else (some false))) else (some false))) else (some false)) else (some false)) else (some false)) else (some false)))) = some r := H
  have A1 := Aside0.mk A10
  clear A10
  replace H := Option.bind_eq_some_iff.mp H
  obtain ⟨⟨t103, t104⟩, A20, H⟩ := H
  replace H : ((stuff_Stuff.f (⟨#[48, 48, 48, 48, 48]⟩ : ByteArray)).bind fun t105 => (if t105.toList = ([48, 48, 48, 48, 48, 49] : List UInt8) then (if t101.toList = ([48, 48, 48, 48, 48] : List UInt8) then (if t102 = (-1) then (if t104 = 5 then ((stuff_Next.f (⟨#[48, 48, 48, 48, 48]⟩ : ByteArray)).bind fun t106 => (if t106 = 1 then ((stuff_Next.f (⟨#[49, 49, 49, 49, 49]⟩ : ByteArray)).bind fun t107 => (if t107 = 0 then ((stuff_Next.f (⟨#[48, 49]⟩ : ByteArray)).bind fun t108 => (if t108 = (-1) then ((stuff_Next.f (⟨#[48, 48, 48, 48, 48, 48]⟩ : ByteArray)).bind fun t109 => (if t109 = (-2) then ((stuff_Most.f 5).bind fun t110 => (some (t110 == 6))) else (some false))) else (some false))) else (some false))) else (some false))) else (some false)) else (some false)) else (some false)) else (some false))) = some r := H
  have A2 := Aside0.mk A20
  clear A20
  replace H := Option.bind_eq_some_iff.mp H
  obtain ⟨t105, A30, H⟩ := H
  replace H : (if t105.toList = ([48, 48, 48, 48, 48, 49] : List UInt8) then (if t101.toList = ([48, 48, 48, 48, 48] : List UInt8) then (if t102 = (-1) then (if t104 = 5 then ((stuff_Next.f (⟨#[48, 48, 48, 48, 48]⟩ : ByteArray)).bind fun t106 => (if t106 = 1 then ((stuff_Next.f (⟨#[49, 49, 49, 49, 49]⟩ : ByteArray)).bind fun t107 => (if t107 = 0 then ((stuff_Next.f (⟨#[48, 49]⟩ : ByteArray)).bind fun t108 => (if t108 = (-1) then ((stuff_Next.f (⟨#[48, 48, 48, 48, 48, 48]⟩ : ByteArray)).bind fun t109 => (if t109 = (-2) then ((stuff_Most.f 5).bind fun t110 => (some (t110 == 6))) else (some false))) else (some false))) else (some false))) else (some false))) else (some false)) else (some false)) else (some false)) else (some false)) = some r := H
  have A3 := Aside0.mk A30
  clear A30
  by_cases c4 : t105.toList = ([48, 48, 48, 48, 48, 49] : List UInt8)
  · rw [if_pos c4] at H
    have c4b0 : (t105.toList == ([48, 48, 48, 48, 48, 49] : List UInt8)) = true := beq_iff_eq.mpr c4
    have c4b1 : (t105.toList != ([48, 48, 48, 48, 48, 49] : List UInt8)) = false := bne_eq_false_iff_eq.mpr c4
    clear c4
    by_cases c5 : t101.toList = ([48, 48, 48, 48, 48] : List UInt8)
    · rw [if_pos c5] at H
      have c5b0 : (t101.toList == ([48, 48, 48, 48, 48] : List UInt8)) = true := beq_iff_eq.mpr c5
      have c5b1 : (t101.toList != ([48, 48, 48, 48, 48] : List UInt8)) = false := bne_eq_false_iff_eq.mpr c5
      clear c5
      by_cases c6 : t102 = (-1)
      · rw [if_pos c6] at H
        have c6b0 : (t102 == (-1)) = true := beq_iff_eq.mpr c6
        have c6b1 : (t102 != (-1)) = false := bne_eq_false_iff_eq.mpr c6
        clear c6
        by_cases c7 : t104 = 5
        · rw [if_pos c7] at H
          have c7b0 : (t104 == 5) = true := beq_iff_eq.mpr c7
          have c7b1 : (t104 != 5) = false := bne_eq_false_iff_eq.mpr c7
          clear c7
          replace H := Option.bind_eq_some_iff.mp H
          obtain ⟨t106, A80, H⟩ := H
          replace H : (if t106 = 1 then ((stuff_Next.f (⟨#[49, 49, 49, 49, 49]⟩ : ByteArray)).bind fun t107 => (if t107 = 0 then ((stuff_Next.f (⟨#[48, 49]⟩ : ByteArray)).bind fun t108 => (if t108 = (-1) then ((stuff_Next.f (⟨#[48, 48, 48, 48, 48, 48]⟩ : ByteArray)).bind fun t109 => (if t109 = (-2) then ((stuff_Most.f 5).bind fun t110 => (some (t110 == 6))) else (some false))) else (some false))) else (some false))) else (some false)) = some r := H
          have A8 := Aside0.mk A80
          clear A80
          by_cases c9 : t106 = 1
          · rw [if_pos c9] at H
            have c9b0 : (t106 == 1) = true := beq_iff_eq.mpr c9
            have c9b1 : (t106 != 1) = false := bne_eq_false_iff_eq.mpr c9
            clear c9
            replace H := Option.bind_eq_some_iff.mp H
            obtain ⟨t107, A100, H⟩ := H
            replace H : (if t107 = 0 then ((stuff_Next.f (⟨#[48, 49]⟩ : ByteArray)).bind fun t108 => (if t108 = (-1) then ((stuff_Next.f (⟨#[48, 48, 48, 48, 48, 48]⟩ : ByteArray)).bind fun t109 => (if t109 = (-2) then ((stuff_Most.f 5).bind fun t110 => (some (t110 == 6))) else (some false))) else (some false))) else (some false)) = some r := H
            have A10 := Aside0.mk A100
            clear A100
            by_cases c11 : t107 = 0
            · rw [if_pos c11] at H
              have c11b0 : (t107 == 0) = true := beq_iff_eq.mpr c11
              have c11b1 : (t107 != 0) = false := bne_eq_false_iff_eq.mpr c11
              clear c11
              replace H := Option.bind_eq_some_iff.mp H
              obtain ⟨t108, A120, H⟩ := H
              replace H : (if t108 = (-1) then ((stuff_Next.f (⟨#[48, 48, 48, 48, 48, 48]⟩ : ByteArray)).bind fun t109 => (if t109 = (-2) then ((stuff_Most.f 5).bind fun t110 => (some (t110 == 6))) else (some false))) else (some false)) = some r := H
              have A12 := Aside0.mk A120
              clear A120
              by_cases c13 : t108 = (-1)
              · rw [if_pos c13] at H
                have c13b0 : (t108 == (-1)) = true := beq_iff_eq.mpr c13
                have c13b1 : (t108 != (-1)) = false := bne_eq_false_iff_eq.mpr c13
                clear c13
                replace H := Option.bind_eq_some_iff.mp H
                obtain ⟨t109, A140, H⟩ := H
                replace H : (if t109 = (-2) then ((stuff_Most.f 5).bind fun t110 => (some (t110 == 6))) else (some false)) = some r := H
                have A14 := Aside0.mk A140
                clear A140
                by_cases c15 : t109 = (-2)
                · rw [if_pos c15] at H
                  have c15b0 : (t109 == (-2)) = true := beq_iff_eq.mpr c15
                  have c15b1 : (t109 != (-2)) = false := bne_eq_false_iff_eq.mpr c15
                  clear c15
                  replace H := Option.bind_eq_some_iff.mp H
                  obtain ⟨t110, A160, H⟩ := H
                  replace H : (some (t110 == 6)) = some r := H
                  have A16 := Aside0.mk A160
                  clear A160
                  obtain rfl := Option.some.inj H
                  go_enter Try.func9, Try.ntmps9
                  go_wp2_with (first | ((with_reducible refine gate_callee (f := 12) rfl ?_); refine goesL_ (some 6) rfl rfl Try.func12 (by kernel_rfl) rfl #[.string (⟨#[48, 48, 48, 48, 48, 49]⟩ : ByteArray)] rfl (by (try simp only [List.map_toArray, List.map_cons, List.map_nil]); first | done | rfl | (simp only [List.length_drop, List.length_take]; rfl)) ?_; (with_reducible refine (stuff_Unstuff.calls (⟨#[48, 48, 48, 48, 48, 49]⟩ : ByteArray) t101 t102 _ A1.out).mono ?_); rintro e w17 ⟨rfl, hb⟩; refine ⟨_, rfl, ?_⟩; have n0_ := Aside0.mk (below_step (by repeat (first | (with_reducible first | exact HB.out | apply below_alloc | apply pw_below_drewN | apply below_drew1) | exact HB.out)) hb); clear HB; have HB := n0_; clear n0_; (try clear hb); (try clear hb2); (try clear hk); (try clear hi)) | ((with_reducible refine gate_callee (f := 12) rfl ?_); refine goesL_ (some 10) rfl rfl Try.func12 (by kernel_rfl) rfl #[.string (⟨#[48, 48, 48, 48, 48, 48, 49]⟩ : ByteArray)] rfl (by (try simp only [List.map_toArray, List.map_cons, List.map_nil]); first | done | rfl | (simp only [List.length_drop, List.length_take]; rfl)) ?_; (with_reducible refine (stuff_Unstuff.calls (⟨#[48, 48, 48, 48, 48, 48, 49]⟩ : ByteArray) t103 t104 _ A2.out).mono ?_); rintro e w18 ⟨rfl, hb⟩; refine ⟨_, rfl, ?_⟩; have n0_ := Aside0.mk (below_step (by repeat (first | (with_reducible first | exact HB.out | apply below_alloc | apply pw_below_drewN | apply below_drew1) | exact HB.out)) hb); clear HB; have HB := n0_; clear n0_; (try clear hb); (try clear hb2); (try clear hk); (try clear hi)) | ((with_reducible refine gate_callee (f := 11) rfl ?_); refine goesL_ (some 13) rfl rfl Try.func11 (by kernel_rfl) rfl #[.string (⟨#[48, 48, 48, 48, 48]⟩ : ByteArray)] rfl (by (try simp only [List.map_toArray, List.map_cons, List.map_nil]); first | done | rfl | (simp only [List.length_drop, List.length_take]; rfl)) ?_; (with_reducible refine (stuff_Stuff.calls (⟨#[48, 48, 48, 48, 48]⟩ : ByteArray) t105 _ A3.out).mono ?_); rintro e w19 ⟨rfl, hb⟩; refine ⟨_, rfl, ?_⟩; have n0_ := Aside0.mk (below_step (by repeat (first | (with_reducible first | exact HB.out | apply below_alloc | apply pw_below_drewN | apply below_drew1) | exact HB.out)) hb); clear HB; have HB := n0_; clear n0_; (try clear hb); (try clear hb2); (try clear hk); (try clear hi)) | (go_at_call 14; (with_reducible refine (stuff_Next.calls (⟨#[48, 48, 48, 48, 48]⟩ : ByteArray) t106 _ A8.out).mono ?_); rintro e w20 ⟨rfl, hb⟩; have n0_ := Aside0.mk (below_step (by repeat (first | (with_reducible first | exact HB.out | apply below_alloc | apply pw_below_drewN | apply below_drew1) | exact HB.out)) hb); clear HB; have HB := n0_; clear n0_; (try clear hb); (try clear hb2); (try clear hk); (try clear hi)) | (go_at_call 14; (with_reducible refine (stuff_Next.calls (⟨#[49, 49, 49, 49, 49]⟩ : ByteArray) t107 _ A10.out).mono ?_); rintro e w21 ⟨rfl, hb⟩; have n0_ := Aside0.mk (below_step (by repeat (first | (with_reducible first | exact HB.out | apply below_alloc | apply pw_below_drewN | apply below_drew1) | exact HB.out)) hb); clear HB; have HB := n0_; clear n0_; (try clear hb); (try clear hb2); (try clear hk); (try clear hi)) | (go_at_call 14; (with_reducible refine (stuff_Next.calls (⟨#[48, 49]⟩ : ByteArray) t108 _ A12.out).mono ?_); rintro e w22 ⟨rfl, hb⟩; have n0_ := Aside0.mk (below_step (by repeat (first | (with_reducible first | exact HB.out | apply below_alloc | apply pw_below_drewN | apply below_drew1) | exact HB.out)) hb); clear HB; have HB := n0_; clear n0_; (try clear hb); (try clear hb2); (try clear hk); (try clear hi)) | (go_at_call 14; (with_reducible refine (stuff_Next.calls (⟨#[48, 48, 48, 48, 48, 48]⟩ : ByteArray) t109 _ A14.out).mono ?_); rintro e w23 ⟨rfl, hb⟩; have n0_ := Aside0.mk (below_step (by repeat (first | (with_reducible first | exact HB.out | apply below_alloc | apply pw_below_drewN | apply below_drew1) | exact HB.out)) hb); clear HB; have HB := n0_; clear n0_; (try clear hb); (try clear hb2); (try clear hk); (try clear hi)) | (go_at_call 13; (with_reducible refine (stuff_Most.calls 5 t110 _ A16.out).mono ?_); rintro e w' ⟨rfl, ⟨nd, rfl⟩⟩))
                  go_ret
                  exact ⟨by first | rfl | (simp [errW_none, errW_some] <;> rfl) | (simp [*, errW_none, errW_some] <;> rfl), by repeat (first | (with_reducible first | exact HB.out | apply below_alloc | apply pw_below_drewN | apply below_drew1) | exact HB.out)⟩
                · rw [if_neg c15] at H
                  have c15b0 : (t109 == (-2)) = false := beq_eq_false_iff_ne.mpr c15
                  have c15b1 : (t109 != (-2)) = true := bne_iff_ne.mpr c15
                  obtain rfl := Option.some.inj H
                  go_enter Try.func9, Try.ntmps9
                  go_wp2_with (first | ((with_reducible refine gate_callee (f := 12) rfl ?_); refine goesL_ (some 6) rfl rfl Try.func12 (by kernel_rfl) rfl #[.string (⟨#[48, 48, 48, 48, 48, 49]⟩ : ByteArray)] rfl (by (try simp only [List.map_toArray, List.map_cons, List.map_nil]); first | done | rfl | (simp only [List.length_drop, List.length_take]; rfl)) ?_; (with_reducible refine (stuff_Unstuff.calls (⟨#[48, 48, 48, 48, 48, 49]⟩ : ByteArray) t101 t102 _ A1.out).mono ?_); rintro e w24 ⟨rfl, hb⟩; refine ⟨_, rfl, ?_⟩; have n0_ := Aside0.mk (below_step (by repeat (first | (with_reducible first | exact HB.out | apply below_alloc | apply pw_below_drewN | apply below_drew1) | exact HB.out)) hb); clear HB; have HB := n0_; clear n0_; (try clear hb); (try clear hb2); (try clear hk); (try clear hi)) | ((with_reducible refine gate_callee (f := 12) rfl ?_); refine goesL_ (some 10) rfl rfl Try.func12 (by kernel_rfl) rfl #[.string (⟨#[48, 48, 48, 48, 48, 48, 49]⟩ : ByteArray)] rfl (by (try simp only [List.map_toArray, List.map_cons, List.map_nil]); first | done | rfl | (simp only [List.length_drop, List.length_take]; rfl)) ?_; (with_reducible refine (stuff_Unstuff.calls (⟨#[48, 48, 48, 48, 48, 48, 49]⟩ : ByteArray) t103 t104 _ A2.out).mono ?_); rintro e w25 ⟨rfl, hb⟩; refine ⟨_, rfl, ?_⟩; have n0_ := Aside0.mk (below_step (by repeat (first | (with_reducible first | exact HB.out | apply below_alloc | apply pw_below_drewN | apply below_drew1) | exact HB.out)) hb); clear HB; have HB := n0_; clear n0_; (try clear hb); (try clear hb2); (try clear hk); (try clear hi)) | ((with_reducible refine gate_callee (f := 11) rfl ?_); refine goesL_ (some 13) rfl rfl Try.func11 (by kernel_rfl) rfl #[.string (⟨#[48, 48, 48, 48, 48]⟩ : ByteArray)] rfl (by (try simp only [List.map_toArray, List.map_cons, List.map_nil]); first | done | rfl | (simp only [List.length_drop, List.length_take]; rfl)) ?_; (with_reducible refine (stuff_Stuff.calls (⟨#[48, 48, 48, 48, 48]⟩ : ByteArray) t105 _ A3.out).mono ?_); rintro e w26 ⟨rfl, hb⟩; refine ⟨_, rfl, ?_⟩; have n0_ := Aside0.mk (below_step (by repeat (first | (with_reducible first | exact HB.out | apply below_alloc | apply pw_below_drewN | apply below_drew1) | exact HB.out)) hb); clear HB; have HB := n0_; clear n0_; (try clear hb); (try clear hb2); (try clear hk); (try clear hi)) | (go_at_call 14; (with_reducible refine (stuff_Next.calls (⟨#[48, 48, 48, 48, 48]⟩ : ByteArray) t106 _ A8.out).mono ?_); rintro e w27 ⟨rfl, hb⟩; have n0_ := Aside0.mk (below_step (by repeat (first | (with_reducible first | exact HB.out | apply below_alloc | apply pw_below_drewN | apply below_drew1) | exact HB.out)) hb); clear HB; have HB := n0_; clear n0_; (try clear hb); (try clear hb2); (try clear hk); (try clear hi)) | (go_at_call 14; (with_reducible refine (stuff_Next.calls (⟨#[49, 49, 49, 49, 49]⟩ : ByteArray) t107 _ A10.out).mono ?_); rintro e w28 ⟨rfl, hb⟩; have n0_ := Aside0.mk (below_step (by repeat (first | (with_reducible first | exact HB.out | apply below_alloc | apply pw_below_drewN | apply below_drew1) | exact HB.out)) hb); clear HB; have HB := n0_; clear n0_; (try clear hb); (try clear hb2); (try clear hk); (try clear hi)) | (go_at_call 14; (with_reducible refine (stuff_Next.calls (⟨#[48, 49]⟩ : ByteArray) t108 _ A12.out).mono ?_); rintro e w29 ⟨rfl, hb⟩; have n0_ := Aside0.mk (below_step (by repeat (first | (with_reducible first | exact HB.out | apply below_alloc | apply pw_below_drewN | apply below_drew1) | exact HB.out)) hb); clear HB; have HB := n0_; clear n0_; (try clear hb); (try clear hb2); (try clear hk); (try clear hi)) | (go_at_call 14; (with_reducible refine (stuff_Next.calls (⟨#[48, 48, 48, 48, 48, 48]⟩ : ByteArray) t109 _ A14.out).mono ?_); rintro e w30 ⟨rfl, hb⟩; have n0_ := Aside0.mk (below_step (by repeat (first | (with_reducible first | exact HB.out | apply below_alloc | apply pw_below_drewN | apply below_drew1) | exact HB.out)) hb); clear HB; have HB := n0_; clear n0_; (try clear hb); (try clear hb2); (try clear hk); (try clear hi)))
                  go_ret
                  exact ⟨by first | rfl | (simp [errW_none, errW_some] <;> rfl) | (simp [*, errW_none, errW_some] <;> rfl), by repeat (first | (with_reducible first | exact HB.out | apply below_alloc | apply pw_below_drewN | apply below_drew1) | exact HB.out)⟩
              · rw [if_neg c13] at H
                have c13b0 : (t108 == (-1)) = false := beq_eq_false_iff_ne.mpr c13
                have c13b1 : (t108 != (-1)) = true := bne_iff_ne.mpr c13
                obtain rfl := Option.some.inj H
                go_enter Try.func9, Try.ntmps9
                go_wp2_with (first | ((with_reducible refine gate_callee (f := 12) rfl ?_); refine goesL_ (some 6) rfl rfl Try.func12 (by kernel_rfl) rfl #[.string (⟨#[48, 48, 48, 48, 48, 49]⟩ : ByteArray)] rfl (by (try simp only [List.map_toArray, List.map_cons, List.map_nil]); first | done | rfl | (simp only [List.length_drop, List.length_take]; rfl)) ?_; (with_reducible refine (stuff_Unstuff.calls (⟨#[48, 48, 48, 48, 48, 49]⟩ : ByteArray) t101 t102 _ A1.out).mono ?_); rintro e w31 ⟨rfl, hb⟩; refine ⟨_, rfl, ?_⟩; have n0_ := Aside0.mk (below_step (by repeat (first | (with_reducible first | exact HB.out | apply below_alloc | apply pw_below_drewN | apply below_drew1) | exact HB.out)) hb); clear HB; have HB := n0_; clear n0_; (try clear hb); (try clear hb2); (try clear hk); (try clear hi)) | ((with_reducible refine gate_callee (f := 12) rfl ?_); refine goesL_ (some 10) rfl rfl Try.func12 (by kernel_rfl) rfl #[.string (⟨#[48, 48, 48, 48, 48, 48, 49]⟩ : ByteArray)] rfl (by (try simp only [List.map_toArray, List.map_cons, List.map_nil]); first | done | rfl | (simp only [List.length_drop, List.length_take]; rfl)) ?_; (with_reducible refine (stuff_Unstuff.calls (⟨#[48, 48, 48, 48, 48, 48, 49]⟩ : ByteArray) t103 t104 _ A2.out).mono ?_); rintro e w32 ⟨rfl, hb⟩; refine ⟨_, rfl, ?_⟩; have n0_ := Aside0.mk (below_step (by repeat (first | (with_reducible first | exact HB.out | apply below_alloc | apply pw_below_drewN | apply below_drew1) | exact HB.out)) hb); clear HB; have HB := n0_; clear n0_; (try clear hb); (try clear hb2); (try clear hk); (try clear hi)) | ((with_reducible refine gate_callee (f := 11) rfl ?_); refine goesL_ (some 13) rfl rfl Try.func11 (by kernel_rfl) rfl #[.string (⟨#[48, 48, 48, 48, 48]⟩ : ByteArray)] rfl (by (try simp only [List.map_toArray, List.map_cons, List.map_nil]); first | done | rfl | (simp only [List.length_drop, List.length_take]; rfl)) ?_; (with_reducible refine (stuff_Stuff.calls (⟨#[48, 48, 48, 48, 48]⟩ : ByteArray) t105 _ A3.out).mono ?_); rintro e w33 ⟨rfl, hb⟩; refine ⟨_, rfl, ?_⟩; have n0_ := Aside0.mk (below_step (by repeat (first | (with_reducible first | exact HB.out | apply below_alloc | apply pw_below_drewN | apply below_drew1) | exact HB.out)) hb); clear HB; have HB := n0_; clear n0_; (try clear hb); (try clear hb2); (try clear hk); (try clear hi)) | (go_at_call 14; (with_reducible refine (stuff_Next.calls (⟨#[48, 48, 48, 48, 48]⟩ : ByteArray) t106 _ A8.out).mono ?_); rintro e w34 ⟨rfl, hb⟩; have n0_ := Aside0.mk (below_step (by repeat (first | (with_reducible first | exact HB.out | apply below_alloc | apply pw_below_drewN | apply below_drew1) | exact HB.out)) hb); clear HB; have HB := n0_; clear n0_; (try clear hb); (try clear hb2); (try clear hk); (try clear hi)) | (go_at_call 14; (with_reducible refine (stuff_Next.calls (⟨#[49, 49, 49, 49, 49]⟩ : ByteArray) t107 _ A10.out).mono ?_); rintro e w35 ⟨rfl, hb⟩; have n0_ := Aside0.mk (below_step (by repeat (first | (with_reducible first | exact HB.out | apply below_alloc | apply pw_below_drewN | apply below_drew1) | exact HB.out)) hb); clear HB; have HB := n0_; clear n0_; (try clear hb); (try clear hb2); (try clear hk); (try clear hi)) | (go_at_call 14; (with_reducible refine (stuff_Next.calls (⟨#[48, 49]⟩ : ByteArray) t108 _ A12.out).mono ?_); rintro e w36 ⟨rfl, hb⟩; have n0_ := Aside0.mk (below_step (by repeat (first | (with_reducible first | exact HB.out | apply below_alloc | apply pw_below_drewN | apply below_drew1) | exact HB.out)) hb); clear HB; have HB := n0_; clear n0_; (try clear hb); (try clear hb2); (try clear hk); (try clear hi)))
                go_ret
                exact ⟨by first | rfl | (simp [errW_none, errW_some] <;> rfl) | (simp [*, errW_none, errW_some] <;> rfl), by repeat (first | (with_reducible first | exact HB.out | apply below_alloc | apply pw_below_drewN | apply below_drew1) | exact HB.out)⟩
            · rw [if_neg c11] at H
              have c11b0 : (t107 == 0) = false := beq_eq_false_iff_ne.mpr c11
              have c11b1 : (t107 != 0) = true := bne_iff_ne.mpr c11
              obtain rfl := Option.some.inj H
              go_enter Try.func9, Try.ntmps9
              go_wp2_with (first | ((with_reducible refine gate_callee (f := 12) rfl ?_); refine goesL_ (some 6) rfl rfl Try.func12 (by kernel_rfl) rfl #[.string (⟨#[48, 48, 48, 48, 48, 49]⟩ : ByteArray)] rfl (by (try simp only [List.map_toArray, List.map_cons, List.map_nil]); first | done | rfl | (simp only [List.length_drop, List.length_take]; rfl)) ?_; (with_reducible refine (stuff_Unstuff.calls (⟨#[48, 48, 48, 48, 48, 49]⟩ : ByteArray) t101 t102 _ A1.out).mono ?_); rintro e w37 ⟨rfl, hb⟩; refine ⟨_, rfl, ?_⟩; have n0_ := Aside0.mk (below_step (by repeat (first | (with_reducible first | exact HB.out | apply below_alloc | apply pw_below_drewN | apply below_drew1) | exact HB.out)) hb); clear HB; have HB := n0_; clear n0_; (try clear hb); (try clear hb2); (try clear hk); (try clear hi)) | ((with_reducible refine gate_callee (f := 12) rfl ?_); refine goesL_ (some 10) rfl rfl Try.func12 (by kernel_rfl) rfl #[.string (⟨#[48, 48, 48, 48, 48, 48, 49]⟩ : ByteArray)] rfl (by (try simp only [List.map_toArray, List.map_cons, List.map_nil]); first | done | rfl | (simp only [List.length_drop, List.length_take]; rfl)) ?_; (with_reducible refine (stuff_Unstuff.calls (⟨#[48, 48, 48, 48, 48, 48, 49]⟩ : ByteArray) t103 t104 _ A2.out).mono ?_); rintro e w38 ⟨rfl, hb⟩; refine ⟨_, rfl, ?_⟩; have n0_ := Aside0.mk (below_step (by repeat (first | (with_reducible first | exact HB.out | apply below_alloc | apply pw_below_drewN | apply below_drew1) | exact HB.out)) hb); clear HB; have HB := n0_; clear n0_; (try clear hb); (try clear hb2); (try clear hk); (try clear hi)) | ((with_reducible refine gate_callee (f := 11) rfl ?_); refine goesL_ (some 13) rfl rfl Try.func11 (by kernel_rfl) rfl #[.string (⟨#[48, 48, 48, 48, 48]⟩ : ByteArray)] rfl (by (try simp only [List.map_toArray, List.map_cons, List.map_nil]); first | done | rfl | (simp only [List.length_drop, List.length_take]; rfl)) ?_; (with_reducible refine (stuff_Stuff.calls (⟨#[48, 48, 48, 48, 48]⟩ : ByteArray) t105 _ A3.out).mono ?_); rintro e w39 ⟨rfl, hb⟩; refine ⟨_, rfl, ?_⟩; have n0_ := Aside0.mk (below_step (by repeat (first | (with_reducible first | exact HB.out | apply below_alloc | apply pw_below_drewN | apply below_drew1) | exact HB.out)) hb); clear HB; have HB := n0_; clear n0_; (try clear hb); (try clear hb2); (try clear hk); (try clear hi)) | (go_at_call 14; (with_reducible refine (stuff_Next.calls (⟨#[48, 48, 48, 48, 48]⟩ : ByteArray) t106 _ A8.out).mono ?_); rintro e w40 ⟨rfl, hb⟩; have n0_ := Aside0.mk (below_step (by repeat (first | (with_reducible first | exact HB.out | apply below_alloc | apply pw_below_drewN | apply below_drew1) | exact HB.out)) hb); clear HB; have HB := n0_; clear n0_; (try clear hb); (try clear hb2); (try clear hk); (try clear hi)) | (go_at_call 14; (with_reducible refine (stuff_Next.calls (⟨#[49, 49, 49, 49, 49]⟩ : ByteArray) t107 _ A10.out).mono ?_); rintro e w41 ⟨rfl, hb⟩; have n0_ := Aside0.mk (below_step (by repeat (first | (with_reducible first | exact HB.out | apply below_alloc | apply pw_below_drewN | apply below_drew1) | exact HB.out)) hb); clear HB; have HB := n0_; clear n0_; (try clear hb); (try clear hb2); (try clear hk); (try clear hi)))
              go_ret
              exact ⟨by first | rfl | (simp [errW_none, errW_some] <;> rfl) | (simp [*, errW_none, errW_some] <;> rfl), by repeat (first | (with_reducible first | exact HB.out | apply below_alloc | apply pw_below_drewN | apply below_drew1) | exact HB.out)⟩
          · rw [if_neg c9] at H
            have c9b0 : (t106 == 1) = false := beq_eq_false_iff_ne.mpr c9
            have c9b1 : (t106 != 1) = true := bne_iff_ne.mpr c9
            obtain rfl := Option.some.inj H
            go_enter Try.func9, Try.ntmps9
            go_wp2_with (first | ((with_reducible refine gate_callee (f := 12) rfl ?_); refine goesL_ (some 6) rfl rfl Try.func12 (by kernel_rfl) rfl #[.string (⟨#[48, 48, 48, 48, 48, 49]⟩ : ByteArray)] rfl (by (try simp only [List.map_toArray, List.map_cons, List.map_nil]); first | done | rfl | (simp only [List.length_drop, List.length_take]; rfl)) ?_; (with_reducible refine (stuff_Unstuff.calls (⟨#[48, 48, 48, 48, 48, 49]⟩ : ByteArray) t101 t102 _ A1.out).mono ?_); rintro e w42 ⟨rfl, hb⟩; refine ⟨_, rfl, ?_⟩; have n0_ := Aside0.mk (below_step (by repeat (first | (with_reducible first | exact HB.out | apply below_alloc | apply pw_below_drewN | apply below_drew1) | exact HB.out)) hb); clear HB; have HB := n0_; clear n0_; (try clear hb); (try clear hb2); (try clear hk); (try clear hi)) | ((with_reducible refine gate_callee (f := 12) rfl ?_); refine goesL_ (some 10) rfl rfl Try.func12 (by kernel_rfl) rfl #[.string (⟨#[48, 48, 48, 48, 48, 48, 49]⟩ : ByteArray)] rfl (by (try simp only [List.map_toArray, List.map_cons, List.map_nil]); first | done | rfl | (simp only [List.length_drop, List.length_take]; rfl)) ?_; (with_reducible refine (stuff_Unstuff.calls (⟨#[48, 48, 48, 48, 48, 48, 49]⟩ : ByteArray) t103 t104 _ A2.out).mono ?_); rintro e w43 ⟨rfl, hb⟩; refine ⟨_, rfl, ?_⟩; have n0_ := Aside0.mk (below_step (by repeat (first | (with_reducible first | exact HB.out | apply below_alloc | apply pw_below_drewN | apply below_drew1) | exact HB.out)) hb); clear HB; have HB := n0_; clear n0_; (try clear hb); (try clear hb2); (try clear hk); (try clear hi)) | ((with_reducible refine gate_callee (f := 11) rfl ?_); refine goesL_ (some 13) rfl rfl Try.func11 (by kernel_rfl) rfl #[.string (⟨#[48, 48, 48, 48, 48]⟩ : ByteArray)] rfl (by (try simp only [List.map_toArray, List.map_cons, List.map_nil]); first | done | rfl | (simp only [List.length_drop, List.length_take]; rfl)) ?_; (with_reducible refine (stuff_Stuff.calls (⟨#[48, 48, 48, 48, 48]⟩ : ByteArray) t105 _ A3.out).mono ?_); rintro e w44 ⟨rfl, hb⟩; refine ⟨_, rfl, ?_⟩; have n0_ := Aside0.mk (below_step (by repeat (first | (with_reducible first | exact HB.out | apply below_alloc | apply pw_below_drewN | apply below_drew1) | exact HB.out)) hb); clear HB; have HB := n0_; clear n0_; (try clear hb); (try clear hb2); (try clear hk); (try clear hi)) | (go_at_call 14; (with_reducible refine (stuff_Next.calls (⟨#[48, 48, 48, 48, 48]⟩ : ByteArray) t106 _ A8.out).mono ?_); rintro e w45 ⟨rfl, hb⟩; have n0_ := Aside0.mk (below_step (by repeat (first | (with_reducible first | exact HB.out | apply below_alloc | apply pw_below_drewN | apply below_drew1) | exact HB.out)) hb); clear HB; have HB := n0_; clear n0_; (try clear hb); (try clear hb2); (try clear hk); (try clear hi)))
            go_ret
            exact ⟨by first | rfl | (simp [errW_none, errW_some] <;> rfl) | (simp [*, errW_none, errW_some] <;> rfl), by repeat (first | (with_reducible first | exact HB.out | apply below_alloc | apply pw_below_drewN | apply below_drew1) | exact HB.out)⟩
        · rw [if_neg c7] at H
          have c7b0 : (t104 == 5) = false := beq_eq_false_iff_ne.mpr c7
          have c7b1 : (t104 != 5) = true := bne_iff_ne.mpr c7
          obtain rfl := Option.some.inj H
          go_enter Try.func9, Try.ntmps9
          go_wp2_with (first | ((with_reducible refine gate_callee (f := 12) rfl ?_); refine goesL_ (some 6) rfl rfl Try.func12 (by kernel_rfl) rfl #[.string (⟨#[48, 48, 48, 48, 48, 49]⟩ : ByteArray)] rfl (by (try simp only [List.map_toArray, List.map_cons, List.map_nil]); first | done | rfl | (simp only [List.length_drop, List.length_take]; rfl)) ?_; (with_reducible refine (stuff_Unstuff.calls (⟨#[48, 48, 48, 48, 48, 49]⟩ : ByteArray) t101 t102 _ A1.out).mono ?_); rintro e w46 ⟨rfl, hb⟩; refine ⟨_, rfl, ?_⟩; have n0_ := Aside0.mk (below_step (by repeat (first | (with_reducible first | exact HB.out | apply below_alloc | apply pw_below_drewN | apply below_drew1) | exact HB.out)) hb); clear HB; have HB := n0_; clear n0_; (try clear hb); (try clear hb2); (try clear hk); (try clear hi)) | ((with_reducible refine gate_callee (f := 12) rfl ?_); refine goesL_ (some 10) rfl rfl Try.func12 (by kernel_rfl) rfl #[.string (⟨#[48, 48, 48, 48, 48, 48, 49]⟩ : ByteArray)] rfl (by (try simp only [List.map_toArray, List.map_cons, List.map_nil]); first | done | rfl | (simp only [List.length_drop, List.length_take]; rfl)) ?_; (with_reducible refine (stuff_Unstuff.calls (⟨#[48, 48, 48, 48, 48, 48, 49]⟩ : ByteArray) t103 t104 _ A2.out).mono ?_); rintro e w47 ⟨rfl, hb⟩; refine ⟨_, rfl, ?_⟩; have n0_ := Aside0.mk (below_step (by repeat (first | (with_reducible first | exact HB.out | apply below_alloc | apply pw_below_drewN | apply below_drew1) | exact HB.out)) hb); clear HB; have HB := n0_; clear n0_; (try clear hb); (try clear hb2); (try clear hk); (try clear hi)) | ((with_reducible refine gate_callee (f := 11) rfl ?_); refine goesL_ (some 13) rfl rfl Try.func11 (by kernel_rfl) rfl #[.string (⟨#[48, 48, 48, 48, 48]⟩ : ByteArray)] rfl (by (try simp only [List.map_toArray, List.map_cons, List.map_nil]); first | done | rfl | (simp only [List.length_drop, List.length_take]; rfl)) ?_; (with_reducible refine (stuff_Stuff.calls (⟨#[48, 48, 48, 48, 48]⟩ : ByteArray) t105 _ A3.out).mono ?_); rintro e w48 ⟨rfl, hb⟩; refine ⟨_, rfl, ?_⟩; have n0_ := Aside0.mk (below_step (by repeat (first | (with_reducible first | exact HB.out | apply below_alloc | apply pw_below_drewN | apply below_drew1) | exact HB.out)) hb); clear HB; have HB := n0_; clear n0_; (try clear hb); (try clear hb2); (try clear hk); (try clear hi)))
          go_ret
          exact ⟨by first | rfl | (simp [errW_none, errW_some] <;> rfl) | (simp [*, errW_none, errW_some] <;> rfl), by repeat (first | (with_reducible first | exact HB.out | apply below_alloc | apply pw_below_drewN | apply below_drew1) | exact HB.out)⟩
      · rw [if_neg c6] at H
        have c6b0 : (t102 == (-1)) = false := beq_eq_false_iff_ne.mpr c6
        have c6b1 : (t102 != (-1)) = true := bne_iff_ne.mpr c6
        obtain rfl := Option.some.inj H
        go_enter Try.func9, Try.ntmps9
        go_wp2_with (first | ((with_reducible refine gate_callee (f := 12) rfl ?_); refine goesL_ (some 6) rfl rfl Try.func12 (by kernel_rfl) rfl #[.string (⟨#[48, 48, 48, 48, 48, 49]⟩ : ByteArray)] rfl (by (try simp only [List.map_toArray, List.map_cons, List.map_nil]); first | done | rfl | (simp only [List.length_drop, List.length_take]; rfl)) ?_; (with_reducible refine (stuff_Unstuff.calls (⟨#[48, 48, 48, 48, 48, 49]⟩ : ByteArray) t101 t102 _ A1.out).mono ?_); rintro e w49 ⟨rfl, hb⟩; refine ⟨_, rfl, ?_⟩; have n0_ := Aside0.mk (below_step (by repeat (first | (with_reducible first | exact HB.out | apply below_alloc | apply pw_below_drewN | apply below_drew1) | exact HB.out)) hb); clear HB; have HB := n0_; clear n0_; (try clear hb); (try clear hb2); (try clear hk); (try clear hi)) | ((with_reducible refine gate_callee (f := 12) rfl ?_); refine goesL_ (some 10) rfl rfl Try.func12 (by kernel_rfl) rfl #[.string (⟨#[48, 48, 48, 48, 48, 48, 49]⟩ : ByteArray)] rfl (by (try simp only [List.map_toArray, List.map_cons, List.map_nil]); first | done | rfl | (simp only [List.length_drop, List.length_take]; rfl)) ?_; (with_reducible refine (stuff_Unstuff.calls (⟨#[48, 48, 48, 48, 48, 48, 49]⟩ : ByteArray) t103 t104 _ A2.out).mono ?_); rintro e w50 ⟨rfl, hb⟩; refine ⟨_, rfl, ?_⟩; have n0_ := Aside0.mk (below_step (by repeat (first | (with_reducible first | exact HB.out | apply below_alloc | apply pw_below_drewN | apply below_drew1) | exact HB.out)) hb); clear HB; have HB := n0_; clear n0_; (try clear hb); (try clear hb2); (try clear hk); (try clear hi)) | ((with_reducible refine gate_callee (f := 11) rfl ?_); refine goesL_ (some 13) rfl rfl Try.func11 (by kernel_rfl) rfl #[.string (⟨#[48, 48, 48, 48, 48]⟩ : ByteArray)] rfl (by (try simp only [List.map_toArray, List.map_cons, List.map_nil]); first | done | rfl | (simp only [List.length_drop, List.length_take]; rfl)) ?_; (with_reducible refine (stuff_Stuff.calls (⟨#[48, 48, 48, 48, 48]⟩ : ByteArray) t105 _ A3.out).mono ?_); rintro e w51 ⟨rfl, hb⟩; refine ⟨_, rfl, ?_⟩; have n0_ := Aside0.mk (below_step (by repeat (first | (with_reducible first | exact HB.out | apply below_alloc | apply pw_below_drewN | apply below_drew1) | exact HB.out)) hb); clear HB; have HB := n0_; clear n0_; (try clear hb); (try clear hb2); (try clear hk); (try clear hi)))
        go_ret
        exact ⟨by first | rfl | (simp [errW_none, errW_some] <;> rfl) | (simp [*, errW_none, errW_some] <;> rfl), by repeat (first | (with_reducible first | exact HB.out | apply below_alloc | apply pw_below_drewN | apply below_drew1) | exact HB.out)⟩
    · rw [if_neg c5] at H
      have c5b0 : (t101.toList == ([48, 48, 48, 48, 48] : List UInt8)) = false := beq_eq_false_iff_ne.mpr c5
      have c5b1 : (t101.toList != ([48, 48, 48, 48, 48] : List UInt8)) = true := bne_iff_ne.mpr c5
      obtain rfl := Option.some.inj H
      go_enter Try.func9, Try.ntmps9
      go_wp2_with (first | ((with_reducible refine gate_callee (f := 12) rfl ?_); refine goesL_ (some 6) rfl rfl Try.func12 (by kernel_rfl) rfl #[.string (⟨#[48, 48, 48, 48, 48, 49]⟩ : ByteArray)] rfl (by (try simp only [List.map_toArray, List.map_cons, List.map_nil]); first | done | rfl | (simp only [List.length_drop, List.length_take]; rfl)) ?_; (with_reducible refine (stuff_Unstuff.calls (⟨#[48, 48, 48, 48, 48, 49]⟩ : ByteArray) t101 t102 _ A1.out).mono ?_); rintro e w52 ⟨rfl, hb⟩; refine ⟨_, rfl, ?_⟩; have n0_ := Aside0.mk (below_step (by repeat (first | (with_reducible first | exact HB.out | apply below_alloc | apply pw_below_drewN | apply below_drew1) | exact HB.out)) hb); clear HB; have HB := n0_; clear n0_; (try clear hb); (try clear hb2); (try clear hk); (try clear hi)) | ((with_reducible refine gate_callee (f := 12) rfl ?_); refine goesL_ (some 10) rfl rfl Try.func12 (by kernel_rfl) rfl #[.string (⟨#[48, 48, 48, 48, 48, 48, 49]⟩ : ByteArray)] rfl (by (try simp only [List.map_toArray, List.map_cons, List.map_nil]); first | done | rfl | (simp only [List.length_drop, List.length_take]; rfl)) ?_; (with_reducible refine (stuff_Unstuff.calls (⟨#[48, 48, 48, 48, 48, 48, 49]⟩ : ByteArray) t103 t104 _ A2.out).mono ?_); rintro e w53 ⟨rfl, hb⟩; refine ⟨_, rfl, ?_⟩; have n0_ := Aside0.mk (below_step (by repeat (first | (with_reducible first | exact HB.out | apply below_alloc | apply pw_below_drewN | apply below_drew1) | exact HB.out)) hb); clear HB; have HB := n0_; clear n0_; (try clear hb); (try clear hb2); (try clear hk); (try clear hi)) | ((with_reducible refine gate_callee (f := 11) rfl ?_); refine goesL_ (some 13) rfl rfl Try.func11 (by kernel_rfl) rfl #[.string (⟨#[48, 48, 48, 48, 48]⟩ : ByteArray)] rfl (by (try simp only [List.map_toArray, List.map_cons, List.map_nil]); first | done | rfl | (simp only [List.length_drop, List.length_take]; rfl)) ?_; (with_reducible refine (stuff_Stuff.calls (⟨#[48, 48, 48, 48, 48]⟩ : ByteArray) t105 _ A3.out).mono ?_); rintro e w54 ⟨rfl, hb⟩; refine ⟨_, rfl, ?_⟩; have n0_ := Aside0.mk (below_step (by repeat (first | (with_reducible first | exact HB.out | apply below_alloc | apply pw_below_drewN | apply below_drew1) | exact HB.out)) hb); clear HB; have HB := n0_; clear n0_; (try clear hb); (try clear hb2); (try clear hk); (try clear hi)))
      go_ret
      exact ⟨by first | rfl | (simp [errW_none, errW_some] <;> rfl) | (simp [*, errW_none, errW_some] <;> rfl), by repeat (first | (with_reducible first | exact HB.out | apply below_alloc | apply pw_below_drewN | apply below_drew1) | exact HB.out)⟩
  · rw [if_neg c4] at H
    have c4b0 : (t105.toList == ([48, 48, 48, 48, 48, 49] : List UInt8)) = false := beq_eq_false_iff_ne.mpr c4
    have c4b1 : (t105.toList != ([48, 48, 48, 48, 48, 49] : List UInt8)) = true := bne_iff_ne.mpr c4
    obtain rfl := Option.some.inj H
    go_enter Try.func9, Try.ntmps9
    go_wp2_with (first | ((with_reducible refine gate_callee (f := 12) rfl ?_); refine goesL_ (some 6) rfl rfl Try.func12 (by kernel_rfl) rfl #[.string (⟨#[48, 48, 48, 48, 48, 49]⟩ : ByteArray)] rfl (by (try simp only [List.map_toArray, List.map_cons, List.map_nil]); first | done | rfl | (simp only [List.length_drop, List.length_take]; rfl)) ?_; (with_reducible refine (stuff_Unstuff.calls (⟨#[48, 48, 48, 48, 48, 49]⟩ : ByteArray) t101 t102 _ A1.out).mono ?_); rintro e w55 ⟨rfl, hb⟩; refine ⟨_, rfl, ?_⟩; have n0_ := Aside0.mk (below_step (by repeat (first | (with_reducible first | exact HB.out | apply below_alloc | apply pw_below_drewN | apply below_drew1) | exact HB.out)) hb); clear HB; have HB := n0_; clear n0_; (try clear hb); (try clear hb2); (try clear hk); (try clear hi)) | ((with_reducible refine gate_callee (f := 12) rfl ?_); refine goesL_ (some 10) rfl rfl Try.func12 (by kernel_rfl) rfl #[.string (⟨#[48, 48, 48, 48, 48, 48, 49]⟩ : ByteArray)] rfl (by (try simp only [List.map_toArray, List.map_cons, List.map_nil]); first | done | rfl | (simp only [List.length_drop, List.length_take]; rfl)) ?_; (with_reducible refine (stuff_Unstuff.calls (⟨#[48, 48, 48, 48, 48, 48, 49]⟩ : ByteArray) t103 t104 _ A2.out).mono ?_); rintro e w56 ⟨rfl, hb⟩; refine ⟨_, rfl, ?_⟩; have n0_ := Aside0.mk (below_step (by repeat (first | (with_reducible first | exact HB.out | apply below_alloc | apply pw_below_drewN | apply below_drew1) | exact HB.out)) hb); clear HB; have HB := n0_; clear n0_; (try clear hb); (try clear hb2); (try clear hk); (try clear hi)) | ((with_reducible refine gate_callee (f := 11) rfl ?_); refine goesL_ (some 13) rfl rfl Try.func11 (by kernel_rfl) rfl #[.string (⟨#[48, 48, 48, 48, 48]⟩ : ByteArray)] rfl (by (try simp only [List.map_toArray, List.map_cons, List.map_nil]); first | done | rfl | (simp only [List.length_drop, List.length_take]; rfl)) ?_; (with_reducible refine (stuff_Stuff.calls (⟨#[48, 48, 48, 48, 48]⟩ : ByteArray) t105 _ A3.out).mono ?_); rintro e w57 ⟨rfl, hb⟩; refine ⟨_, rfl, ?_⟩; have n0_ := Aside0.mk (below_step (by repeat (first | (with_reducible first | exact HB.out | apply below_alloc | apply pw_below_drewN | apply below_drew1) | exact HB.out)) hb); clear HB; have HB := n0_; clear n0_; (try clear hb); (try clear hb2); (try clear hk); (try clear hi)))
    go_ret
    exact ⟨by first | rfl | (simp [errW_none, errW_some] <;> rfl) | (simp [*, errW_none, errW_some] <;> rfl), by repeat (first | (with_reducible first | exact HB.out | apply below_alloc | apply pw_below_drewN | apply below_drew1) | exact HB.out)⟩

/-! ### ostinatolaw2_StuffJoin: function 6 -/
def ostinatolaw2_StuffJoin.j0 : Nat → ByteArray → ByteArray → Bool → Option (Bool)
  | 0, _, _, _ => none
  | k + 1, x0, x1, x16 => if x16 = true then (some true) else ((stuff_Stuff.f x0).bind fun t112 => (if x0.size + x1.size ≤ 9223372036854775807 then ((stuff_Stuff.f (x0 ++ x1)).bind fun t113 => (if (t112.size : Int) ≤ (t113.size : Int) then (if 0 ≤ (t112.size : Int) then (if (t113.extract 0 ((t112.size : Int) : Int).toNat).toList = t112.toList then ((stuff_Most.f (wrap64 ((x0.size : Int) + (x1.size : Int)))).bind fun t114 => (some (decide ((t113.size : Int) ≤ t114)))) else (some false)) else (none)) else (some false))) else (none)))
def ostinatolaw2_StuffJoin.f (k : Nat) (a0 : ByteArray) (a1 : ByteArray) : Option (Bool) := (ostinatolaw2_known.f).bind fun t111 => (if t111 = true then (if (a0.size : Int) > 100 then (ostinatolaw2_StuffJoin.j0 k a0 a1 true) else (ostinatolaw2_StuffJoin.j0 k a0 a1 (decide ((a1.size : Int) > 100)))) else (some false))
theorem ostinatolaw2_StuffJoin.mono_l : ∀ k, (∀ y0 y1 y2, LeO (ostinatolaw2_StuffJoin.j0 k y0 y1 y2) (ostinatolaw2_StuffJoin.j0 (k + 1) y0 y1 y2))
  | 0 => fun _ _ _ r h => by simp [ostinatolaw2_StuffJoin.j0] at h
  | k + 1 => by
    have ih0 := ostinatolaw2_StuffJoin.mono_l k
    · intro y0 y1 y2
      unfold ostinatolaw2_StuffJoin.j0
      repeat' first
      | (with_reducible exact ih0 _ _ _)
      | (with_reducible exact LeO.refl _)
      | (with_reducible exact LeO.none _)
      | (with_reducible refine LeO.ite ?_ ?_)
      | (with_reducible refine LeO.bind ?_ (fun _ => ?_))
      | exact ih0 _ _ _
      | exact LeO.none _
      | refine LeO.ite ?_ ?_
      | refine LeO.bind ?_ (fun _ => ?_)
theorem ostinatolaw2_StuffJoin.mono : ∀ a0 a1 k, LeO (ostinatolaw2_StuffJoin.f k a0 a1) (ostinatolaw2_StuffJoin.f (k + 1) a0 a1) := by
  intro a0 a1 k
  have ih0 := ostinatolaw2_StuffJoin.mono_l k
  unfold ostinatolaw2_StuffJoin.f
  repeat' first
      | (with_reducible exact ih0 _ _ _)
      | (with_reducible exact LeO.refl _)
      | (with_reducible exact LeO.none _)
      | (with_reducible refine LeO.ite ?_ ?_)
      | (with_reducible refine LeO.bind ?_ (fun _ => ?_))
      | exact ih0 _ _ _
      | exact LeO.none _
      | refine LeO.ite ?_ ?_
      | refine LeO.bind ?_ (fun _ => ?_)
set_option maxHeartbeats 8000000 in
set_option maxRecDepth 100000 in
theorem ostinatolaw2_StuffJoin.calls (k : Nat) (a0 : ByteArray) (a1 : ByteArray) (r : Bool) (w : World) (h : ostinatolaw2_StuffJoin.f k a0 a1 = some r) :
    Calls Try.prog 6 #[.string a0, .string a1] w fun e w' => e = .returned (.bool r) ∧ Below w.heap.size w w' := by
  have HB := Aside0.mk (Below.refl w.heap.size w)
  have H : ((ostinatolaw2_known.f).bind fun t111 => (if t111 = true then (if (a0.size : Int) > 100 then (ostinatolaw2_StuffJoin.j0 k a0 a1 true) else (ostinatolaw2_StuffJoin.j0 k a0 a1 (decide ((a1.size : Int) > 100)))) else (some false))) = some r := h
  clear h
  replace H := Option.bind_eq_some_iff.mp H
  obtain ⟨t111, A30, H⟩ := H
  replace H : (if t111 = true then (if (a0.size : Int) > 100 then (ostinatolaw2_StuffJoin.j0 k a0 a1 true) else (ostinatolaw2_StuffJoin.j0 k a0 a1 (decide ((a1.size : Int) > 100)))) else (some false)) = some r := H
  have A3 := Aside0.mk A30
  clear A30
  by_cases c4 : t111 = true
  · subst c4
    have H1 : (if (a0.size : Int) > 100 then (ostinatolaw2_StuffJoin.j0 k a0 a1 true) else (ostinatolaw2_StuffJoin.j0 k a0 a1 (decide ((a1.size : Int) > 100)))) = some r := by rw [if_pos rfl] at H; exact H
    clear H
    have H := H1
    clear H1
    have HC5 := Aside0.mk H
    clear H
    go_enter Try.func6, Try.ntmps6
    go_upto_region 3 with (first | ((with_reducible refine gate_callee (f := 9) rfl ?_); refine goesL_ (some 7) rfl rfl Try.func9 (by kernel_rfl) rfl #[] rfl (by (try simp only [List.map_toArray, List.map_cons, List.map_nil]); first | done | rfl | (simp only [List.length_drop, List.length_take]; rfl)) ?_; (with_reducible refine (ostinatolaw2_known.calls  true _ A3.out).mono ?_); rintro e w6 ⟨rfl, hb⟩; refine ⟨_, rfl, ?_⟩; have n0_ := Aside0.mk (below_step (by repeat (first | (with_reducible first | exact HB.out | apply below_alloc | apply pw_below_drewN | apply below_drew1) | exact HB.out)) hb); clear HB; have HB := n0_; clear n0_; (try clear hb); (try clear hb2); (try clear hk); (try clear hi)))
    (try simp only [Act.put, List.setIfInBounds_toArray, List.set_cons_zero, List.set_cons_succ])
    go_cut [16] (fun v16 wc => ∃ (kq : Nat) (x16_4 : Bool), v16 = .bool x16_4 ∧ Aside0 (ostinatolaw2_StuffJoin.j0 kq a0 a1 x16_4 = some r) ∧ Aside0 (kq ≤ k) ∧ Aside0 (Below w.heap.size w wc))
    case first =>
      have H := HC5.out
      clear HC5
      by_cases c7 : (a0.size : Int) > 100
      · rw [if_pos c7] at H
        have c7b0 : decide (100 < (a0.size : Int)) = true := decide_eq_true c7
        have c7b1 : decide (100 < a0.size) = true := decide_eq_true (by omega)
        clear c7
        (first | rw [c7b0] | (simp only [i64_w, i32_w]; rw [c7b0]) | skip)
        have H' := Aside0.mk H
        clear H
        go_wp2
        go_meet
        case rel => exact ⟨_, (true), (by first | rfl | (simp; done) | (simp [*]; done)), H', ⟨by first | omega | exact Nat.le_refl _⟩, ⟨by repeat (first | (with_reducible first | exact HB.out | apply below_alloc | apply pw_below_drewN | apply below_drew1) | exact HB.out)⟩⟩
      · rw [if_neg c7] at H
        have c7b0 : decide (100 < (a0.size : Int)) = false := decide_eq_false c7
        have c7b1 : decide (100 < a0.size) = false := decide_eq_false (by omega)
        clear c7
        (first | rw [c7b0] | (simp only [i64_w, i32_w]; rw [c7b0]) | skip)
        have H' := Aside0.mk H
        clear H
        go_wp2
        go_meet
        case rel => exact ⟨_, (decide ((a1.size : Int) > 100)), (by first | rfl | (simp; done) | (simp [*]; done)), H', ⟨by first | omega | exact Nat.le_refl _⟩, ⟨by repeat (first | (with_reducible first | exact HB.out | apply below_alloc | apply pw_below_drewN | apply below_drew1) | exact HB.out)⟩⟩
    case rest =>
      clear HC5
      try clear p2
      try clear c4
      try clear c6
      try clear c7
      try clear c7b0
      try clear c7b1
      obtain ⟨kq, x16_4, rfl, HA, HJ4, HB⟩ := hcut
      cases kq with
      | zero => exact absurd HA.out (by simp [ostinatolaw2_StuffJoin.j0])
      | succ kj4 =>
        have H := HA.out
        clear HA
        simp only [ostinatolaw2_StuffJoin.j0] at H
        by_cases c8 : x16_4 = true
        · subst c8
          have H1 : (some true) = some r := by rw [if_pos rfl] at H; exact H
          clear H
          have H := H1
          clear H1
          obtain rfl := Option.some.inj H
          go_wp2
          go_ret
          exact ⟨by first | rfl | (simp [errW_none, errW_some] <;> rfl) | (simp [*, errW_none, errW_some] <;> rfl), by repeat (first | (with_reducible first | exact HB.out | apply below_alloc | apply pw_below_drewN | apply below_drew1) | exact HB.out)⟩
        · replace c8 := Bool.eq_false_iff.mpr c8
          subst c8
          have H1 : ((stuff_Stuff.f a0).bind fun t112 => (if a0.size + a1.size ≤ 9223372036854775807 then ((stuff_Stuff.f (a0 ++ a1)).bind fun t113 => (if (t112.size : Int) ≤ (t113.size : Int) then (if 0 ≤ (t112.size : Int) then (if (t113.extract 0 ((t112.size : Int) : Int).toNat).toList = t112.toList then ((stuff_Most.f (wrap64 ((a0.size : Int) + (a1.size : Int)))).bind fun t114 => (some (decide ((t113.size : Int) ≤ t114)))) else (some false)) else (none)) else (some false))) else (none))) = some r := by rw [if_neg (show ¬ (false = true) by decide)] at H; exact H
          clear H
          have H := H1
          clear H1
          replace H := Option.bind_eq_some_iff.mp H
          obtain ⟨t112, A90, H⟩ := H
          replace H : (if a0.size + a1.size ≤ 9223372036854775807 then ((stuff_Stuff.f (a0 ++ a1)).bind fun t113 => (if (t112.size : Int) ≤ (t113.size : Int) then (if 0 ≤ (t112.size : Int) then (if (t113.extract 0 ((t112.size : Int) : Int).toNat).toList = t112.toList then ((stuff_Most.f (wrap64 ((a0.size : Int) + (a1.size : Int)))).bind fun t114 => (some (decide ((t113.size : Int) ≤ t114)))) else (some false)) else (none)) else (some false))) else (none)) = some r := H
          have A9 := Aside0.mk A90
          clear A90
          by_cases c10 : a0.size + a1.size ≤ 9223372036854775807
          · rw [if_pos c10] at H
            have c10b0 := eq_true c10
            have c10b1 : decide (a0.size + a1.size ≤ 9223372036854775807) = true := decide_eq_true c10
            try have c10b2 : (9223372036854775807 < a0.size + a1.size) = False := eq_false (Nat.not_lt.2 c10)
            replace H := Option.bind_eq_some_iff.mp H
            obtain ⟨t113, A110, H⟩ := H
            replace H : (if (t112.size : Int) ≤ (t113.size : Int) then (if 0 ≤ (t112.size : Int) then (if (t113.extract 0 ((t112.size : Int) : Int).toNat).toList = t112.toList then ((stuff_Most.f (wrap64 ((a0.size : Int) + (a1.size : Int)))).bind fun t114 => (some (decide ((t113.size : Int) ≤ t114)))) else (some false)) else (none)) else (some false)) = some r := H
            have A11 := Aside0.mk A110
            clear A110
            by_cases c12 : (t112.size : Int) ≤ (t113.size : Int)
            · rw [if_pos c12] at H
              have c12b0 : decide ((t112.size : Int) ≤ (t113.size : Int)) = true := decide_eq_true c12
              have c12b1 : decide (t112.size ≤ t113.size) = true := decide_eq_true (Int.ofNat_le.mp c12)
              clear c12
              by_cases c13 : 0 ≤ (t112.size : Int)
              · rw [if_pos c13] at H
                have c13b0 := eq_true c13
                have c13b1 : decide (0 ≤ (t112.size : Int)) = true := decide_eq_true c13
                clear c13
                have c14b0 := eq_true (of_decide_eq_true (by first | (with_reducible assumption) | assumption) : (t112.size : Int) ≤ (t113.size : Int))
                by_cases c15 : (t113.extract 0 ((t112.size : Int) : Int).toNat).toList = t112.toList
                · rw [if_pos c15] at H
                  have c15b0 : ((t113.extract 0 ((t112.size : Int) : Int).toNat).toList == t112.toList) = true := beq_iff_eq.mpr c15
                  have c15b1 : ((t113.extract 0 ((t112.size : Int) : Int).toNat).toList != t112.toList) = false := bne_eq_false_iff_eq.mpr c15
                  have c15b2 : ((t113.extract 0 t112.size).toList == t112.toList) = true := by rw [← c15b0, Int.toNat_natCast]
                  clear c15
                  replace H := Option.bind_eq_some_iff.mp H
                  obtain ⟨t114, A160, H⟩ := H
                  replace H : (some (decide ((t113.size : Int) ≤ t114))) = some r := H
                  have A16 := Aside0.mk A160
                  clear A160
                  obtain rfl := Option.some.inj H
                  go_wp2_with (first | ((with_reducible refine gate_callee (f := 11) rfl ?_); refine goesL_ (some 18) rfl rfl Try.func11 (by kernel_rfl) rfl #[.string a0] rfl (by (try simp only [List.map_toArray, List.map_cons, List.map_nil]); first | done | rfl | (simp only [List.length_drop, List.length_take]; rfl)) ?_; (with_reducible refine (stuff_Stuff.calls a0 t112 _ A9.out).mono ?_); rintro e w17 ⟨rfl, hb⟩; refine ⟨_, rfl, ?_⟩; have n0_ := Aside0.mk (below_step (by repeat (first | (with_reducible first | exact HB.out | apply below_alloc | apply pw_below_drewN | apply below_drew1) | exact HB.out)) hb); clear HB; have HB := n0_; clear n0_; (try clear hb); (try clear hb2); (try clear hk); (try clear hi)) | ((with_reducible refine gate_callee (f := 11) rfl ?_); refine goesL_ (some 22) rfl rfl Try.func11 (by kernel_rfl) rfl #[.string (a0 ++ a1)] rfl (by (try simp only [List.map_toArray, List.map_cons, List.map_nil]); first | done | rfl | (simp only [List.length_drop, List.length_take]; rfl)) ?_; (with_reducible refine (stuff_Stuff.calls (a0 ++ a1) t113 _ A11.out).mono ?_); rintro e w18 ⟨rfl, hb⟩; refine ⟨_, rfl, ?_⟩; have n0_ := Aside0.mk (below_step (by repeat (first | (with_reducible first | exact HB.out | apply below_alloc | apply pw_below_drewN | apply below_drew1) | exact HB.out)) hb); clear HB; have HB := n0_; clear n0_; (try clear hb); (try clear hb2); (try clear hk); (try clear hi)) | (go_at_call 13; (with_reducible refine (stuff_Most.calls ((a0.size : Int) + (a1.size : Int)) t114 _ (by have h := A16.out; rw [show wrap64 ((a0.size : Int) + (a1.size : Int)) = (a0.size : Int) + (a1.size : Int) from by unfold wrap64; omega] at h; exact h)).mono ?_); rintro e w' ⟨rfl, ⟨nd, rfl⟩⟩))
                  go_ret
                  exact ⟨by first | rfl | (simp [errW_none, errW_some] <;> rfl) | (simp [*, errW_none, errW_some] <;> rfl), by repeat (first | (with_reducible first | exact HB.out | apply below_alloc | apply pw_below_drewN | apply below_drew1) | exact HB.out)⟩
                · rw [if_neg c15] at H
                  have c15b0 : ((t113.extract 0 ((t112.size : Int) : Int).toNat).toList == t112.toList) = false := beq_eq_false_iff_ne.mpr c15
                  have c15b1 : ((t113.extract 0 ((t112.size : Int) : Int).toNat).toList != t112.toList) = true := bne_iff_ne.mpr c15
                  have c15b2 : ((t113.extract 0 t112.size).toList == t112.toList) = false := by rw [← c15b0, Int.toNat_natCast]
                  obtain rfl := Option.some.inj H
                  go_wp2_with (first | ((with_reducible refine gate_callee (f := 11) rfl ?_); refine goesL_ (some 18) rfl rfl Try.func11 (by kernel_rfl) rfl #[.string a0] rfl (by (try simp only [List.map_toArray, List.map_cons, List.map_nil]); first | done | rfl | (simp only [List.length_drop, List.length_take]; rfl)) ?_; (with_reducible refine (stuff_Stuff.calls a0 t112 _ A9.out).mono ?_); rintro e w19 ⟨rfl, hb⟩; refine ⟨_, rfl, ?_⟩; have n0_ := Aside0.mk (below_step (by repeat (first | (with_reducible first | exact HB.out | apply below_alloc | apply pw_below_drewN | apply below_drew1) | exact HB.out)) hb); clear HB; have HB := n0_; clear n0_; (try clear hb); (try clear hb2); (try clear hk); (try clear hi)) | ((with_reducible refine gate_callee (f := 11) rfl ?_); refine goesL_ (some 22) rfl rfl Try.func11 (by kernel_rfl) rfl #[.string (a0 ++ a1)] rfl (by (try simp only [List.map_toArray, List.map_cons, List.map_nil]); first | done | rfl | (simp only [List.length_drop, List.length_take]; rfl)) ?_; (with_reducible refine (stuff_Stuff.calls (a0 ++ a1) t113 _ A11.out).mono ?_); rintro e w20 ⟨rfl, hb⟩; refine ⟨_, rfl, ?_⟩; have n0_ := Aside0.mk (below_step (by repeat (first | (with_reducible first | exact HB.out | apply below_alloc | apply pw_below_drewN | apply below_drew1) | exact HB.out)) hb); clear HB; have HB := n0_; clear n0_; (try clear hb); (try clear hb2); (try clear hk); (try clear hi)))
                  go_ret
                  exact ⟨by first | rfl | (simp [errW_none, errW_some] <;> rfl) | (simp [*, errW_none, errW_some] <;> rfl), by repeat (first | (with_reducible first | exact HB.out | apply below_alloc | apply pw_below_drewN | apply below_drew1) | exact HB.out)⟩
              · rw [if_neg c13] at H
                exact absurd H (by simp)
            · rw [if_neg c12] at H
              have c12b0 : decide ((t112.size : Int) ≤ (t113.size : Int)) = false := decide_eq_false c12
              have c12b1 : decide (t112.size ≤ t113.size) = false := decide_eq_false (fun h => c12 (Int.ofNat_le.mpr h))
              clear c12
              obtain rfl := Option.some.inj H
              go_wp2_with (first | ((with_reducible refine gate_callee (f := 11) rfl ?_); refine goesL_ (some 18) rfl rfl Try.func11 (by kernel_rfl) rfl #[.string a0] rfl (by (try simp only [List.map_toArray, List.map_cons, List.map_nil]); first | done | rfl | (simp only [List.length_drop, List.length_take]; rfl)) ?_; (with_reducible refine (stuff_Stuff.calls a0 t112 _ A9.out).mono ?_); rintro e w21 ⟨rfl, hb⟩; refine ⟨_, rfl, ?_⟩; have n0_ := Aside0.mk (below_step (by repeat (first | (with_reducible first | exact HB.out | apply below_alloc | apply pw_below_drewN | apply below_drew1) | exact HB.out)) hb); clear HB; have HB := n0_; clear n0_; (try clear hb); (try clear hb2); (try clear hk); (try clear hi)) | ((with_reducible refine gate_callee (f := 11) rfl ?_); refine goesL_ (some 22) rfl rfl Try.func11 (by kernel_rfl) rfl #[.string (a0 ++ a1)] rfl (by (try simp only [List.map_toArray, List.map_cons, List.map_nil]); first | done | rfl | (simp only [List.length_drop, List.length_take]; rfl)) ?_; (with_reducible refine (stuff_Stuff.calls (a0 ++ a1) t113 _ A11.out).mono ?_); rintro e w22 ⟨rfl, hb⟩; refine ⟨_, rfl, ?_⟩; have n0_ := Aside0.mk (below_step (by repeat (first | (with_reducible first | exact HB.out | apply below_alloc | apply pw_below_drewN | apply below_drew1) | exact HB.out)) hb); clear HB; have HB := n0_; clear n0_; (try clear hb); (try clear hb2); (try clear hk); (try clear hi)))
              go_ret
              exact ⟨by first | rfl | (simp [errW_none, errW_some] <;> rfl) | (simp [*, errW_none, errW_some] <;> rfl), by repeat (first | (with_reducible first | exact HB.out | apply below_alloc | apply pw_below_drewN | apply below_drew1) | exact HB.out)⟩
          · rw [if_neg c10] at H
            exact absurd H (by simp)
  · replace c4 := Bool.eq_false_iff.mpr c4
    subst c4
    have H1 : (some false) = some r := by rw [if_neg (show ¬ (false = true) by decide)] at H; exact H
    clear H
    have H := H1
    clear H1
    obtain rfl := Option.some.inj H
    go_enter Try.func6, Try.ntmps6
    go_wp2_with (first | ((with_reducible refine gate_callee (f := 9) rfl ?_); refine goesL_ (some 7) rfl rfl Try.func9 (by kernel_rfl) rfl #[] rfl (by (try simp only [List.map_toArray, List.map_cons, List.map_nil]); first | done | rfl | (simp only [List.length_drop, List.length_take]; rfl)) ?_; (with_reducible refine (ostinatolaw2_known.calls  false _ A3.out).mono ?_); rintro e w23 ⟨rfl, hb⟩; refine ⟨_, rfl, ?_⟩; have n0_ := Aside0.mk (below_step (by repeat (first | (with_reducible first | exact HB.out | apply below_alloc | apply pw_below_drewN | apply below_drew1) | exact HB.out)) hb); clear HB; have HB := n0_; clear n0_; (try clear hb); (try clear hb2); (try clear hk); (try clear hi)))
    go_ret
    exact ⟨by first | rfl | (simp [errW_none, errW_some] <;> rfl) | (simp [*, errW_none, errW_some] <;> rfl), by repeat (first | (with_reducible first | exact HB.out | apply below_alloc | apply pw_below_drewN | apply below_drew1) | exact HB.out)⟩

/-- THE ONE PURE STATEMENT of ostinatolaw2_StuffJoin: yours. -/
def ostinatolaw2_StuffJoin.Pure : Prop := ∀ (a0 : ByteArray) (a1 : ByteArray), a0.size ≤ 140737488351232 → a1.size ≤ 140737488351232 → ∃ k, ostinatolaw2_StuffJoin.f k a0 a1 = some true
theorem ostinatolaw2_StuffJoin.walk (P : ostinatolaw2_StuffJoin.Pure) (a0 : ByteArray) (a1 : ByteArray) (w : World) (w0 : a0.size ≤ 140737488351232) (w1 : a1.size ≤ 140737488351232) :
    Calls Try.prog 6 #[.string a0, .string a1] w fun e w' => e = .returned (.bool true) ∧ Below w.heap.size w w' := by
  obtain ⟨k, h⟩ := P a0 a1 w0 w1
  refine (ostinatolaw2_StuffJoin.calls k a0 a1 true w h).mono ?_
  rintro e w' ⟨rfl, hd⟩
  exact ⟨rfl, hd⟩

end Go.Proofs.Ytkclgfjfmlogmaa.QStuffJoin
