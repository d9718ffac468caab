-- Written by a program out of the translation, over contracts proved by hand.
import Derived.Test.YtpmbapefchffjaaQBitsSumsx0
namespace Go.Proofs.Ytpmbapefchffjaa.QBitsSums
open Go.RowKit Go.Proofs.Ytpmbapefchffjaa.Plug Go.Proofs.YtpmbapefchffjaaW.PrintWords Go.Proofs.YtpmbapefchffjaaW.PrintLast Go.Proofs.YtpmbapefchffjaaW.PrintMore
attribute [local go_sem] max2_int min2_int max_two min_two max_three min_three max_four min_four   -- for this text's walks alone
set_option linter.unusedVariables false
set_option linter.unusedSimpArgs false

/-! ### ostinatolaw1_known: function 11 -/
def ostinatolaw1_known.f  : Option (Bool) := (bits_CRC.f (⟨#[49]⟩ : ByteArray)).bind fun t101 => (if t101 = 17817 then ((bits_Of.f 5 4).bind fun t102 => (if t102.toList = ([48, 49, 48, 49] : List UInt8) then ((bits_Num.f (⟨#[48, 49, 48, 49]⟩ : ByteArray)).bind fun t103 => (if t103 = 5 then ((bits_And.f (⟨#[49, 49, 48]⟩ : ByteArray) (⟨#[49, 48]⟩ : ByteArray)).bind fun t104 => (if t104.toList = ([49, 48] : List UInt8) then ((bits_Turn.f (⟨#[48, 48]⟩ : ByteArray) 1).bind fun t105 => (if t105.toList = ([48, 49] : List UInt8) then ((bits_FromBytes.f (⟨#[15]⟩ : ByteArray)).bind fun t106 => (if t106.toList = ([48, 48, 48, 48, 49, 49, 49, 49] : List UInt8) then ((bits_Bytes.f (⟨#[48, 48, 48, 48, 49, 49, 49, 49, 49]⟩ : ByteArray)).bind fun t107 => (if t107.toList = ([15] : List UInt8) then ((bits_Is.f (⟨#[48, 49]⟩ : ByteArray)).bind fun t108 => (if t108 = true then ((bits_Is.f (⟨#[50]⟩ : ByteArray)).bind fun t109 => (some (!t109))) else (some false))) else (some false))) else (some false))) else (some false))) else (some false))) else (some false))) else (some false))) else (some false))
set_option maxHeartbeats 8000000 in
set_option maxRecDepth 100000 in
theorem ostinatolaw1_known.calls  (r : Bool) (w : World) (h : ostinatolaw1_known.f  = some r) :
    Calls Try.prog 11 #[] w fun e w' => e = .returned (.bool r) ∧ Below w.heap.size w w' := by
  have HB := Aside0.mk (Below.refl w.heap.size w)
  have H : ((bits_CRC.f (⟨#[49]⟩ : ByteArray)).bind fun t101 => (if t101 = 17817 then ((bits_Of.f 5 4).bind fun t102 => (if t102.toList = ([48, 49, 48, 49] : List UInt8) then ((bits_Num.f (⟨#[48, 49, 48, 49]⟩ : ByteArray)).bind fun t103 => (if t103 = 5 then ((bits_And.f (⟨#[49, 49, 48]⟩ : ByteArray) (⟨#[49, 48]⟩ : ByteArray)).bind fun t104 => (if t104.toList = ([49, 48] : List UInt8) then ((bits_Turn.f (⟨#[48, 48]⟩ : ByteArray) 1).bind fun t105 => (if t105.toList = ([48, 49] : List UInt8) then ((bits_FromBytes.f (⟨#[15]⟩ : ByteArray)).bind fun t106 => (if t106.toList = ([48, 48, 48, 48, 49, 49, 49, 49] : List UInt8) then ((bits_Bytes.f (⟨#[48, 48, 48, 48, 49, 49, 49, 49, 49]⟩ : ByteArray)).bind fun t107 => (if t107.toList = ([15] : List UInt8) then ((bits_Is.f (⟨#[48, 49]⟩ : ByteArray)).bind fun t108 => (if t108 = true then ((bits_Is.f (⟨#[50]⟩ : ByteArray)).bind fun t109 => (some (!t109))) else (some false))) else (some false))) else (some false))) else (some false))) else (some false))) else (some false))) else (some false))) else (some false))) = some r := h
  clear h
  replace H := Option.bind_eq_some_iff.mp H
  obtain ⟨t101, A10, H⟩ := H
  replace H : (if t101 = 17817 then ((bits_Of.f 5 4).bind fun t102 => (if t102.toList = ([48, 49, 48, 49] : List UInt8) then ((bits_Num.f (⟨#[48, 49, 48, 49]⟩ : ByteArray)).bind fun t103 => (if t103 = 5 then ((bits_And.f (⟨#[49, 49, 48]⟩ : ByteArray) (⟨#[49, 48]⟩ : ByteArray)).bind fun t104 => (if t104.toList = ([49, 48] : List UInt8) then ((bits_Turn.f (⟨#[48, 48]⟩ : ByteArray) 1).bind fun t105 => (if t105.toList = ([48, 49] : List UInt8) then ((bits_FromBytes.f (⟨#[15]⟩ : ByteArray)).bind fun t106 => (if t106.toList = ([48, 48, 48, 48, 49, 49, 49, 49] : List UInt8) then ((bits_Bytes.f (⟨#[48, 48, 48, 48, 49, 49, 49, 49, 49]⟩ : ByteArray)).bind fun t107 => (if t107.toList = ([15] : List UInt8) then ((bits_Is.f (⟨#[48, 49]⟩ : ByteArray)).bind fun t108 => (if t108 = true then ((bits_Is.f (⟨#[50]⟩ : ByteArray)).bind fun t109 => (some (!t109))) else (some false))) else (some false))) else (some false))) else (some false))) else (some false))) else (some false))) else (some false))) else (some false)) = some r := H
  have A1 := Aside0.mk A10
  clear A10
  by_cases c2 : t101 = 17817
  · rw [if_pos c2] at H
    have c2b0 : (t101 == 17817) = true := beq_iff_eq.mpr c2
    have c2b1 : (t101 != 17817) = false := bne_eq_false_iff_eq.mpr c2
    clear c2
    replace H := Option.bind_eq_some_iff.mp H
    obtain ⟨t102, A30, H⟩ := H
    replace H : (if t102.toList = ([48, 49, 48, 49] : List UInt8) then ((bits_Num.f (⟨#[48, 49, 48, 49]⟩ : ByteArray)).bind fun t103 => (if t103 = 5 then ((bits_And.f (⟨#[49, 49, 48]⟩ : ByteArray) (⟨#[49, 48]⟩ : ByteArray)).bind fun t104 => (if t104.toList = ([49, 48] : List UInt8) then ((bits_Turn.f (⟨#[48, 48]⟩ : ByteArray) 1).bind fun t105 => (if t105.toList = ([48, 49] : List UInt8) then ((bits_FromBytes.f (⟨#[15]⟩ : ByteArray)).bind fun t106 => (if t106.toList = ([48, 48, 48, 48, 49, 49, 49, 49] : List UInt8) then ((bits_Bytes.f (⟨#[48, 48, 48, 48, 49, 49, 49, 49, 49]⟩ : ByteArray)).bind fun t107 => (if t107.toList = ([15] : List UInt8) then ((bits_Is.f (⟨#[48, 49]⟩ : ByteArray)).bind fun t108 => (if t108 = true then ((bits_Is.f (⟨#[50]⟩ : ByteArray)).bind fun t109 => (some (!t109))) else (some false))) else (some false))) else (some false))) else (some false))) else (some false))) else (some false))) else (some false)) = some r := H
    have A3 := Aside0.mk A30
    clear A30
    by_cases c4 : t102.toList = ([48, 49, 48, 49] : List UInt8)
    · rw [if_pos c4] at H
      have c4b0 : (t102.toList == ([48, 49, 48, 49] : List UInt8)) = true := beq_iff_eq.mpr c4
      have c4b1 : (t102.toList != ([48, 49, 48, 49] : List UInt8)) = false := bne_eq_false_iff_eq.mpr c4
      clear c4
      replace H := Option.bind_eq_some_iff.mp H
      obtain ⟨t103, A50, H⟩ := H
      replace H : (if t103 = 5 then ((bits_And.f (⟨#[49, 49, 48]⟩ : ByteArray) (⟨#[49, 48]⟩ : ByteArray)).bind fun t104 => (if t104.toList = ([49, 48] : List UInt8) then ((bits_Turn.f (⟨#[48, 48]⟩ : ByteArray) 1).bind fun t105 => (if t105.toList = ([48, 49] : List UInt8) then ((bits_FromBytes.f (⟨#[15]⟩ : ByteArray)).bind fun t106 => (if t106.toList = ([48, 48, 48, 48, 49, 49, 49, 49] : List UInt8) then ((bits_Bytes.f (⟨#[48, 48, 48, 48, 49, 49, 49, 49, 49]⟩ : ByteArray)).bind fun t107 => (if t107.toList = ([15] : List UInt8) then ((bits_Is.f (⟨#[48, 49]⟩ : ByteArray)).bind fun t108 => (if t108 = true then ((bits_Is.f (⟨#[50]⟩ : ByteArray)).bind fun t109 => (some (!t109))) else (some false))) else (some false))) else (some false))) else (some false))) else (some false))) else (some false)) = some r := H
      have A5 := Aside0.mk A50
      clear A50
      by_cases c6 : t103 = 5
      · rw [if_pos c6] at H
        have c6b0 : (t103 == 5) = true := beq_iff_eq.mpr c6
        have c6b1 : (t103 != 5) = false := bne_eq_false_iff_eq.mpr c6
        clear c6
        replace H := Option.bind_eq_some_iff.mp H
        obtain ⟨t104, A70, H⟩ := H
        replace H : (if t104.toList = ([49, 48] : List UInt8) then ((bits_Turn.f (⟨#[48, 48]⟩ : ByteArray) 1).bind fun t105 => (if t105.toList = ([48, 49] : List UInt8) then ((bits_FromBytes.f (⟨#[15]⟩ : ByteArray)).bind fun t106 => (if t106.toList = ([48, 48, 48, 48, 49, 49, 49, 49] : List UInt8) then ((bits_Bytes.f (⟨#[48, 48, 48, 48, 49, 49, 49, 49, 49]⟩ : ByteArray)).bind fun t107 => (if t107.toList = ([15] : List UInt8) then ((bits_Is.f (⟨#[48, 49]⟩ : ByteArray)).bind fun t108 => (if t108 = true then ((bits_Is.f (⟨#[50]⟩ : ByteArray)).bind fun t109 => (some (!t109))) else (some false))) else (some false))) else (some false))) else (some false))) else (some false)) = some r := H
        have A7 := Aside0.mk A70
        clear A70
        by_cases c8 : t104.toList = ([49, 48] : List UInt8)
        · rw [if_pos c8] at H
          have c8b0 : (t104.toList == ([49, 48] : List UInt8)) = true := beq_iff_eq.mpr c8
          have c8b1 : (t104.toList != ([49, 48] : List UInt8)) = false := bne_eq_false_iff_eq.mpr c8
          clear c8
          replace H := Option.bind_eq_some_iff.mp H
          obtain ⟨t105, A90, H⟩ := H
          replace H : (if t105.toList = ([48, 49] : List UInt8) then ((bits_FromBytes.f (⟨#[15]⟩ : ByteArray)).bind fun t106 => (if t106.toList = ([48, 48, 48, 48, 49, 49, 49, 49] : List UInt8) then ((bits_Bytes.f (⟨#[48, 48, 48, 48, 49, 49, 49, 49, 49]⟩ : ByteArray)).bind fun t107 => (if t107.toList = ([15] : List UInt8) then ((bits_Is.f (⟨#[48, 49]⟩ : ByteArray)).bind fun t108 => (if t108 = true then ((bits_Is.f (⟨#[50]⟩ : ByteArray)).bind fun t109 => (some (!t109))) else (some false))) else (some false))) else (some false))) else (some false)) = some r := H
          have A9 := Aside0.mk A90
          clear A90
          by_cases c10 : t105.toList = ([48, 49] : List UInt8)
          · rw [if_pos c10] at H
            have c10b0 : (t105.toList == ([48, 49] : List UInt8)) = true := beq_iff_eq.mpr c10
            have c10b1 : (t105.toList != ([48, 49] : List UInt8)) = false := bne_eq_false_iff_eq.mpr c10
            clear c10
            replace H := Option.bind_eq_some_iff.mp H
            obtain ⟨t106, A110, H⟩ := H
            replace H : (if t106.toList = ([48, 48, 48, 48, 49, 49, 49, 49] : List UInt8) then ((bits_Bytes.f (⟨#[48, 48, 48, 48, 49, 49, 49, 49, 49]⟩ : ByteArray)).bind fun t107 => (if t107.toList = ([15] : List UInt8) then ((bits_Is.f (⟨#[48, 49]⟩ : ByteArray)).bind fun t108 => (if t108 = true then ((bits_Is.f (⟨#[50]⟩ : ByteArray)).bind fun t109 => (some (!t109))) else (some false))) else (some false))) else (some false)) = some r := H
            have A11 := Aside0.mk A110
            clear A110
            by_cases c12 : t106.toList = ([48, 48, 48, 48, 49, 49, 49, 49] : List UInt8)
            · rw [if_pos c12] at H
              have c12b0 : (t106.toList == ([48, 48, 48, 48, 49, 49, 49, 49] : List UInt8)) = true := beq_iff_eq.mpr c12
              have c12b1 : (t106.toList != ([48, 48, 48, 48, 49, 49, 49, 49] : List UInt8)) = false := bne_eq_false_iff_eq.mpr c12
              clear c12
              replace H := Option.bind_eq_some_iff.mp H
              obtain ⟨t107, A130, H⟩ := H
              replace H : (if t107.toList = ([15] : List UInt8) then ((bits_Is.f (⟨#[48, 49]⟩ : ByteArray)).bind fun t108 => (if t108 = true then ((bits_Is.f (⟨#[50]⟩ : ByteArray)).bind fun t109 => (some (!t109))) else (some false))) else (some false)) = some r := H
              have A13 := Aside0.mk A130
              clear A130
              by_cases c14 : t107.toList = ([15] : List UInt8)
              · rw [if_pos c14] at H
                have c14b0 : (t107.toList == ([15] : List UInt8)) = true := beq_iff_eq.mpr c14
                have c14b1 : (t107.toList != ([15] : List UInt8)) = false := bne_eq_false_iff_eq.mpr c14
                clear c14
                replace H := Option.bind_eq_some_iff.mp H
                obtain ⟨t108, A150, H⟩ := H
                replace H : (if t108 = true then ((bits_Is.f (⟨#[50]⟩ : ByteArray)).bind fun t109 => (some (!t109))) else (some false)) = some r := H
                have A15 := Aside0.mk A150
                clear A150
                by_cases c16 : t108 = true
                · subst c16
                  have H1 : ((bits_Is.f (⟨#[50]⟩ : ByteArray)).bind fun t109 => (some (!t109))) = some r := by rw [if_pos rfl] at H; exact H
                  clear H
                  have H := H1
                  clear H1
                  replace H := Option.bind_eq_some_iff.mp H
                  obtain ⟨t109, A170, H⟩ := H
                  replace H : (some (!t109)) = some r := H
                  have A17 := Aside0.mk A170
                  clear A170
                  obtain rfl := Option.some.inj H
                  go_enter Try.func11, Try.ntmps11
                  go_wp2_with (first | ((with_reducible refine gate_callee (f := 26) rfl ?_); refine goesL_ (some 1) rfl rfl Try.func26 (by kernel_rfl) rfl #[.string (⟨#[49]⟩ : ByteArray)] rfl (by (try simp only [List.map_toArray, List.map_cons, List.map_nil]); first | done | rfl | (simp only [List.length_drop, List.length_take]; rfl)) ?_; (with_reducible refine (bits_CRC.calls (⟨#[49]⟩ : ByteArray) t101 _ A1.out).mono ?_); rintro e w' ⟨rfl, ⟨nd, rfl⟩⟩; refine ⟨_, rfl, ?_⟩) | (go_at_call 14; (with_reducible refine (bits_Of.calls 5 4 t102 _ A3.out).mono ?_); rintro e w18 ⟨rfl, hb⟩; have n0_ := Aside0.mk (below_step (by repeat (first | (with_reducible first | exact HB.out | apply below_alloc | apply pw_below_drewN | apply below_drew1) | exact HB.out)) hb); clear HB; have HB := n0_; clear n0_; (try clear hb); (try clear hb2); (try clear hk); (try clear hi)) | (go_at_call 16; (with_reducible refine (bits_Num.calls (⟨#[48, 49, 48, 49]⟩ : ByteArray) t103 _ A5.out).mono ?_); rintro e w' ⟨rfl, ⟨nd, rfl⟩⟩) | (go_at_call 18; (with_reducible refine (bits_And.calls (⟨#[49, 49, 48]⟩ : ByteArray) (⟨#[49, 48]⟩ : ByteArray) t104 _ A7.out).mono ?_); rintro e w19 ⟨rfl, hb⟩; have n0_ := Aside0.mk (below_step (by repeat (first | (with_reducible first | exact HB.out | apply below_alloc | apply pw_below_drewN | apply below_drew1) | exact HB.out)) hb); clear HB; have HB := n0_; clear n0_; (try clear hb); (try clear hb2); (try clear hk); (try clear hi)) | (go_at_call 20; (with_reducible refine (bits_Turn.calls (⟨#[48, 48]⟩ : ByteArray) 1 t105 _ A9.out).mono ?_); rintro e w20 ⟨rfl, hb⟩; have n0_ := Aside0.mk (below_step (by repeat (first | (with_reducible first | exact HB.out | apply below_alloc | apply pw_below_drewN | apply below_drew1) | exact HB.out)) hb); clear HB; have HB := n0_; clear n0_; (try clear hb); (try clear hb2); (try clear hk); (try clear hi)) | (go_at_call 22; (with_reducible refine (bits_FromBytes.calls (⟨#[15]⟩ : ByteArray) t106 _ A11.out).mono ?_); rintro e w21 ⟨rfl, hb⟩; have n0_ := Aside0.mk (below_step (by repeat (first | (with_reducible first | exact HB.out | apply below_alloc | apply pw_below_drewN | apply below_drew1) | exact HB.out)) hb); clear HB; have HB := n0_; clear n0_; (try clear hb); (try clear hb2); (try clear hk); (try clear hi)) | (go_at_call 24; (with_reducible refine (bits_Bytes.calls (⟨#[48, 48, 48, 48, 49, 49, 49, 49, 49]⟩ : ByteArray) t107 _ A13.out).mono ?_); rintro e w22 ⟨rfl, hb⟩; have n0_ := Aside0.mk (below_step (by repeat (first | (with_reducible first | exact HB.out | apply below_alloc | apply pw_below_drewN | apply below_drew1) | exact HB.out)) hb); clear HB; have HB := n0_; clear n0_; (try clear hb); (try clear hb2); (try clear hk); (try clear hi)) | (go_at_call 12; (with_reducible refine (bits_Is.calls (⟨#[48, 49]⟩ : ByteArray) true _ A15.out).mono ?_); rintro e w' ⟨rfl, ⟨nd, rfl⟩⟩) | (go_at_call 12; (with_reducible refine (bits_Is.calls (⟨#[50]⟩ : ByteArray) t109 _ A17.out).mono ?_); rintro e w' ⟨rfl, ⟨nd, rfl⟩⟩))
                  go_ret
                  exact ⟨by first | rfl | (simp [errW_none, errW_some] <;> rfl) | (simp [*, errW_none, errW_some] <;> rfl), by repeat (first | (with_reducible first | exact HB.out | apply below_alloc | apply pw_below_drewN | apply below_drew1) | exact HB.out)⟩
                · replace c16 := Bool.eq_false_iff.mpr c16
                  subst c16
                  have H1 : (some false) = some r := by rw [if_neg (show ¬ (false = true) by decide)] at H; exact H
                  clear H
                  have H := H1
                  clear H1
                  obtain rfl := Option.some.inj H
                  go_enter Try.func11, Try.ntmps11
                  go_wp2_with (first | ((with_reducible refine gate_callee (f := 26) rfl ?_); refine goesL_ (some 1) rfl rfl Try.func26 (by kernel_rfl) rfl #[.string (⟨#[49]⟩ : ByteArray)] rfl (by (try simp only [List.map_toArray, List.map_cons, List.map_nil]); first | done | rfl | (simp only [List.length_drop, List.length_take]; rfl)) ?_; (with_reducible refine (bits_CRC.calls (⟨#[49]⟩ : ByteArray) t101 _ A1.out).mono ?_); rintro e w' ⟨rfl, ⟨nd, rfl⟩⟩; refine ⟨_, rfl, ?_⟩) | (go_at_call 14; (with_reducible refine (bits_Of.calls 5 4 t102 _ A3.out).mono ?_); rintro e w23 ⟨rfl, hb⟩; have n0_ := Aside0.mk (below_step (by repeat (first | (with_reducible first | exact HB.out | apply below_alloc | apply pw_below_drewN | apply below_drew1) | exact HB.out)) hb); clear HB; have HB := n0_; clear n0_; (try clear hb); (try clear hb2); (try clear hk); (try clear hi)) | (go_at_call 16; (with_reducible refine (bits_Num.calls (⟨#[48, 49, 48, 49]⟩ : ByteArray) t103 _ A5.out).mono ?_); rintro e w' ⟨rfl, ⟨nd, rfl⟩⟩) | (go_at_call 18; (with_reducible refine (bits_And.calls (⟨#[49, 49, 48]⟩ : ByteArray) (⟨#[49, 48]⟩ : ByteArray) t104 _ A7.out).mono ?_); rintro e w24 ⟨rfl, hb⟩; have n0_ := Aside0.mk (below_step (by repeat (first | (with_reducible first | exact HB.out | apply below_alloc | apply pw_below_drewN | apply below_drew1) | exact HB.out)) hb); clear HB; have HB := n0_; clear n0_; (try clear hb); (try clear hb2); (try clear hk); (try clear hi)) | (go_at_call 20; (with_reducible refine (bits_Turn.calls (⟨#[48, 48]⟩ : ByteArray) 1 t105 _ A9.out).mono ?_); rintro e w25 ⟨rfl, hb⟩; have n0_ := Aside0.mk (below_step (by repeat (first | (with_reducible first | exact HB.out | apply below_alloc | apply pw_below_drewN | apply below_drew1) | exact HB.out)) hb); clear HB; have HB := n0_; clear n0_; (try clear hb); (try clear hb2); (try clear hk); (try clear hi)) | (go_at_call 22; (with_reducible refine (bits_FromBytes.calls (⟨#[15]⟩ : ByteArray) t106 _ A11.out).mono ?_); rintro e w26 ⟨rfl, hb⟩; have n0_ := Aside0.mk (below_step (by repeat (first | (with_reducible first | exact HB.out | apply below_alloc | apply pw_below_drewN | apply below_drew1) | exact HB.out)) hb); clear HB; have HB := n0_; clear n0_; (try clear hb); (try clear hb2); (try clear hk); (try clear hi)) | (go_at_call 24; (with_reducible refine (bits_Bytes.calls (⟨#[48, 48, 48, 48, 49, 49, 49, 49, 49]⟩ : ByteArray) t107 _ A13.out).mono ?_); rintro e w27 ⟨rfl, hb⟩; have n0_ := Aside0.mk (below_step (by repeat (first | (with_reducible first | exact HB.out | apply below_alloc | apply pw_below_drewN | apply below_drew1) | exact HB.out)) hb); clear HB; have HB := n0_; clear n0_; (try clear hb); (try clear hb2); (try clear hk); (try clear hi)) | (go_at_call 12; (with_reducible refine (bits_Is.calls (⟨#[48, 49]⟩ : ByteArray) false _ A15.out).mono ?_); rintro e w' ⟨rfl, ⟨nd, rfl⟩⟩))
                  go_ret
                  exact ⟨by first | rfl | (simp [errW_none, errW_some] <;> rfl) | (simp [*, errW_none, errW_some] <;> rfl), by repeat (first | (with_reducible first | exact HB.out | apply below_alloc | apply pw_below_drewN | apply below_drew1) | exact HB.out)⟩
              · rw [if_neg c14] at H
                have c14b0 : (t107.toList == ([15] : List UInt8)) = false := beq_eq_false_iff_ne.mpr c14
                have c14b1 : (t107.toList != ([15] : List UInt8)) = true := bne_iff_ne.mpr c14
                obtain rfl := Option.some.inj H
                go_enter Try.func11, Try.ntmps11
                go_wp2_with (first | ((with_reducible refine gate_callee (f := 26) rfl ?_); refine goesL_ (some 1) rfl rfl Try.func26 (by kernel_rfl) rfl #[.string (⟨#[49]⟩ : ByteArray)] rfl (by (try simp only [List.map_toArray, List.map_cons, List.map_nil]); first | done | rfl | (simp only [List.length_drop, List.length_take]; rfl)) ?_; (with_reducible refine (bits_CRC.calls (⟨#[49]⟩ : ByteArray) t101 _ A1.out).mono ?_); rintro e w' ⟨rfl, ⟨nd, rfl⟩⟩; refine ⟨_, rfl, ?_⟩) | (go_at_call 14; (with_reducible refine (bits_Of.calls 5 4 t102 _ A3.out).mono ?_); rintro e w28 ⟨rfl, hb⟩; have n0_ := Aside0.mk (below_step (by repeat (first | (with_reducible first | exact HB.out | apply below_alloc | apply pw_below_drewN | apply below_drew1) | exact HB.out)) hb); clear HB; have HB := n0_; clear n0_; (try clear hb); (try clear hb2); (try clear hk); (try clear hi)) | (go_at_call 16; (with_reducible refine (bits_Num.calls (⟨#[48, 49, 48, 49]⟩ : ByteArray) t103 _ A5.out).mono ?_); rintro e w' ⟨rfl, ⟨nd, rfl⟩⟩) | (go_at_call 18; (with_reducible refine (bits_And.calls (⟨#[49, 49, 48]⟩ : ByteArray) (⟨#[49, 48]⟩ : ByteArray) t104 _ A7.out).mono ?_); rintro e w29 ⟨rfl, hb⟩; have n0_ := Aside0.mk (below_step (by repeat (first | (with_reducible first | exact HB.out | apply below_alloc | apply pw_below_drewN | apply below_drew1) | exact HB.out)) hb); clear HB; have HB := n0_; clear n0_; (try clear hb); (try clear hb2); (try clear hk); (try clear hi)) | (go_at_call 20; (with_reducible refine (bits_Turn.calls (⟨#[48, 48]⟩ : ByteArray) 1 t105 _ A9.out).mono ?_); rintro e w30 ⟨rfl, hb⟩; have n0_ := Aside0.mk (below_step (by repeat (first | (with_reducible first | exact HB.out | apply below_alloc | apply pw_below_drewN | apply below_drew1) | exact HB.out)) hb); clear HB; have HB := n0_; clear n0_; (try clear hb); (try clear hb2); (try clear hk); (try clear hi)) | (go_at_call 22; (with_reducible refine (bits_FromBytes.calls (⟨#[15]⟩ : ByteArray) t106 _ A11.out).mono ?_); rintro e w31 ⟨rfl, hb⟩; have n0_ := Aside0.mk (below_step (by repeat (first | (with_reducible first | exact HB.out | apply below_alloc | apply pw_below_drewN | apply below_drew1) | exact HB.out)) hb); clear HB; have HB := n0_; clear n0_; (try clear hb); (try clear hb2); (try clear hk); (try clear hi)) | (go_at_call 24; (with_reducible refine (bits_Bytes.calls (⟨#[48, 48, 48, 48, 49, 49, 49, 49, 49]⟩ : ByteArray) t107 _ A13.out).mono ?_); rintro e w32 ⟨rfl, hb⟩; have n0_ := Aside0.mk (below_step (by repeat (first | (with_reducible first | exact HB.out | apply below_alloc | apply pw_below_drewN | apply below_drew1) | exact HB.out)) hb); clear HB; have HB := n0_; clear n0_; (try clear hb); (try clear hb2); (try clear hk); (try clear hi)))
                go_ret
                exact ⟨by first | rfl | (simp [errW_none, errW_some] <;> rfl) | (simp [*, errW_none, errW_some] <;> rfl), by repeat (first | (with_reducible first | exact HB.out | apply below_alloc | apply pw_below_drewN | apply below_drew1) | exact HB.out)⟩
            · rw [if_neg c12] at H
              have c12b0 : (t106.toList == ([48, 48, 48, 48, 49, 49, 49, 49] : List UInt8)) = false := beq_eq_false_iff_ne.mpr c12
              have c12b1 : (t106.toList != ([48, 48, 48, 48, 49, 49, 49, 49] : List UInt8)) = true := bne_iff_ne.mpr c12
              obtain rfl := Option.some.inj H
              go_enter Try.func11, Try.ntmps11
              go_wp2_with (first | ((with_reducible refine gate_callee (f := 26) rfl ?_); refine goesL_ (some 1) rfl rfl Try.func26 (by kernel_rfl) rfl #[.string (⟨#[49]⟩ : ByteArray)] rfl (by (try simp only [List.map_toArray, List.map_cons, List.map_nil]); first | done | rfl | (simp only [List.length_drop, List.length_take]; rfl)) ?_; (with_reducible refine (bits_CRC.calls (⟨#[49]⟩ : ByteArray) t101 _ A1.out).mono ?_); rintro e w' ⟨rfl, ⟨nd, rfl⟩⟩; refine ⟨_, rfl, ?_⟩) | (go_at_call 14; (with_reducible refine (bits_Of.calls 5 4 t102 _ A3.out).mono ?_); rintro e w33 ⟨rfl, hb⟩; have n0_ := Aside0.mk (below_step (by repeat (first | (with_reducible first | exact HB.out | apply below_alloc | apply pw_below_drewN | apply below_drew1) | exact HB.out)) hb); clear HB; have HB := n0_; clear n0_; (try clear hb); (try clear hb2); (try clear hk); (try clear hi)) | (go_at_call 16; (with_reducible refine (bits_Num.calls (⟨#[48, 49, 48, 49]⟩ : ByteArray) t103 _ A5.out).mono ?_); rintro e w' ⟨rfl, ⟨nd, rfl⟩⟩) | (go_at_call 18; (with_reducible refine (bits_And.calls (⟨#[49, 49, 48]⟩ : ByteArray) (⟨#[49, 48]⟩ : ByteArray) t104 _ A7.out).mono ?_); rintro e w34 ⟨rfl, hb⟩; have n0_ := Aside0.mk (below_step (by repeat (first | (with_reducible first | exact HB.out | apply below_alloc | apply pw_below_drewN | apply below_drew1) | exact HB.out)) hb); clear HB; have HB := n0_; clear n0_; (try clear hb); (try clear hb2); (try clear hk); (try clear hi)) | (go_at_call 20; (with_reducible refine (bits_Turn.calls (⟨#[48, 48]⟩ : ByteArray) 1 t105 _ A9.out).mono ?_); rintro e w35 ⟨rfl, hb⟩; have n0_ := Aside0.mk (below_step (by repeat (first | (with_reducible first | exact HB.out | apply below_alloc | apply pw_below_drewN | apply below_drew1) | exact HB.out)) hb); clear HB; have HB := n0_; clear n0_; (try clear hb); (try clear hb2); (try clear hk); (try clear hi)) | (go_at_call 22; (with_reducible refine (bits_FromBytes.calls (⟨#[15]⟩ : ByteArray) t106 _ A11.out).mono ?_); rintro e w36 ⟨rfl, hb⟩; have n0_ := Aside0.mk (below_step (by repeat (first | (with_reducible first | exact HB.out | apply below_alloc | apply pw_below_drewN | apply below_drew1) | exact HB.out)) hb); clear HB; have HB := n0_; clear n0_; (try clear hb); (try clear hb2); (try clear hk); (try clear hi)))
              go_ret
              exact ⟨by first | rfl | (simp [errW_none, errW_some] <;> rfl) | (simp [*, errW_none, errW_some] <;> rfl), by repeat (first | (with_reducible first | exact HB.out | apply below_alloc | apply pw_below_drewN | apply below_drew1) | exact HB.out)⟩
          · rw [if_neg c10] at H
            have c10b0 : (t105.toList == ([48, 49] : List UInt8)) = false := beq_eq_false_iff_ne.mpr c10
            have c10b1 : (t105.toList != ([48, 49] : List UInt8)) = true := bne_iff_ne.mpr c10
            obtain rfl := Option.some.inj H
            go_enter Try.func11, Try.ntmps11
            go_wp2_with (first | ((with_reducible refine gate_callee (f := 26) rfl ?_); refine goesL_ (some 1) rfl rfl Try.func26 (by kernel_rfl) rfl #[.string (⟨#[49]⟩ : ByteArray)] rfl (by (try simp only [List.map_toArray, List.map_cons, List.map_nil]); first | done | rfl | (simp only [List.length_drop, List.length_take]; rfl)) ?_; (with_reducible refine (bits_CRC.calls (⟨#[49]⟩ : ByteArray) t101 _ A1.out).mono ?_); rintro e w' ⟨rfl, ⟨nd, rfl⟩⟩; refine ⟨_, rfl, ?_⟩) | (go_at_call 14; (with_reducible refine (bits_Of.calls 5 4 t102 _ A3.out).mono ?_); rintro e w37 ⟨rfl, hb⟩; have n0_ := Aside0.mk (below_step (by repeat (first | (with_reducible first | exact HB.out | apply below_alloc | apply pw_below_drewN | apply below_drew1) | exact HB.out)) hb); clear HB; have HB := n0_; clear n0_; (try clear hb); (try clear hb2); (try clear hk); (try clear hi)) | (go_at_call 16; (with_reducible refine (bits_Num.calls (⟨#[48, 49, 48, 49]⟩ : ByteArray) t103 _ A5.out).mono ?_); rintro e w' ⟨rfl, ⟨nd, rfl⟩⟩) | (go_at_call 18; (with_reducible refine (bits_And.calls (⟨#[49, 49, 48]⟩ : ByteArray) (⟨#[49, 48]⟩ : ByteArray) t104 _ A7.out).mono ?_); rintro e w38 ⟨rfl, hb⟩; have n0_ := Aside0.mk (below_step (by repeat (first | (with_reducible first | exact HB.out | apply below_alloc | apply pw_below_drewN | apply below_drew1) | exact HB.out)) hb); clear HB; have HB := n0_; clear n0_; (try clear hb); (try clear hb2); (try clear hk); (try clear hi)) | (go_at_call 20; (with_reducible refine (bits_Turn.calls (⟨#[48, 48]⟩ : ByteArray) 1 t105 _ A9.out).mono ?_); rintro e w39 ⟨rfl, hb⟩; have n0_ := Aside0.mk (below_step (by repeat (first | (with_reducible first | exact HB.out | apply below_alloc | apply pw_below_drewN | apply below_drew1) | exact HB.out)) hb); clear HB; have HB := n0_; clear n0_; (try clear hb); (try clear hb2); (try clear hk); (try clear hi)))
            go_ret
            exact ⟨by first | rfl | (simp [errW_none, errW_some] <;> rfl) | (simp [*, errW_none, errW_some] <;> rfl), by repeat (first | (with_reducible first | exact HB.out | apply below_alloc | apply pw_below_drewN | apply below_drew1) | exact HB.out)⟩
        · rw [if_neg c8] at H
          have c8b0 : (t104.toList == ([49, 48] : List UInt8)) = false := beq_eq_false_iff_ne.mpr c8
          have c8b1 : (t104.toList != ([49, 48] : List UInt8)) = true := bne_iff_ne.mpr c8
          obtain rfl := Option.some.inj H
          go_enter Try.func11, Try.ntmps11
          go_wp2_with (first | ((with_reducible refine gate_callee (f := 26) rfl ?_); refine goesL_ (some 1) rfl rfl Try.func26 (by kernel_rfl) rfl #[.string (⟨#[49]⟩ : ByteArray)] rfl (by (try simp only [List.map_toArray, List.map_cons, List.map_nil]); first | done | rfl | (simp only [List.length_drop, List.length_take]; rfl)) ?_; (with_reducible refine (bits_CRC.calls (⟨#[49]⟩ : ByteArray) t101 _ A1.out).mono ?_); rintro e w' ⟨rfl, ⟨nd, rfl⟩⟩; refine ⟨_, rfl, ?_⟩) | (go_at_call 14; (with_reducible refine (bits_Of.calls 5 4 t102 _ A3.out).mono ?_); rintro e w40 ⟨rfl, hb⟩; have n0_ := Aside0.mk (below_step (by repeat (first | (with_reducible first | exact HB.out | apply below_alloc | apply pw_below_drewN | apply below_drew1) | exact HB.out)) hb); clear HB; have HB := n0_; clear n0_; (try clear hb); (try clear hb2); (try clear hk); (try clear hi)) | (go_at_call 16; (with_reducible refine (bits_Num.calls (⟨#[48, 49, 48, 49]⟩ : ByteArray) t103 _ A5.out).mono ?_); rintro e w' ⟨rfl, ⟨nd, rfl⟩⟩) | (go_at_call 18; (with_reducible refine (bits_And.calls (⟨#[49, 49, 48]⟩ : ByteArray) (⟨#[49, 48]⟩ : ByteArray) t104 _ A7.out).mono ?_); rintro e w41 ⟨rfl, hb⟩; have n0_ := Aside0.mk (below_step (by repeat (first | (with_reducible first | exact HB.out | apply below_alloc | apply pw_below_drewN | apply below_drew1) | exact HB.out)) hb); clear HB; have HB := n0_; clear n0_; (try clear hb); (try clear hb2); (try clear hk); (try clear hi)))
          go_ret
          exact ⟨by first | rfl | (simp [errW_none, errW_some] <;> rfl) | (simp [*, errW_none, errW_some] <;> rfl), by repeat (first | (with_reducible first | exact HB.out | apply below_alloc | apply pw_below_drewN | apply below_drew1) | exact HB.out)⟩
      · rw [if_neg c6] at H
        have c6b0 : (t103 == 5) = false := beq_eq_false_iff_ne.mpr c6
        have c6b1 : (t103 != 5) = true := bne_iff_ne.mpr c6
        obtain rfl := Option.some.inj H
        go_enter Try.func11, Try.ntmps11
        go_wp2_with (first | ((with_reducible refine gate_callee (f := 26) rfl ?_); refine goesL_ (some 1) rfl rfl Try.func26 (by kernel_rfl) rfl #[.string (⟨#[49]⟩ : ByteArray)] rfl (by (try simp only [List.map_toArray, List.map_cons, List.map_nil]); first | done | rfl | (simp only [List.length_drop, List.length_take]; rfl)) ?_; (with_reducible refine (bits_CRC.calls (⟨#[49]⟩ : ByteArray) t101 _ A1.out).mono ?_); rintro e w' ⟨rfl, ⟨nd, rfl⟩⟩; refine ⟨_, rfl, ?_⟩) | (go_at_call 14; (with_reducible refine (bits_Of.calls 5 4 t102 _ A3.out).mono ?_); rintro e w42 ⟨rfl, hb⟩; have n0_ := Aside0.mk (below_step (by repeat (first | (with_reducible first | exact HB.out | apply below_alloc | apply pw_below_drewN | apply below_drew1) | exact HB.out)) hb); clear HB; have HB := n0_; clear n0_; (try clear hb); (try clear hb2); (try clear hk); (try clear hi)) | (go_at_call 16; (with_reducible refine (bits_Num.calls (⟨#[48, 49, 48, 49]⟩ : ByteArray) t103 _ A5.out).mono ?_); rintro e w' ⟨rfl, ⟨nd, rfl⟩⟩))
        go_ret
        exact ⟨by first | rfl | (simp [errW_none, errW_some] <;> rfl) | (simp [*, errW_none, errW_some] <;> rfl), by repeat (first | (with_reducible first | exact HB.out | apply below_alloc | apply pw_below_drewN | apply below_drew1) | exact HB.out)⟩
    · rw [if_neg c4] at H
      have c4b0 : (t102.toList == ([48, 49, 48, 49] : List UInt8)) = false := beq_eq_false_iff_ne.mpr c4
      have c4b1 : (t102.toList != ([48, 49, 48, 49] : List UInt8)) = true := bne_iff_ne.mpr c4
      obtain rfl := Option.some.inj H
      go_enter Try.func11, Try.ntmps11
      go_wp2_with (first | ((with_reducible refine gate_callee (f := 26) rfl ?_); refine goesL_ (some 1) rfl rfl Try.func26 (by kernel_rfl) rfl #[.string (⟨#[49]⟩ : ByteArray)] rfl (by (try simp only [List.map_toArray, List.map_cons, List.map_nil]); first | done | rfl | (simp only [List.length_drop, List.length_take]; rfl)) ?_; (with_reducible refine (bits_CRC.calls (⟨#[49]⟩ : ByteArray) t101 _ A1.out).mono ?_); rintro e w' ⟨rfl, ⟨nd, rfl⟩⟩; refine ⟨_, rfl, ?_⟩) | (go_at_call 14; (with_reducible refine (bits_Of.calls 5 4 t102 _ A3.out).mono ?_); rintro e w43 ⟨rfl, hb⟩; have n0_ := Aside0.mk (below_step (by repeat (first | (with_reducible first | exact HB.out | apply below_alloc | apply pw_below_drewN | apply below_drew1) | exact HB.out)) hb); clear HB; have HB := n0_; clear n0_; (try clear hb); (try clear hb2); (try clear hk); (try clear hi)))
      go_ret
      exact ⟨by first | rfl | (simp [errW_none, errW_some] <;> rfl) | (simp [*, errW_none, errW_some] <;> rfl), by repeat (first | (with_reducible first | exact HB.out | apply below_alloc | apply pw_below_drewN | apply below_drew1) | exact HB.out)⟩
  · rw [if_neg c2] at H
    have c2b0 : (t101 == 17817) = false := beq_eq_false_iff_ne.mpr c2
    have c2b1 : (t101 != 17817) = true := bne_iff_ne.mpr c2
    obtain rfl := Option.some.inj H
    go_enter Try.func11, Try.ntmps11
    go_wp2_with (first | ((with_reducible refine gate_callee (f := 26) rfl ?_); refine goesL_ (some 1) rfl rfl Try.func26 (by kernel_rfl) rfl #[.string (⟨#[49]⟩ : ByteArray)] rfl (by (try simp only [List.map_toArray, List.map_cons, List.map_nil]); first | done | rfl | (simp only [List.length_drop, List.length_take]; rfl)) ?_; (with_reducible refine (bits_CRC.calls (⟨#[49]⟩ : ByteArray) t101 _ A1.out).mono ?_); rintro e w' ⟨rfl, ⟨nd, rfl⟩⟩; refine ⟨_, rfl, ?_⟩))
    go_ret
    exact ⟨by first | rfl | (simp [errW_none, errW_some] <;> rfl) | (simp [*, errW_none, errW_some] <;> rfl), by repeat (first | (with_reducible first | exact HB.out | apply below_alloc | apply pw_below_drewN | apply below_drew1) | exact HB.out)⟩

/-! ### ostinatolaw1_BitsSums: function 4 -/
def ostinatolaw1_BitsSums.f (a0 : ByteArray) : Option (Bool) := (ostinatolaw1_known.f).bind fun t110 => (if t110 = true then (if (a0.size : Int) > 400 then (some true) else ((bits_CRC.f a0).bind fun t111 => ((ostinatoref1_CRC.f a0).bind fun t112 => (some (t111 == t112))))) else (some false))
set_option maxHeartbeats 8000000 in
set_option maxRecDepth 100000 in
theorem ostinatolaw1_BitsSums.calls (a0 : ByteArray) (r : Bool) (w : World) (h : ostinatolaw1_BitsSums.f a0 = some r) :
    Calls Try.prog 4 #[.string a0] w fun e w' => e = .returned (.bool r) ∧ Below w.heap.size w w' := by
  have HB := Aside0.mk (Below.refl w.heap.size w)
  have H : ((ostinatolaw1_known.f).bind fun t110 => (if t110 = true then (if (a0.size : Int) > 400 then (some true) else ((bits_CRC.f a0).bind fun t111 => ((ostinatoref1_CRC.f a0).bind fun t112 => (some (t111 == t112))))) else (some false))) = some r := h
  clear h
  replace H := Option.bind_eq_some_iff.mp H
  obtain ⟨t110, A20, H⟩ := H
  replace H : (if t110 = true then (if (a0.size : Int) > 400 then (some true) else ((bits_CRC.f a0).bind fun t111 => ((ostinatoref1_CRC.f a0).bind fun t112 => (some (t111 == t112))))) else (some false)) = some r := H
  have A2 := Aside0.mk A20
  clear A20
  by_cases c3 : t110 = true
  · subst c3
    have H1 : (if (a0.size : Int) > 400 then (some true) else ((bits_CRC.f a0).bind fun t111 => ((ostinatoref1_CRC.f a0).bind fun t112 => (some (t111 == t112))))) = some r := by rw [if_pos rfl] at H; exact H
    clear H
    have H := H1
    clear H1
    by_cases c4 : (a0.size : Int) > 400
    · rw [if_pos c4] at H
      have c4b0 : decide (400 < (a0.size : Int)) = true := decide_eq_true c4
      have c4b1 : decide (400 < a0.size) = true := decide_eq_true (by omega)
      clear c4
      obtain rfl := Option.some.inj H
      go_enter Try.func4, Try.ntmps4
      go_wp2_with (first | ((with_reducible refine gate_callee (f := 11) rfl ?_); refine goesL_ (some 3) rfl rfl Try.func11 (by kernel_rfl) rfl #[] rfl (by (try simp only [List.map_toArray, List.map_cons, List.map_nil]); first | done | rfl | (simp only [List.length_drop, List.length_take]; rfl)) ?_; (with_reducible refine (ostinatolaw1_known.calls  true _ A2.out).mono ?_); rintro e w5 ⟨rfl, hb⟩; refine ⟨_, rfl, ?_⟩; have n0_ := Aside0.mk (below_step (by repeat (first | (with_reducible first | exact HB.out | apply below_alloc | apply pw_below_drewN | apply below_drew1) | exact HB.out)) hb); clear HB; have HB := n0_; clear n0_; (try clear hb); (try clear hb2); (try clear hk); (try clear hi)))
      go_ret
      exact ⟨by first | rfl | (simp [errW_none, errW_some] <;> rfl) | (simp [*, errW_none, errW_some] <;> rfl), by repeat (first | (with_reducible first | exact HB.out | apply below_alloc | apply pw_below_drewN | apply below_drew1) | exact HB.out)⟩
    · rw [if_neg c4] at H
      have c4b0 : decide (400 < (a0.size : Int)) = false := decide_eq_false c4
      have c4b1 : decide (400 < a0.size) = false := decide_eq_false (by omega)
      clear c4
      replace H := Option.bind_eq_some_iff.mp H
      obtain ⟨t111, A60, H⟩ := H
      replace H : ((ostinatoref1_CRC.f a0).bind fun t112 => (some (t111 == t112))) = some r := H
      have A6 := Aside0.mk A60
      clear A60
      replace H := Option.bind_eq_some_iff.mp H
      obtain ⟨t112, A70, H⟩ := H
      replace H : (some (t111 == t112)) = some r := H
      have A7 := Aside0.mk A70
      clear A70
      obtain rfl := Option.some.inj H
      go_enter Try.func4, Try.ntmps4
      go_wp2_with (first | ((with_reducible refine gate_callee (f := 11) rfl ?_); refine goesL_ (some 3) rfl rfl Try.func11 (by kernel_rfl) rfl #[] rfl (by (try simp only [List.map_toArray, List.map_cons, List.map_nil]); first | done | rfl | (simp only [List.length_drop, List.length_take]; rfl)) ?_; (with_reducible refine (ostinatolaw1_known.calls  true _ A2.out).mono ?_); rintro e w8 ⟨rfl, hb⟩; refine ⟨_, rfl, ?_⟩; have n0_ := Aside0.mk (below_step (by repeat (first | (with_reducible first | exact HB.out | apply below_alloc | apply pw_below_drewN | apply below_drew1) | exact HB.out)) hb); clear HB; have HB := n0_; clear n0_; (try clear hb); (try clear hb2); (try clear hk); (try clear hi)) | ((with_reducible refine gate_callee (f := 26) rfl ?_); refine goesL_ (some 9) rfl rfl Try.func26 (by kernel_rfl) rfl #[.string a0] rfl (by (try simp only [List.map_toArray, List.map_cons, List.map_nil]); first | done | rfl | (simp only [List.length_drop, List.length_take]; rfl)) ?_; (with_reducible refine (bits_CRC.calls a0 t111 _ A6.out).mono ?_); rintro e w' ⟨rfl, ⟨nd, rfl⟩⟩; refine ⟨_, rfl, ?_⟩) | ((with_reducible refine gate_callee (f := 27) rfl ?_); refine goesL_ (some 11) rfl rfl Try.func27 (by kernel_rfl) rfl #[.string a0] rfl (by (try simp only [List.map_toArray, List.map_cons, List.map_nil]); first | done | rfl | (simp only [List.length_drop, List.length_take]; rfl)) ?_; (with_reducible refine (ostinatoref1_CRC.calls a0 t112 _ A7.out).mono ?_); rintro e w' ⟨rfl, ⟨nd, rfl⟩⟩; refine ⟨_, rfl, ?_⟩))
      go_ret
      exact ⟨by first | rfl | (simp [errW_none, errW_some] <;> rfl) | (simp [*, errW_none, errW_some] <;> rfl), by repeat (first | (with_reducible first | exact HB.out | apply below_alloc | apply pw_below_drewN | apply below_drew1) | exact HB.out)⟩
  · replace c3 := Bool.eq_false_iff.mpr c3
    subst c3
    have H1 : (some false) = some r := by rw [if_neg (show ¬ (false = true) by decide)] at H; exact H
    clear H
    have H := H1
    clear H1
    obtain rfl := Option.some.inj H
    go_enter Try.func4, Try.ntmps4
    go_wp2_with (first | ((with_reducible refine gate_callee (f := 11) rfl ?_); refine goesL_ (some 3) rfl rfl Try.func11 (by kernel_rfl) rfl #[] rfl (by (try simp only [List.map_toArray, List.map_cons, List.map_nil]); first | done | rfl | (simp only [List.length_drop, List.length_take]; rfl)) ?_; (with_reducible refine (ostinatolaw1_known.calls  false _ A2.out).mono ?_); rintro e w9 ⟨rfl, hb⟩; refine ⟨_, rfl, ?_⟩; have n0_ := Aside0.mk (below_step (by repeat (first | (with_reducible first | exact HB.out | apply below_alloc | apply pw_below_drewN | apply below_drew1) | exact HB.out)) hb); clear HB; have HB := n0_; clear n0_; (try clear hb); (try clear hb2); (try clear hk); (try clear hi)))
    go_ret
    exact ⟨by first | rfl | (simp [errW_none, errW_some] <;> rfl) | (simp [*, errW_none, errW_some] <;> rfl), by repeat (first | (with_reducible first | exact HB.out | apply below_alloc | apply pw_below_drewN | apply below_drew1) | exact HB.out)⟩

/-- THE ONE PURE STATEMENT of ostinatolaw1_BitsSums: yours. -/
def ostinatolaw1_BitsSums.Pure : Prop := ∀ (a0 : ByteArray), a0.size ≤ 140737488351232 → ostinatolaw1_BitsSums.f a0 = some true
theorem ostinatolaw1_BitsSums.walk (P : ostinatolaw1_BitsSums.Pure) (a0 : ByteArray) (w : World) (w0 : a0.size ≤ 140737488351232) :
    Calls Try.prog 4 #[.string a0] w fun e w' => e = .returned (.bool true) ∧ Below w.heap.size w w' := by
  have h := P a0 w0
  refine (ostinatolaw1_BitsSums.calls a0 true w h).mono ?_
  rintro e w' ⟨rfl, hd⟩
  exact ⟨rfl, hd⟩

end Go.Proofs.Ytpmbapefchffjaa.QBitsSums
