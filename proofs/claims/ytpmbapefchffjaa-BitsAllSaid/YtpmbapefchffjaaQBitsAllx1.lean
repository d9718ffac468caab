-- Written by a program out of the translation, over contracts proved by hand.
import Derived.Test.YtpmbapefchffjaaQBitsAllx0
namespace Go.Proofs.Ytpmbapefchffjaa.QBitsAll
open Go.RowKit Go.Proofs.Ytpmbapefchffjaa.Plug Go.Proofs.YtpmbapefchffjaaW.PrintWords Go.Proofs.YtpmbapefchffjaaW.PrintLast Go.Proofs.YtpmbapefchffjaaW.PrintMore
attribute [local go_sem] max2_int min2_int max_two min_two max_three min_three max_four min_four   -- for this text's walks alone
set_option linter.unusedVariables false
set_option linter.unusedSimpArgs false

/-! ### ostinatolaw1_known: function 11 -/
def ostinatolaw1_known.f  : Option (Bool) := (bits_CRC.f (⟨#[49]⟩ : ByteArray)).bind fun t101 => (if t101 = 17817 then ((bits_Of.f 5 4).bind fun t102 => (if t102.toList = ([48, 49, 48, 49] : List UInt8) then ((bits_Num.f (⟨#[48, 49, 48, 49]⟩ : ByteArray)).bind fun t103 => (if t103 = 5 then ((bits_And.f (⟨#[49, 49, 48]⟩ : ByteArray) (⟨#[49, 48]⟩ : ByteArray)).bind fun t104 => (if t104.toList = ([49, 48] : List UInt8) then ((bits_Turn.f (⟨#[48, 48]⟩ : ByteArray) 1).bind fun t105 => (if t105.toList = ([48, 49] : List UInt8) then ((bits_FromBytes.f (⟨#[15]⟩ : ByteArray)).bind fun t106 => (if t106.toList = ([48, 48, 48, 48, 49, 49, 49, 49] : List UInt8) then ((bits_Bytes.f (⟨#[48, 48, 48, 48, 49, 49, 49, 49, 49]⟩ : ByteArray)).bind fun t107 => (if t107.toList = ([15] : List UInt8) then ((bits_Is.f (⟨#[48, 49]⟩ : ByteArray)).bind fun t108 => (if t108 = true then ((bits_Is.f (⟨#[50]⟩ : ByteArray)).bind fun t109 => (some (!t109))) else (some false))) else (some false))) else (some false))) else (some false))) else (some false))) else (some false))) else (some false))) else (some false))
set_option maxHeartbeats 8000000 in
set_option maxRecDepth 100000 in
theorem ostinatolaw1_known.calls  (r : Bool) (w : World) (h : ostinatolaw1_known.f  = some r) :
    Calls Try.prog 11 #[] w fun e w' => e = .returned (.bool r) ∧ Below w.heap.size w w' := by
  have HB := Aside0.mk (Below.refl w.heap.size w)
  have H : ((bits_CRC.f (⟨#[49]⟩ : ByteArray)).bind fun t101 => (if t101 = 17817 then ((bits_Of.f 5 4).bind fun t102 => (if t102.toList = ([48, 49, 48, 49] : List UInt8) then ((bits_Num.f (⟨#[48, 49, 48, 49]⟩ : ByteArray)).bind fun t103 => (if t103 = 5 then ((bits_And.f (⟨#[49, 49, 48]⟩ : ByteArray) (⟨#[49, 48]⟩ : ByteArray)).bind fun t104 => (if t104.toList = ([49, 48] : List UInt8) then ((bits_Turn.f (⟨#[48, 48]⟩ : ByteArray) 1).bind fun t105 => (if t105.toList = ([48, 49] : List UInt8) then ((bits_FromBytes.f (⟨#[15]⟩ : ByteArray)).bind fun t106 => (if t106.toList = ([48, 48, 48, 48, 49, 49, 49, 49] : List UInt8) then ((bits_Bytes.f (⟨#[48, 48, 48, 48, 49, 49, 49, 49, 49]⟩ : ByteArray)).bind fun t107 => (if t107.toList = ([15] : List UInt8) then ((bits_Is.f (⟨#[48, 49]⟩ : ByteArray)).bind fun t108 => (if t108 = true then ((bits_Is.f (⟨#[50]⟩ : ByteArray)).bind fun t109 => (some (!t109))) else (some false))) else (some false))) else (some false))) else (some false))) else (some false))) else (some false))) else (some false))) else (some false))) = some r := h
  clear h
  replace H := Option.bind_eq_some_iff.mp H
  obtain ⟨t101, A10, H⟩ := H
  replace H : (if t101 = 17817 then ((bits_Of.f 5 4).bind fun t102 => (if t102.toList = ([48, 49, 48, 49] : List UInt8) then ((bits_Num.f (⟨#[48, 49, 48, 49]⟩ : ByteArray)).bind fun t103 => (if t103 = 5 then ((bits_And.f (⟨#[49, 49, 48]⟩ : ByteArray) (⟨#[49, 48]⟩ : ByteArray)).bind fun t104 => (if t104.toList = ([49, 48] : List UInt8) then ((bits_Turn.f (⟨#[48, 48]⟩ : ByteArray) 1).bind fun t105 => (if t105.toList = ([48, 49] : List UInt8) then ((bits_FromBytes.f (⟨#[15]⟩ : ByteArray)).bind fun t106 => (if t106.toList = ([48, 48, 48, 48, 49, 49, 49, 49] : List UInt8) then ((bits_Bytes.f (⟨#[48, 48, 48, 48, 49, 49, 49, 49, 49]⟩ : ByteArray)).bind fun t107 => (if t107.toList = ([15] : List UInt8) then ((bits_Is.f (⟨#[48, 49]⟩ : ByteArray)).bind fun t108 => (if t108 = true then ((bits_Is.f (⟨#[50]⟩ : ByteArray)).bind fun t109 => (some (!t109))) else (some false))) else (some false))) else (some false))) else (some false))) else (some false))) else (some false))) else (some false))) else (some false)) = some r := H
  have A1 := Aside0.mk A10
  clear A10
  by_cases c2 : t101 = 17817
  · rw [if_pos c2] at H
    have c2b0 : (t101 == 17817) = true := beq_iff_eq.mpr c2
    have c2b1 : (t101 != 17817) = false := bne_eq_false_iff_eq.mpr c2
    clear c2
    replace H := Option.bind_eq_some_iff.mp H
    obtain ⟨t102, A30, H⟩ := H
    replace H : (if t102.toList = ([48, 49, 48, 49] : List UInt8) then ((bits_Num.f (⟨#[48, 49, 48, 49]⟩ : ByteArray)).bind fun t103 => (if t103 = 5 then ((bits_And.f (⟨#[49, 49, 48]⟩ : ByteArray) (⟨#[49, 48]⟩ : ByteArray)).bind fun t104 => (if t104.toList = ([49, 48] : List UInt8) then ((bits_Turn.f (⟨#[48, 48]⟩ : ByteArray) 1).bind fun t105 => (if t105.toList = ([48, 49] : List UInt8) then ((bits_FromBytes.f (⟨#[15]⟩ : ByteArray)).bind fun t106 => (if t106.toList = ([48, 48, 48, 48, 49, 49, 49, 49] : List UInt8) then ((bits_Bytes.f (⟨#[48, 48, 48, 48, 49, 49, 49, 49, 49]⟩ : ByteArray)).bind fun t107 => (if t107.toList = ([15] : List UInt8) then ((bits_Is.f (⟨#[48, 49]⟩ : ByteArray)).bind fun t108 => (if t108 = true then ((bits_Is.f (⟨#[50]⟩ : ByteArray)).bind fun t109 => (some (!t109))) else (some false))) else (some false))) else (some false))) else (some false))) else (some false))) else (some false))) else (some false)) = some r := H
    have A3 := Aside0.mk A30
    clear A30
    by_cases c4 : t102.toList = ([48, 49, 48, 49] : List UInt8)
    · rw [if_pos c4] at H
      have c4b0 : (t102.toList == ([48, 49, 48, 49] : List UInt8)) = true := beq_iff_eq.mpr c4
      have c4b1 : (t102.toList != ([48, 49, 48, 49] : List UInt8)) = false := bne_eq_false_iff_eq.mpr c4
      clear c4
      replace H := Option.bind_eq_some_iff.mp H
      obtain ⟨t103, A50, H⟩ := H
      replace H : (if t103 = 5 then ((bits_And.f (⟨#[49, 49, 48]⟩ : ByteArray) (⟨#[49, 48]⟩ : ByteArray)).bind fun t104 => (if t104.toList = ([49, 48] : List UInt8) then ((bits_Turn.f (⟨#[48, 48]⟩ : ByteArray) 1).bind fun t105 => (if t105.toList = ([48, 49] : List UInt8) then ((bits_FromBytes.f (⟨#[15]⟩ : ByteArray)).bind fun t106 => (if t106.toList = ([48, 48, 48, 48, 49, 49, 49, 49] : List UInt8) then ((bits_Bytes.f (⟨#[48, 48, 48, 48, 49, 49, 49, 49, 49]⟩ : ByteArray)).bind fun t107 => (if t107.toList = ([15] : List UInt8) then ((bits_Is.f (⟨#[48, 49]⟩ : ByteArray)).bind fun t108 => (if t108 = true then ((bits_Is.f (⟨#[50]⟩ : ByteArray)).bind fun t109 => (some (!t109))) else (some false))) else (some false))) else (some false))) else (some false))) else (some false))) else (some false)) = some r := H
      have A5 := Aside0.mk A50
      clear A50
      by_cases c6 : t103 = 5
      · rw [if_pos c6] at H
        have c6b0 : (t103 == 5) = true := beq_iff_eq.mpr c6
        have c6b1 : (t103 != 5) = false := bne_eq_false_iff_eq.mpr c6
        clear c6
        replace H := Option.bind_eq_some_iff.mp H
        obtain ⟨t104, A70, H⟩ := H
        replace H : (if t104.toList = ([49, 48] : List UInt8) then ((bits_Turn.f (⟨#[48, 48]⟩ : ByteArray) 1).bind fun t105 => (if t105.toList = ([48, 49] : List UInt8) then ((bits_FromBytes.f (⟨#[15]⟩ : ByteArray)).bind fun t106 => (if t106.toList = ([48, 48, 48, 48, 49, 49, 49, 49] : List UInt8) then ((bits_Bytes.f (⟨#[48, 48, 48, 48, 49, 49, 49, 49, 49]⟩ : ByteArray)).bind fun t107 => (if t107.toList = ([15] : List UInt8) then ((bits_Is.f (⟨#[48, 49]⟩ : ByteArray)).bind fun t108 => (if t108 = true then ((bits_Is.f (⟨#[50]⟩ : ByteArray)).bind fun t109 => (some (!t109))) else (some false))) else (some false))) else (some false))) else (some false))) else (some false)) = some r := H
        have A7 := Aside0.mk A70
        clear A70
        by_cases c8 : t104.toList = ([49, 48] : List UInt8)
        · rw [if_pos c8] at H
          have c8b0 : (t104.toList == ([49, 48] : List UInt8)) = true := beq_iff_eq.mpr c8
          have c8b1 : (t104.toList != ([49, 48] : List UInt8)) = false := bne_eq_false_iff_eq.mpr c8
          clear c8
          replace H := Option.bind_eq_some_iff.mp H
          obtain ⟨t105, A90, H⟩ := H
          replace H : (if t105.toList = ([48, 49] : List UInt8) then ((bits_FromBytes.f (⟨#[15]⟩ : ByteArray)).bind fun t106 => (if t106.toList = ([48, 48, 48, 48, 49, 49, 49, 49] : List UInt8) then ((bits_Bytes.f (⟨#[48, 48, 48, 48, 49, 49, 49, 49, 49]⟩ : ByteArray)).bind fun t107 => (if t107.toList = ([15] : List UInt8) then ((bits_Is.f (⟨#[48, 49]⟩ : ByteArray)).bind fun t108 => (if t108 = true then ((bits_Is.f (⟨#[50]⟩ : ByteArray)).bind fun t109 => (some (!t109))) else (some false))) else (some false))) else (some false))) else (some false)) = some r := H
          have A9 := Aside0.mk A90
          clear A90
          by_cases c10 : t105.toList = ([48, 49] : List UInt8)
          · rw [if_pos c10] at H
            have c10b0 : (t105.toList == ([48, 49] : List UInt8)) = true := beq_iff_eq.mpr c10
            have c10b1 : (t105.toList != ([48, 49] : List UInt8)) = false := bne_eq_false_iff_eq.mpr c10
            clear c10
            replace H := Option.bind_eq_some_iff.mp H
            obtain ⟨t106, A110, H⟩ := H
            replace H : (if t106.toList = ([48, 48, 48, 48, 49, 49, 49, 49] : List UInt8) then ((bits_Bytes.f (⟨#[48, 48, 48, 48, 49, 49, 49, 49, 49]⟩ : ByteArray)).bind fun t107 => (if t107.toList = ([15] : List UInt8) then ((bits_Is.f (⟨#[48, 49]⟩ : ByteArray)).bind fun t108 => (if t108 = true then ((bits_Is.f (⟨#[50]⟩ : ByteArray)).bind fun t109 => (some (!t109))) else (some false))) else (some false))) else (some false)) = some r := H
            have A11 := Aside0.mk A110
            clear A110
            by_cases c12 : t106.toList = ([48, 48, 48, 48, 49, 49, 49, 49] : List UInt8)
            · rw [if_pos c12] at H
              have c12b0 : (t106.toList == ([48, 48, 48, 48, 49, 49, 49, 49] : List UInt8)) = true := beq_iff_eq.mpr c12
              have c12b1 : (t106.toList != ([48, 48, 48, 48, 49, 49, 49, 49] : List UInt8)) = false := bne_eq_false_iff_eq.mpr c12
              clear c12
              replace H := Option.bind_eq_some_iff.mp H
              obtain ⟨t107, A130, H⟩ := H
              replace H : (if t107.toList = ([15] : List UInt8) then ((bits_Is.f (⟨#[48, 49]⟩ : ByteArray)).bind fun t108 => (if t108 = true then ((bits_Is.f (⟨#[50]⟩ : ByteArray)).bind fun t109 => (some (!t109))) else (some false))) else (some false)) = some r := H
              have A13 := Aside0.mk A130
              clear A130
              by_cases c14 : t107.toList = ([15] : List UInt8)
              · rw [if_pos c14] at H
                have c14b0 : (t107.toList == ([15] : List UInt8)) = true := beq_iff_eq.mpr c14
                have c14b1 : (t107.toList != ([15] : List UInt8)) = false := bne_eq_false_iff_eq.mpr c14
                clear c14
                replace H := Option.bind_eq_some_iff.mp H
                obtain ⟨t108, A150, H⟩ := H
                replace H : (if t108 = true then ((bits_Is.f (⟨#[50]⟩ : ByteArray)).bind fun t109 => (some (!t109))) else (some false)) = some r := H
                have A15 := Aside0.mk A150
                clear A150
                by_cases c16 : t108 = true
                · subst c16
                  have H1 : ((bits_Is.f (⟨#[50]⟩ : ByteArray)).bind fun t109 => (some (!t109))) = some r := by rw [if_pos rfl] at H; exact H
                  clear H
                  have H := H1
                  clear H1
                  replace H := Option.bind_eq_some_iff.mp H
                  obtain ⟨t109, A170, H⟩ := H
                  replace H : (some (!t109)) = some r := H
                  have A17 := Aside0.mk A170
                  clear A170
                  obtain rfl := Option.some.inj H
                  go_enter Try.func11, Try.ntmps11
                  go_wp2_with (first | ((with_reducible refine gate_callee (f := 26) rfl ?_); refine goesL_ (some 1) rfl rfl Try.func26 (by kernel_rfl) rfl #[.string (⟨#[49]⟩ : ByteArray)] rfl (by (try simp only [List.map_toArray, List.map_cons, List.map_nil]); first | done | rfl | (simp only [List.length_drop, List.length_take]; rfl)) ?_; (with_reducible refine (bits_CRC.calls (⟨#[49]⟩ : ByteArray) t101 _ A1.out).mono ?_); rintro e w' ⟨rfl, ⟨nd, rfl⟩⟩; refine ⟨_, rfl, ?_⟩) | (go_at_call 14; (with_reducible refine (bits_Of.calls 5 4 t102 _ A3.out).mono ?_); rintro e w18 ⟨rfl, hb⟩; have n0_ := Aside0.mk (below_step (by repeat (first | (with_reducible first | exact HB.out | apply below_alloc | apply pw_below_drewN | apply below_drew1) | exact HB.out)) hb); clear HB; have HB := n0_; clear n0_; (try clear hb); (try clear hb2); (try clear hk); (try clear hi)) | (go_at_call 16; (with_reducible refine (bits_Num.calls (⟨#[48, 49, 48, 49]⟩ : ByteArray) t103 _ A5.out).mono ?_); rintro e w' ⟨rfl, ⟨nd, rfl⟩⟩) | (go_at_call 18; (with_reducible refine (bits_And.calls (⟨#[49, 49, 48]⟩ : ByteArray) (⟨#[49, 48]⟩ : ByteArray) t104 _ A7.out).mono ?_); rintro e w19 ⟨rfl, hb⟩; have n0_ := Aside0.mk (below_step (by repeat (first | (with_reducible first | exact HB.out | apply below_alloc | apply pw_below_drewN | apply below_drew1) | exact HB.out)) hb); clear HB; have HB := n0_; clear n0_; (try clear hb); (try clear hb2); (try clear hk); (try clear hi)) | (go_at_call 20; (with_reducible refine (bits_Turn.calls (⟨#[48, 48]⟩ : ByteArray) 1 t105 _ A9.out).mono ?_); rintro e w20 ⟨rfl, hb⟩; have n0_ := Aside0.mk (below_step (by repeat (first | (with_reducible first | exact HB.out | apply below_alloc | apply pw_below_drewN | apply below_drew1) | exact HB.out)) hb); clear HB; have HB := n0_; clear n0_; (try clear hb); (try clear hb2); (try clear hk); (try clear hi)) | (go_at_call 22; (with_reducible refine (bits_FromBytes.calls (⟨#[15]⟩ : ByteArray) t106 _ A11.out).mono ?_); rintro e w21 ⟨rfl, hb⟩; have n0_ := Aside0.mk (below_step (by repeat (first | (with_reducible first | exact HB.out | apply below_alloc | apply pw_below_drewN | apply below_drew1) | exact HB.out)) hb); clear HB; have HB := n0_; clear n0_; (try clear hb); (try clear hb2); (try clear hk); (try clear hi)) | (go_at_call 24; (with_reducible refine (bits_Bytes.calls (⟨#[48, 48, 48, 48, 49, 49, 49, 49, 49]⟩ : ByteArray) t107 _ A13.out).mono ?_); rintro e w22 ⟨rfl, hb⟩; have n0_ := Aside0.mk (below_step (by repeat (first | (with_reducible first | exact HB.out | apply below_alloc | apply pw_below_drewN | apply below_drew1) | exact HB.out)) hb); clear HB; have HB := n0_; clear n0_; (try clear hb); (try clear hb2); (try clear hk); (try clear hi)) | (go_at_call 12; (with_reducible refine (bits_Is.calls (⟨#[48, 49]⟩ : ByteArray) true _ A15.out).mono ?_); rintro e w' ⟨rfl, ⟨nd, rfl⟩⟩) | (go_at_call 12; (with_reducible refine (bits_Is.calls (⟨#[50]⟩ : ByteArray) t109 _ A17.out).mono ?_); rintro e w' ⟨rfl, ⟨nd, rfl⟩⟩))
                  go_ret
                  exact ⟨by first | rfl | (simp [errW_none, errW_some] <;> rfl) | (simp [*, errW_none, errW_some] <;> rfl), by repeat (first | (with_reducible first | exact HB.out | apply below_alloc | apply pw_below_drewN | apply below_drew1) | exact HB.out)⟩
                · replace c16 := Bool.eq_false_iff.mpr c16
                  subst c16
                  have H1 : (some false) = some r := by rw [if_neg (show ¬ (false = true) by decide)] at H; exact H
                  clear H
                  have H := H1
                  clear H1
                  obtain rfl := Option.some.inj H
                  go_enter Try.func11, Try.ntmps11
                  go_wp2_with (first | ((with_reducible refine gate_callee (f := 26) rfl ?_); refine goesL_ (some 1) rfl rfl Try.func26 (by kernel_rfl) rfl #[.string (⟨#[49]⟩ : ByteArray)] rfl (by (try simp only [List.map_toArray, List.map_cons, List.map_nil]); first | done | rfl | (simp only [List.length_drop, List.length_take]; rfl)) ?_; (with_reducible refine (bits_CRC.calls (⟨#[49]⟩ : ByteArray) t101 _ A1.out).mono ?_); rintro e w' ⟨rfl, ⟨nd, rfl⟩⟩; refine ⟨_, rfl, ?_⟩) | (go_at_call 14; (with_reducible refine (bits_Of.calls 5 4 t102 _ A3.out).mono ?_); rintro e w23 ⟨rfl, hb⟩; have n0_ := Aside0.mk (below_step (by repeat (first | (with_reducible first | exact HB.out | apply below_alloc | apply pw_below_drewN | apply below_drew1) | exact HB.out)) hb); clear HB; have HB := n0_; clear n0_; (try clear hb); (try clear hb2); (try clear hk); (try clear hi)) | (go_at_call 16; (with_reducible refine (bits_Num.calls (⟨#[48, 49, 48, 49]⟩ : ByteArray) t103 _ A5.out).mono ?_); rintro e w' ⟨rfl, ⟨nd, rfl⟩⟩) | (go_at_call 18; (with_reducible refine (bits_And.calls (⟨#[49, 49, 48]⟩ : ByteArray) (⟨#[49, 48]⟩ : ByteArray) t104 _ A7.out).mono ?_); rintro e w24 ⟨rfl, hb⟩; have n0_ := Aside0.mk (below_step (by repeat (first | (with_reducible first | exact HB.out | apply below_alloc | apply pw_below_drewN | apply below_drew1) | exact HB.out)) hb); clear HB; have HB := n0_; clear n0_; (try clear hb); (try clear hb2); (try clear hk); (try clear hi)) | (go_at_call 20; (with_reducible refine (bits_Turn.calls (⟨#[48, 48]⟩ : ByteArray) 1 t105 _ A9.out).mono ?_); rintro e w25 ⟨rfl, hb⟩; have n0_ := Aside0.mk (below_step (by repeat (first | (with_reducible first | exact HB.out | apply below_alloc | apply pw_below_drewN | apply below_drew1) | exact HB.out)) hb); clear HB; have HB := n0_; clear n0_; (try clear hb); (try clear hb2); (try clear hk); (try clear hi)) | (go_at_call 22; (with_reducible refine (bits_FromBytes.calls (⟨#[15]⟩ : ByteArray) t106 _ A11.out).mono ?_); rintro e w26 ⟨rfl, hb⟩; have n0_ := Aside0.mk (below_step (by repeat (first | (with_reducible first | exact HB.out | apply below_alloc | apply pw_below_drewN | apply below_drew1) | exact HB.out)) hb); clear HB; have HB := n0_; clear n0_; (try clear hb); (try clear hb2); (try clear hk); (try clear hi)) | (go_at_call 24; (with_reducible refine (bits_Bytes.calls (⟨#[48, 48, 48, 48, 49, 49, 49, 49, 49]⟩ : ByteArray) t107 _ A13.out).mono ?_); rintro e w27 ⟨rfl, hb⟩; have n0_ := Aside0.mk (below_step (by repeat (first | (with_reducible first | exact HB.out | apply below_alloc | apply pw_below_drewN | apply below_drew1) | exact HB.out)) hb); clear HB; have HB := n0_; clear n0_; (try clear hb); (try clear hb2); (try clear hk); (try clear hi)) | (go_at_call 12; (with_reducible refine (bits_Is.calls (⟨#[48, 49]⟩ : ByteArray) false _ A15.out).mono ?_); rintro e w' ⟨rfl, ⟨nd, rfl⟩⟩))
                  go_ret
                  exact ⟨by first | rfl | (simp [errW_none, errW_some] <;> rfl) | (simp [*, errW_none, errW_some] <;> rfl), by repeat (first | (with_reducible first | exact HB.out | apply below_alloc | apply pw_below_drewN | apply below_drew1) | exact HB.out)⟩
              · rw [if_neg c14] at H
                have c14b0 : (t107.toList == ([15] : List UInt8)) = false := beq_eq_false_iff_ne.mpr c14
                have c14b1 : (t107.toList != ([15] : List UInt8)) = true := bne_iff_ne.mpr c14
                obtain rfl := Option.some.inj H
                go_enter Try.func11, Try.ntmps11
                go_wp2_with (first | ((with_reducible refine gate_callee (f := 26) rfl ?_); refine goesL_ (some 1) rfl rfl Try.func26 (by kernel_rfl) rfl #[.string (⟨#[49]⟩ : ByteArray)] rfl (by (try simp only [List.map_toArray, List.map_cons, List.map_nil]); first | done | rfl | (simp only [List.length_drop, List.length_take]; rfl)) ?_; (with_reducible refine (bits_CRC.calls (⟨#[49]⟩ : ByteArray) t101 _ A1.out).mono ?_); rintro e w' ⟨rfl, ⟨nd, rfl⟩⟩; refine ⟨_, rfl, ?_⟩) | (go_at_call 14; (with_reducible refine (bits_Of.calls 5 4 t102 _ A3.out).mono ?_); rintro e w28 ⟨rfl, hb⟩; have n0_ := Aside0.mk (below_step (by repeat (first | (with_reducible first | exact HB.out | apply below_alloc | apply pw_below_drewN | apply below_drew1) | exact HB.out)) hb); clear HB; have HB := n0_; clear n0_; (try clear hb); (try clear hb2); (try clear hk); (try clear hi)) | (go_at_call 16; (with_reducible refine (bits_Num.calls (⟨#[48, 49, 48, 49]⟩ : ByteArray) t103 _ A5.out).mono ?_); rintro e w' ⟨rfl, ⟨nd, rfl⟩⟩) | (go_at_call 18; (with_reducible refine (bits_And.calls (⟨#[49, 49, 48]⟩ : ByteArray) (⟨#[49, 48]⟩ : ByteArray) t104 _ A7.out).mono ?_); rintro e w29 ⟨rfl, hb⟩; have n0_ := Aside0.mk (below_step (by repeat (first | (with_reducible first | exact HB.out | apply below_alloc | apply pw_below_drewN | apply below_drew1) | exact HB.out)) hb); clear HB; have HB := n0_; clear n0_; (try clear hb); (try clear hb2); (try clear hk); (try clear hi)) | (go_at_call 20; (with_reducible refine (bits_Turn.calls (⟨#[48, 48]⟩ : ByteArray) 1 t105 _ A9.out).mono ?_); rintro e w30 ⟨rfl, hb⟩; have n0_ := Aside0.mk (below_step (by repeat (first | (with_reducible first | exact HB.out | apply below_alloc | apply pw_below_drewN | apply below_drew1) | exact HB.out)) hb); clear HB; have HB := n0_; clear n0_; (try clear hb); (try clear hb2); (try clear hk); (try clear hi)) | (go_at_call 22; (with_reducible refine (bits_FromBytes.calls (⟨#[15]⟩ : ByteArray) t106 _ A11.out).mono ?_); rintro e w31 ⟨rfl, hb⟩; have n0_ := Aside0.mk (below_step (by repeat (first | (with_reducible first | exact HB.out | apply below_alloc | apply pw_below_drewN | apply below_drew1) | exact HB.out)) hb); clear HB; have HB := n0_; clear n0_; (try clear hb); (try clear hb2); (try clear hk); (try clear hi)) | (go_at_call 24; (with_reducible refine (bits_Bytes.calls (⟨#[48, 48, 48, 48, 49, 49, 49, 49, 49]⟩ : ByteArray) t107 _ A13.out).mono ?_); rintro e w32 ⟨rfl, hb⟩; have n0_ := Aside0.mk (below_step (by repeat (first | (with_reducible first | exact HB.out | apply below_alloc | apply pw_below_drewN | apply below_drew1) | exact HB.out)) hb); clear HB; have HB := n0_; clear n0_; (try clear hb); (try clear hb2); (try clear hk); (try clear hi)))
                go_ret
                exact ⟨by first | rfl | (simp [errW_none, errW_some] <;> rfl) | (simp [*, errW_none, errW_some] <;> rfl), by repeat (first | (with_reducible first | exact HB.out | apply below_alloc | apply pw_below_drewN | apply below_drew1) | exact HB.out)⟩
            · rw [if_neg c12] at H
              have c12b0 : (t106.toList == ([48, 48, 48, 48, 49, 49, 49, 49] : List UInt8)) = false := beq_eq_false_iff_ne.mpr c12
              have c12b1 : (t106.toList != ([48, 48, 48, 48, 49, 49, 49, 49] : List UInt8)) = true := bne_iff_ne.mpr c12
              obtain rfl := Option.some.inj H
              go_enter Try.func11, Try.ntmps11
              go_wp2_with (first | ((with_reducible refine gate_callee (f := 26) rfl ?_); refine goesL_ (some 1) rfl rfl Try.func26 (by kernel_rfl) rfl #[.string (⟨#[49]⟩ : ByteArray)] rfl (by (try simp only [List.map_toArray, List.map_cons, List.map_nil]); first | done | rfl | (simp only [List.length_drop, List.length_take]; rfl)) ?_; (with_reducible refine (bits_CRC.calls (⟨#[49]⟩ : ByteArray) t101 _ A1.out).mono ?_); rintro e w' ⟨rfl, ⟨nd, rfl⟩⟩; refine ⟨_, rfl, ?_⟩) | (go_at_call 14; (with_reducible refine (bits_Of.calls 5 4 t102 _ A3.out).mono ?_); rintro e w33 ⟨rfl, hb⟩; have n0_ := Aside0.mk (below_step (by repeat (first | (with_reducible first | exact HB.out | apply below_alloc | apply pw_below_drewN | apply below_drew1) | exact HB.out)) hb); clear HB; have HB := n0_; clear n0_; (try clear hb); (try clear hb2); (try clear hk); (try clear hi)) | (go_at_call 16; (with_reducible refine (bits_Num.calls (⟨#[48, 49, 48, 49]⟩ : ByteArray) t103 _ A5.out).mono ?_); rintro e w' ⟨rfl, ⟨nd, rfl⟩⟩) | (go_at_call 18; (with_reducible refine (bits_And.calls (⟨#[49, 49, 48]⟩ : ByteArray) (⟨#[49, 48]⟩ : ByteArray) t104 _ A7.out).mono ?_); rintro e w34 ⟨rfl, hb⟩; have n0_ := Aside0.mk (below_step (by repeat (first | (with_reducible first | exact HB.out | apply below_alloc | apply pw_below_drewN | apply below_drew1) | exact HB.out)) hb); clear HB; have HB := n0_; clear n0_; (try clear hb); (try clear hb2); (try clear hk); (try clear hi)) | (go_at_call 20; (with_reducible refine (bits_Turn.calls (⟨#[48, 48]⟩ : ByteArray) 1 t105 _ A9.out).mono ?_); rintro e w35 ⟨rfl, hb⟩; have n0_ := Aside0.mk (below_step (by repeat (first | (with_reducible first | exact HB.out | apply below_alloc | apply pw_below_drewN | apply below_drew1) | exact HB.out)) hb); clear HB; have HB := n0_; clear n0_; (try clear hb); (try clear hb2); (try clear hk); (try clear hi)) | (go_at_call 22; (with_reducible refine (bits_FromBytes.calls (⟨#[15]⟩ : ByteArray) t106 _ A11.out).mono ?_); rintro e w36 ⟨rfl, hb⟩; have n0_ := Aside0.mk (below_step (by repeat (first | (with_reducible first | exact HB.out | apply below_alloc | apply pw_below_drewN | apply below_drew1) | exact HB.out)) hb); clear HB; have HB := n0_; clear n0_; (try clear hb); (try clear hb2); (try clear hk); (try clear hi)))
              go_ret
              exact ⟨by first | rfl | (simp [errW_none, errW_some] <;> rfl) | (simp [*, errW_none, errW_some] <;> rfl), by repeat (first | (with_reducible first | exact HB.out | apply below_alloc | apply pw_below_drewN | apply below_drew1) | exact HB.out)⟩
          · rw [if_neg c10] at H
            have c10b0 : (t105.toList == ([48, 49] : List UInt8)) = false := beq_eq_false_iff_ne.mpr c10
            have c10b1 : (t105.toList != ([48, 49] : List UInt8)) = true := bne_iff_ne.mpr c10
            obtain rfl := Option.some.inj H
            go_enter Try.func11, Try.ntmps11
            go_wp2_with (first | ((with_reducible refine gate_callee (f := 26) rfl ?_); refine goesL_ (some 1) rfl rfl Try.func26 (by kernel_rfl) rfl #[.string (⟨#[49]⟩ : ByteArray)] rfl (by (try simp only [List.map_toArray, List.map_cons, List.map_nil]); first | done | rfl | (simp only [List.length_drop, List.length_take]; rfl)) ?_; (with_reducible refine (bits_CRC.calls (⟨#[49]⟩ : ByteArray) t101 _ A1.out).mono ?_); rintro e w' ⟨rfl, ⟨nd, rfl⟩⟩; refine ⟨_, rfl, ?_⟩) | (go_at_call 14; (with_reducible refine (bits_Of.calls 5 4 t102 _ A3.out).mono ?_); rintro e w37 ⟨rfl, hb⟩; have n0_ := Aside0.mk (below_step (by repeat (first | (with_reducible first | exact HB.out | apply below_alloc | apply pw_below_drewN | apply below_drew1) | exact HB.out)) hb); clear HB; have HB := n0_; clear n0_; (try clear hb); (try clear hb2); (try clear hk); (try clear hi)) | (go_at_call 16; (with_reducible refine (bits_Num.calls (⟨#[48, 49, 48, 49]⟩ : ByteArray) t103 _ A5.out).mono ?_); rintro e w' ⟨rfl, ⟨nd, rfl⟩⟩) | (go_at_call 18; (with_reducible refine (bits_And.calls (⟨#[49, 49, 48]⟩ : ByteArray) (⟨#[49, 48]⟩ : ByteArray) t104 _ A7.out).mono ?_); rintro e w38 ⟨rfl, hb⟩; have n0_ := Aside0.mk (below_step (by repeat (first | (with_reducible first | exact HB.out | apply below_alloc | apply pw_below_drewN | apply below_drew1) | exact HB.out)) hb); clear HB; have HB := n0_; clear n0_; (try clear hb); (try clear hb2); (try clear hk); (try clear hi)) | (go_at_call 20; (with_reducible refine (bits_Turn.calls (⟨#[48, 48]⟩ : ByteArray) 1 t105 _ A9.out).mono ?_); rintro e w39 ⟨rfl, hb⟩; have n0_ := Aside0.mk (below_step (by repeat (first | (with_reducible first | exact HB.out | apply below_alloc | apply pw_below_drewN | apply below_drew1) | exact HB.out)) hb); clear HB; have HB := n0_; clear n0_; (try clear hb); (try clear hb2); (try clear hk); (try clear hi)))
            go_ret
            exact ⟨by first | rfl | (simp [errW_none, errW_some] <;> rfl) | (simp [*, errW_none, errW_some] <;> rfl), by repeat (first | (with_reducible first | exact HB.out | apply below_alloc | apply pw_below_drewN | apply below_drew1) | exact HB.out)⟩
        · rw [if_neg c8] at H
          have c8b0 : (t104.toList == ([49, 48] : List UInt8)) = false := beq_eq_false_iff_ne.mpr c8
          have c8b1 : (t104.toList != ([49, 48] : List UInt8)) = true := bne_iff_ne.mpr c8
          obtain rfl := Option.some.inj H
          go_enter Try.func11, Try.ntmps11
          go_wp2_with (first | ((with_reducible refine gate_callee (f := 26) rfl ?_); refine goesL_ (some 1) rfl rfl Try.func26 (by kernel_rfl) rfl #[.string (⟨#[49]⟩ : ByteArray)] rfl (by (try simp only [List.map_toArray, List.map_cons, List.map_nil]); first | done | rfl | (simp only [List.length_drop, List.length_take]; rfl)) ?_; (with_reducible refine (bits_CRC.calls (⟨#[49]⟩ : ByteArray) t101 _ A1.out).mono ?_); rintro e w' ⟨rfl, ⟨nd, rfl⟩⟩; refine ⟨_, rfl, ?_⟩) | (go_at_call 14; (with_reducible refine (bits_Of.calls 5 4 t102 _ A3.out).mono ?_); rintro e w40 ⟨rfl, hb⟩; have n0_ := Aside0.mk (below_step (by repeat (first | (with_reducible first | exact HB.out | apply below_alloc | apply pw_below_drewN | apply below_drew1) | exact HB.out)) hb); clear HB; have HB := n0_; clear n0_; (try clear hb); (try clear hb2); (try clear hk); (try clear hi)) | (go_at_call 16; (with_reducible refine (bits_Num.calls (⟨#[48, 49, 48, 49]⟩ : ByteArray) t103 _ A5.out).mono ?_); rintro e w' ⟨rfl, ⟨nd, rfl⟩⟩) | (go_at_call 18; (with_reducible refine (bits_And.calls (⟨#[49, 49, 48]⟩ : ByteArray) (⟨#[49, 48]⟩ : ByteArray) t104 _ A7.out).mono ?_); rintro e w41 ⟨rfl, hb⟩; have n0_ := Aside0.mk (below_step (by repeat (first | (with_reducible first | exact HB.out | apply below_alloc | apply pw_below_drewN | apply below_drew1) | exact HB.out)) hb); clear HB; have HB := n0_; clear n0_; (try clear hb); (try clear hb2); (try clear hk); (try clear hi)))
          go_ret
          exact ⟨by first | rfl | (simp [errW_none, errW_some] <;> rfl) | (simp [*, errW_none, errW_some] <;> rfl), by repeat (first | (with_reducible first | exact HB.out | apply below_alloc | apply pw_below_drewN | apply below_drew1) | exact HB.out)⟩
      · rw [if_neg c6] at H
        have c6b0 : (t103 == 5) = false := beq_eq_false_iff_ne.mpr c6
        have c6b1 : (t103 != 5) = true := bne_iff_ne.mpr c6
        obtain rfl := Option.some.inj H
        go_enter Try.func11, Try.ntmps11
        go_wp2_with (first | ((with_reducible refine gate_callee (f := 26) rfl ?_); refine goesL_ (some 1) rfl rfl Try.func26 (by kernel_rfl) rfl #[.string (⟨#[49]⟩ : ByteArray)] rfl (by (try simp only [List.map_toArray, List.map_cons, List.map_nil]); first | done | rfl | (simp only [List.length_drop, List.length_take]; rfl)) ?_; (with_reducible refine (bits_CRC.calls (⟨#[49]⟩ : ByteArray) t101 _ A1.out).mono ?_); rintro e w' ⟨rfl, ⟨nd, rfl⟩⟩; refine ⟨_, rfl, ?_⟩) | (go_at_call 14; (with_reducible refine (bits_Of.calls 5 4 t102 _ A3.out).mono ?_); rintro e w42 ⟨rfl, hb⟩; have n0_ := Aside0.mk (below_step (by repeat (first | (with_reducible first | exact HB.out | apply below_alloc | apply pw_below_drewN | apply below_drew1) | exact HB.out)) hb); clear HB; have HB := n0_; clear n0_; (try clear hb); (try clear hb2); (try clear hk); (try clear hi)) | (go_at_call 16; (with_reducible refine (bits_Num.calls (⟨#[48, 49, 48, 49]⟩ : ByteArray) t103 _ A5.out).mono ?_); rintro e w' ⟨rfl, ⟨nd, rfl⟩⟩))
        go_ret
        exact ⟨by first | rfl | (simp [errW_none, errW_some] <;> rfl) | (simp [*, errW_none, errW_some] <;> rfl), by repeat (first | (with_reducible first | exact HB.out | apply below_alloc | apply pw_below_drewN | apply below_drew1) | exact HB.out)⟩
    · rw [if_neg c4] at H
      have c4b0 : (t102.toList == ([48, 49, 48, 49] : List UInt8)) = false := beq_eq_false_iff_ne.mpr c4
      have c4b1 : (t102.toList != ([48, 49, 48, 49] : List UInt8)) = true := bne_iff_ne.mpr c4
      obtain rfl := Option.some.inj H
      go_enter Try.func11, Try.ntmps11
      go_wp2_with (first | ((with_reducible refine gate_callee (f := 26) rfl ?_); refine goesL_ (some 1) rfl rfl Try.func26 (by kernel_rfl) rfl #[.string (⟨#[49]⟩ : ByteArray)] rfl (by (try simp only [List.map_toArray, List.map_cons, List.map_nil]); first | done | rfl | (simp only [List.length_drop, List.length_take]; rfl)) ?_; (with_reducible refine (bits_CRC.calls (⟨#[49]⟩ : ByteArray) t101 _ A1.out).mono ?_); rintro e w' ⟨rfl, ⟨nd, rfl⟩⟩; refine ⟨_, rfl, ?_⟩) | (go_at_call 14; (with_reducible refine (bits_Of.calls 5 4 t102 _ A3.out).mono ?_); rintro e w43 ⟨rfl, hb⟩; have n0_ := Aside0.mk (below_step (by repeat (first | (with_reducible first | exact HB.out | apply below_alloc | apply pw_below_drewN | apply below_drew1) | exact HB.out)) hb); clear HB; have HB := n0_; clear n0_; (try clear hb); (try clear hb2); (try clear hk); (try clear hi)))
      go_ret
      exact ⟨by first | rfl | (simp [errW_none, errW_some] <;> rfl) | (simp [*, errW_none, errW_some] <;> rfl), by repeat (first | (with_reducible first | exact HB.out | apply below_alloc | apply pw_below_drewN | apply below_drew1) | exact HB.out)⟩
  · rw [if_neg c2] at H
    have c2b0 : (t101 == 17817) = false := beq_eq_false_iff_ne.mpr c2
    have c2b1 : (t101 != 17817) = true := bne_iff_ne.mpr c2
    obtain rfl := Option.some.inj H
    go_enter Try.func11, Try.ntmps11
    go_wp2_with (first | ((with_reducible refine gate_callee (f := 26) rfl ?_); refine goesL_ (some 1) rfl rfl Try.func26 (by kernel_rfl) rfl #[.string (⟨#[49]⟩ : ByteArray)] rfl (by (try simp only [List.map_toArray, List.map_cons, List.map_nil]); first | done | rfl | (simp only [List.length_drop, List.length_take]; rfl)) ?_; (with_reducible refine (bits_CRC.calls (⟨#[49]⟩ : ByteArray) t101 _ A1.out).mono ?_); rintro e w' ⟨rfl, ⟨nd, rfl⟩⟩; refine ⟨_, rfl, ?_⟩))
    go_ret
    exact ⟨by first | rfl | (simp [errW_none, errW_some] <;> rfl) | (simp [*, errW_none, errW_some] <;> rfl), by repeat (first | (with_reducible first | exact HB.out | apply below_alloc | apply pw_below_drewN | apply below_drew1) | exact HB.out)⟩

/-! ### ostinatolaw1_BitsAll: function 10 -/
def ostinatolaw1_BitsAll.l0 : Nat → ByteArray → Int → ByteArray → Int → Option (Bool)
  | 0, _, _, _, _ => none
  | k + 1, x0, x1, x5, x6 => if x6 < (x0.size : Int) then (if 0 ≤ x6 then (if (bt x0 x6) = 49 then (if x5.size + 1 ≤ 9223372036854775807 then (ostinatolaw1_BitsAll.l0 k x0 x1 (x5 ++ (⟨#[49]⟩ : ByteArray)) (wrap64 (x6 + 1))) else (none)) else (if x5.size + 1 ≤ 9223372036854775807 then (ostinatolaw1_BitsAll.l0 k x0 x1 (x5 ++ (⟨#[48]⟩ : ByteArray)) (wrap64 (x6 + 1))) else (none))) else (none)) else ((bits_Is.f x5).bind fun t111 => (if t111 = true then ((bits_Num.f x0).bind fun t112 => ((bits_Num.f x5).bind fun t113 => (if t112 = t113 then ((bits_CRC.f x0).bind fun t114 => ((bits_CRC.f x5).bind fun t115 => (if t114 = t115 then ((bits_And.f x0 x0).bind fun t116 => (if t116.toList = x5.toList then ((bits_Bytes.f x0).bind fun t117 => ((bits_Bytes.f x5).bind fun t118 => (if t117.toList = t118.toList then ((bits_Turn.f x0 (wrap64 (x1))).bind fun t119 => ((bits_Turn.f x5 (wrap64 (x1))).bind fun t120 => (if t119.toList = t120.toList then ((bits_Is.f x0).bind fun t121 => (some (t121 == (x0.toList == x5.toList)))) else (some false)))) else (some false)))) else (some false))) else (some false)))) else (some false)))) else (some false)))
def ostinatolaw1_BitsAll.f (k : Nat) (a0 : ByteArray) (a1 : Int) : Option (Bool) := (ostinatolaw1_known.f).bind fun t110 => (if t110 = true then (if (a0.size : Int) > 64 then (some true) else (ostinatolaw1_BitsAll.l0 k a0 a1 (⟨#[]⟩ : ByteArray) 0)) else (some false))
theorem ostinatolaw1_BitsAll.mono_l : ∀ k, (∀ y0 y1 y2 y3, LeO (ostinatolaw1_BitsAll.l0 k y0 y1 y2 y3) (ostinatolaw1_BitsAll.l0 (k + 1) y0 y1 y2 y3))
  | 0 => fun _ _ _ _ r h => by simp [ostinatolaw1_BitsAll.l0] at h
  | k + 1 => by
    have ih0 := ostinatolaw1_BitsAll.mono_l k
    · intro y0 y1 y2 y3
      unfold ostinatolaw1_BitsAll.l0
      repeat' first
      | (with_reducible exact ih0 _ _ _ _)
      | (with_reducible exact LeO.refl _)
      | (with_reducible exact LeO.none _)
      | (with_reducible refine LeO.ite ?_ ?_)
      | (with_reducible refine LeO.bind ?_ (fun _ => ?_))
      | exact ih0 _ _ _ _
      | exact LeO.none _
      | refine LeO.ite ?_ ?_
      | refine LeO.bind ?_ (fun _ => ?_)
theorem ostinatolaw1_BitsAll.mono : ∀ a0 a1 k, LeO (ostinatolaw1_BitsAll.f k a0 a1) (ostinatolaw1_BitsAll.f (k + 1) a0 a1) := by
  intro a0 a1 k
  have ih0 := ostinatolaw1_BitsAll.mono_l k
  unfold ostinatolaw1_BitsAll.f
  repeat' first
      | (with_reducible exact ih0 _ _ _ _)
      | (with_reducible exact LeO.refl _)
      | (with_reducible exact LeO.none _)
      | (with_reducible refine LeO.ite ?_ ?_)
      | (with_reducible refine LeO.bind ?_ (fun _ => ?_))
      | exact ih0 _ _ _ _
      | exact LeO.none _
      | refine LeO.ite ?_ ?_
      | refine LeO.bind ?_ (fun _ => ?_)
set_option maxHeartbeats 8000000 in
set_option maxRecDepth 100000 in
theorem ostinatolaw1_BitsAll.calls (k : Nat) (a0 : ByteArray) (a1 : Int) (r : Bool) (w : World) (h : ostinatolaw1_BitsAll.f k a0 a1 = some r) :
    Calls Try.prog 10 #[.string a0, .int .u8 a1] w fun e w' => e = .returned (.bool r) ∧ Below w.heap.size w w' := by
  have HB := Aside0.mk (Below.refl w.heap.size w)
  have H : ((ostinatolaw1_known.f).bind fun t110 => (if t110 = true then (if (a0.size : Int) > 64 then (some true) else (ostinatolaw1_BitsAll.l0 k a0 a1 (⟨#[]⟩ : ByteArray) 0)) else (some false))) = some r := h
  clear h
  replace H := Option.bind_eq_some_iff.mp H
  obtain ⟨t110, A30, H⟩ := H
  replace H : (if t110 = true then (if (a0.size : Int) > 64 then (some true) else (ostinatolaw1_BitsAll.l0 k a0 a1 (⟨#[]⟩ : ByteArray) 0)) else (some false)) = some r := H
  have A3 := Aside0.mk A30
  clear A30
  by_cases c4 : t110 = true
  · subst c4
    have H1 : (if (a0.size : Int) > 64 then (some true) else (ostinatolaw1_BitsAll.l0 k a0 a1 (⟨#[]⟩ : ByteArray) 0)) = some r := by rw [if_pos rfl] at H; exact H
    clear H
    have H := H1
    clear H1
    by_cases c5 : (a0.size : Int) > 64
    · rw [if_pos c5] at H
      have c5b0 : decide (64 < (a0.size : Int)) = true := decide_eq_true c5
      have c5b1 : decide (64 < a0.size) = true := decide_eq_true (by omega)
      clear c5
      obtain rfl := Option.some.inj H
      go_enter Try.func10, Try.ntmps10
      go_wp2_with (first | ((with_reducible refine gate_callee (f := 11) rfl ?_); refine goesL_ (some 7) rfl rfl Try.func11 (by kernel_rfl) rfl #[] rfl (by (try simp only [List.map_toArray, List.map_cons, List.map_nil]); first | done | rfl | (simp only [List.length_drop, List.length_take]; rfl)) ?_; (with_reducible refine (ostinatolaw1_known.calls  true _ A3.out).mono ?_); rintro e w6 ⟨rfl, hb⟩; refine ⟨_, rfl, ?_⟩; have n0_ := Aside0.mk (below_step (by repeat (first | (with_reducible first | exact HB.out | apply below_alloc | apply pw_below_drewN | apply below_drew1) | exact HB.out)) hb); clear HB; have HB := n0_; clear n0_; (try clear hb); (try clear hb2); (try clear hk); (try clear hi)))
      go_ret
      exact ⟨by first | rfl | (simp [errW_none, errW_some] <;> rfl) | (simp [*, errW_none, errW_some] <;> rfl), by repeat (first | (with_reducible first | exact HB.out | apply below_alloc | apply pw_below_drewN | apply below_drew1) | exact HB.out)⟩
    · rw [if_neg c5] at H
      have c5b0 : decide (64 < (a0.size : Int)) = false := decide_eq_false c5
      have c5b1 : decide (64 < a0.size) = false := decide_eq_false (by omega)
      clear c5
      have H' := Aside0.mk H
      clear H
      go_enter Try.func10, Try.ntmps10
      go_wp2_with (first | ((with_reducible refine gate_callee (f := 11) rfl ?_); refine goesL_ (some 7) rfl rfl Try.func11 (by kernel_rfl) rfl #[] rfl (by (try simp only [List.map_toArray, List.map_cons, List.map_nil]); first | done | rfl | (simp only [List.length_drop, List.length_take]; rfl)) ?_; (with_reducible refine (ostinatolaw1_known.calls  true _ A3.out).mono ?_); rintro e w7 ⟨rfl, hb⟩; refine ⟨_, rfl, ?_⟩; have n0_ := Aside0.mk (below_step (by repeat (first | (with_reducible first | exact HB.out | apply below_alloc | apply pw_below_drewN | apply below_drew1) | exact HB.out)) hb); clear HB; have HB := n0_; clear n0_; (try clear hb); (try clear hb2); (try clear hk); (try clear hi)))
      go_loopg [5, 6] k (fun kq v5 v6 w' => ∃ (x5_1 : ByteArray) (x6_1 : Int), v5 = .string x5_1 ∧ v6 = .int .i64 x6_1 ∧ Aside0 (ostinatolaw1_BitsAll.l0 kq a0 a1 x5_1 x6_1 = some r) ∧ Aside0 (kq ≤ k) ∧ Aside0 (Below w.heap.size w w'))
      case atStart => exact ⟨((⟨#[]⟩ : ByteArray)), (0), (by first | rfl | (simp; done) | (simp [*]; done)), (by first | rfl | (simp; done) | (simp [*]; done)), H', ⟨Nat.le_refl _⟩, ⟨by repeat (first | (with_reducible first | exact HB.out | apply below_alloc | apply pw_below_drewN | apply below_drew1) | exact HB.out)⟩⟩
      case round =>
        clear H'
        try clear c1
        try clear p2
        try clear c4
        try clear c5
        try clear c5b0
        try clear c5b1
        obtain ⟨x5_1, x6_1, rfl, rfl, HA, HK1, HB⟩ := hrel
        cases gk with
        | zero => exact absurd HA.out (by simp [ostinatolaw1_BitsAll.l0])
        | succ k1 =>
          have H := HA.out
          clear HA
          simp only [ostinatolaw1_BitsAll.l0] at H
          by_cases c8 : x6_1 < (a0.size : Int)
          · rw [if_pos c8] at H
            have c8b0 : decide (x6_1 < (a0.size : Int)) = true := decide_eq_true c8
            clear c8
            by_cases c9 : 0 ≤ x6_1
            · rw [if_pos c9] at H
              have c9b0 : decide (0 ≤ x6_1) = true := decide_eq_true c9
              clear c9
              by_cases c11 : (bt a0 x6_1) = 49
              · rw [if_pos c11] at H
                have c11b0 : ((bt a0 x6_1) == 49) = true := beq_iff_eq.mpr c11
                have c11b1 : ((bt a0 x6_1) != 49) = false := bne_eq_false_iff_eq.mpr c11
                clear c11
                by_cases c12 : x5_1.size + 1 ≤ 9223372036854775807
                · rw [if_pos c12] at H
                  have c12b0 := eq_true c12
                  have c12b1 : decide (x5_1.size + 1 ≤ 9223372036854775807) = true := decide_eq_true c12
                  try have c12b2 : (9223372036854775807 < x5_1.size + 1) = False := eq_false (Nat.not_lt.2 c12)
                  have H' := Aside0.mk H
                  clear H
                  have p10 : 0 ≤ (x6_1 : Int) := of_decide_eq_true (by first | (with_reducible assumption) | assumption)
                  have q10 : x6_1 < (a0.size : Int) := of_decide_eq_true (by first | (with_reducible assumption) | assumption)
                  have hx10 := bt_at a0 x6_1
                  replace p10 := eq_true p10
                  replace q10 := eq_true q10
                  go_wp2
                  go_roundg k1
                  case measure => have := HK1.out; omega
                  case rel => exact ⟨(x5_1 ++ (⟨#[49]⟩ : ByteArray)), (wrap64 (x6_1 + 1)), (by first | rfl | (simp; done) | (simp [*]; done)), (by first | rfl | (simp; done) | (simp [*]; done)), H', ⟨by have := HK1.out; omega⟩, ⟨by repeat (first | (with_reducible first | exact HB.out | apply below_alloc | apply pw_below_drewN | apply below_drew1) | exact HB.out)⟩⟩
                · rw [if_neg c12] at H
                  exact absurd H (by simp)
              · rw [if_neg c11] at H
                have c11b0 : ((bt a0 x6_1) == 49) = false := beq_eq_false_iff_ne.mpr c11
                have c11b1 : ((bt a0 x6_1) != 49) = true := bne_iff_ne.mpr c11
                by_cases c13 : x5_1.size + 1 ≤ 9223372036854775807
                · rw [if_pos c13] at H
                  have c13b0 := eq_true c13
                  have c13b1 : decide (x5_1.size + 1 ≤ 9223372036854775807) = true := decide_eq_true c13
                  try have c13b2 : (9223372036854775807 < x5_1.size + 1) = False := eq_false (Nat.not_lt.2 c13)
                  have H' := Aside0.mk H
                  clear H
                  have p10 : 0 ≤ (x6_1 : Int) := of_decide_eq_true (by first | (with_reducible assumption) | assumption)
                  have q10 : x6_1 < (a0.size : Int) := of_decide_eq_true (by first | (with_reducible assumption) | assumption)
                  have hx10 := bt_at a0 x6_1
                  replace p10 := eq_true p10
                  replace q10 := eq_true q10
                  go_wp2
                  go_roundg k1
                  case measure => have := HK1.out; omega
                  case rel => exact ⟨(x5_1 ++ (⟨#[48]⟩ : ByteArray)), (wrap64 (x6_1 + 1)), (by first | rfl | (simp; done) | (simp [*]; done)), (by first | rfl | (simp; done) | (simp [*]; done)), H', ⟨by have := HK1.out; omega⟩, ⟨by repeat (first | (with_reducible first | exact HB.out | apply below_alloc | apply pw_below_drewN | apply below_drew1) | exact HB.out)⟩⟩
                · rw [if_neg c13] at H
                  exact absurd H (by simp)
            · rw [if_neg c9] at H
              exact absurd H (by simp)
          · rw [if_neg c8] at H
            have c8b0 : decide (x6_1 < (a0.size : Int)) = false := decide_eq_false c8
            clear c8
            replace H := Option.bind_eq_some_iff.mp H
            obtain ⟨t111, A140, H⟩ := H
            replace H : (if t111 = true then ((bits_Num.f a0).bind fun t112 => ((bits_Num.f x5_1).bind fun t113 => (if t112 = t113 then ((bits_CRC.f a0).bind fun t114 => ((bits_CRC.f x5_1).bind fun t115 => (if t114 = t115 then ((bits_And.f a0 a0).bind fun t116 => (if t116.toList = x5_1.toList then ((bits_Bytes.f a0).bind fun t117 => ((bits_Bytes.f x5_1).bind fun t118 => (if t117.toList = t118.toList then ((bits_Turn.f a0 (wrap64 (a1))).bind fun t119 => ((bits_Turn.f x5_1 (wrap64 (a1))).bind fun t120 => (if t119.toList = t120.toList then ((bits_Is.f a0).bind fun t121 => (some (t121 == (a0.toList == x5_1.toList)))) else (some false)))) else (some false)))) else (some false))) else (some false)))) else (some false)))) else (some false)) = some r := H
            have A14 := Aside0.mk A140
            clear A140
            by_cases c15 : t111 = true
            · subst c15
              have H1 : ((bits_Num.f a0).bind fun t112 => ((bits_Num.f x5_1).bind fun t113 => (if t112 = t113 then ((bits_CRC.f a0).bind fun t114 => ((bits_CRC.f x5_1).bind fun t115 => (if t114 = t115 then ((bits_And.f a0 a0).bind fun t116 => (if t116.toList = x5_1.toList then ((bits_Bytes.f a0).bind fun t117 => ((bits_Bytes.f x5_1).bind fun t118 => (if t117.toList = t118.toList then ((bits_Turn.f a0 (wrap64 (a1))).bind fun t119 => ((bits_Turn.f x5_1 (wrap64 (a1))).bind fun t120 => (if t119.toList = t120.toList then ((bits_Is.f a0).bind fun t121 => (some (t121 == (a0.toList == x5_1.toList)))) else (some false)))) else (some false)))) else (some false))) else (some false)))) else (some false)))) = some r := by rw [if_pos rfl] at H; exact H
              clear H
              have H := H1
              clear H1
              replace H := Option.bind_eq_some_iff.mp H
              obtain ⟨t112, A160, H⟩ := H
              replace H : ((bits_Num.f x5_1).bind fun t113 => (if t112 = t113 then ((bits_CRC.f a0).bind fun t114 => ((bits_CRC.f x5_1).bind fun t115 => (if t114 = t115 then ((bits_And.f a0 a0).bind fun t116 => (if t116.toList = x5_1.toList then ((bits_Bytes.f a0).bind fun t117 => ((bits_Bytes.f x5_1).bind fun t118 => (if t117.toList = t118.toList then ((bits_Turn.f a0 (wrap64 (a1))).bind fun t119 => ((bits_Turn.f x5_1 (wrap64 (a1))).bind fun t120 => (if t119.toList = t120.toList then ((bits_Is.f a0).bind fun t121 => (some (t121 == (a0.toList == x5_1.toList)))) else (some false)))) else (some false)))) else (some false))) else (some false)))) else (some false))) = some r := H
              have A16 := Aside0.mk A160
              clear A160
              replace H := Option.bind_eq_some_iff.mp H
              obtain ⟨t113, A170, H⟩ := H
              replace H : (if t112 = t113 then ((bits_CRC.f a0).bind fun t114 => ((bits_CRC.f x5_1).bind fun t115 => (if t114 = t115 then ((bits_And.f a0 a0).bind fun t116 => (if t116.toList = x5_1.toList then ((bits_Bytes.f a0).bind fun t117 => ((bits_Bytes.f x5_1).bind fun t118 => (if t117.toList = t118.toList then ((bits_Turn.f a0 (wrap64 (a1))).bind fun t119 => ((bits_Turn.f x5_1 (wrap64 (a1))).bind fun t120 => (if t119.toList = t120.toList then ((bits_Is.f a0).bind fun t121 => (some (t121 == (a0.toList == x5_1.toList)))) else (some false)))) else (some false)))) else (some false))) else (some false)))) else (some false)) = some r := H
              have A17 := Aside0.mk A170
              clear A170
              by_cases c18 : t112 = t113
              · rw [if_pos c18] at H
                have c18b0 : (t112 == t113) = true := beq_iff_eq.mpr c18
                have c18b1 : (t112 != t113) = false := bne_eq_false_iff_eq.mpr c18
                clear c18
                replace H := Option.bind_eq_some_iff.mp H
                obtain ⟨t114, A190, H⟩ := H
                replace H : ((bits_CRC.f x5_1).bind fun t115 => (if t114 = t115 then ((bits_And.f a0 a0).bind fun t116 => (if t116.toList = x5_1.toList then ((bits_Bytes.f a0).bind fun t117 => ((bits_Bytes.f x5_1).bind fun t118 => (if t117.toList = t118.toList then ((bits_Turn.f a0 (wrap64 (a1))).bind fun t119 => ((bits_Turn.f x5_1 (wrap64 (a1))).bind fun t120 => (if t119.toList = t120.toList then ((bits_Is.f a0).bind fun t121 => (some (t121 == (a0.toList == x5_1.toList)))) else (some false)))) else (some false)))) else (some false))) else (some false))) = some r := H
                have A19 := Aside0.mk A190
                clear A190
                replace H := Option.bind_eq_some_iff.mp H
                obtain ⟨t115, A200, H⟩ := H
                replace H : (if t114 = t115 then ((bits_And.f a0 a0).bind fun t116 => (if t116.toList = x5_1.toList then ((bits_Bytes.f a0).bind fun t117 => ((bits_Bytes.f x5_1).bind fun t118 => (if t117.toList = t118.toList then ((bits_Turn.f a0 (wrap64 (a1))).bind fun t119 => ((bits_Turn.f x5_1 (wrap64 (a1))).bind fun t120 => (if t119.toList = t120.toList then ((bits_Is.f a0).bind fun t121 => (some (t121 == (a0.toList == x5_1.toList)))) else (some false)))) else (some false)))) else (some false))) else (some false)) = some r := H
                have A20 := Aside0.mk A200
                clear A200
                by_cases c21 : t114 = t115
                · rw [if_pos c21] at H
                  have c21b0 : (t114 == t115) = true := beq_iff_eq.mpr c21
                  have c21b1 : (t114 != t115) = false := bne_eq_false_iff_eq.mpr c21
                  clear c21
                  replace H := Option.bind_eq_some_iff.mp H
                  obtain ⟨t116, A220, H⟩ := H
                  replace H : (if t116.toList = x5_1.toList then ((bits_Bytes.f a0).bind fun t117 => ((bits_Bytes.f x5_1).bind fun t118 => (if t117.toList = t118.toList then ((bits_Turn.f a0 (wrap64 (a1))).bind fun t119 => ((bits_Turn.f x5_1 (wrap64 (a1))).bind fun t120 => (if t119.toList = t120.toList then ((bits_Is.f a0).bind fun t121 => (some (t121 == (a0.toList == x5_1.toList)))) else (some false)))) else (some false)))) else (some false)) = some r := H
                  have A22 := Aside0.mk A220
                  clear A220
                  by_cases c23 : t116.toList = x5_1.toList
                  · rw [if_pos c23] at H
                    have c23b0 : (t116.toList == x5_1.toList) = true := beq_iff_eq.mpr c23
                    have c23b1 : (t116.toList != x5_1.toList) = false := bne_eq_false_iff_eq.mpr c23
                    clear c23
                    replace H := Option.bind_eq_some_iff.mp H
                    obtain ⟨t117, A240, H⟩ := H
                    replace H : ((bits_Bytes.f x5_1).bind fun t118 => (if t117.toList = t118.toList then ((bits_Turn.f a0 (wrap64 (a1))).bind fun t119 => ((bits_Turn.f x5_1 (wrap64 (a1))).bind fun t120 => (if t119.toList = t120.toList then ((bits_Is.f a0).bind fun t121 => (some (t121 == (a0.toList == x5_1.toList)))) else (some false)))) else (some false))) = some r := H
                    have A24 := Aside0.mk A240
                    clear A240
                    replace H := Option.bind_eq_some_iff.mp H
                    obtain ⟨t118, A250, H⟩ := H
                    replace H : (if t117.toList = t118.toList then ((bits_Turn.f a0 (wrap64 (a1))).bind fun t119 => ((bits_Turn.f x5_1 (wrap64 (a1))).bind fun t120 => (if t119.toList = t120.toList then ((bits_Is.f a0).bind fun t121 => (some (t121 == (a0.toList == x5_1.toList)))) else (some false)))) else (some false)) = some r := H
                    have A25 := Aside0.mk A250
                    clear A250
                    by_cases c26 : t117.toList = t118.toList
                    · rw [if_pos c26] at H
                      have c26b0 : (t117.toList == t118.toList) = true := beq_iff_eq.mpr c26
                      have c26b1 : (t117.toList != t118.toList) = false := bne_eq_false_iff_eq.mpr c26
                      clear c26
                      replace H := Option.bind_eq_some_iff.mp H
                      obtain ⟨t119, A270, H⟩ := H
                      replace H : ((bits_Turn.f x5_1 (wrap64 (a1))).bind fun t120 => (if t119.toList = t120.toList then ((bits_Is.f a0).bind fun t121 => (some (t121 == (a0.toList == x5_1.toList)))) else (some false))) = some r := H
                      have A27 := Aside0.mk A270
                      clear A270
                      replace H := Option.bind_eq_some_iff.mp H
                      obtain ⟨t120, A280, H⟩ := H
                      replace H : (if t119.toList = t120.toList then ((bits_Is.f a0).bind fun t121 => (some (t121 == (a0.toList == x5_1.toList)))) else (some false)) = some r := H
                      have A28 := Aside0.mk A280
                      clear A280
                      by_cases c29 : t119.toList = t120.toList
                      · rw [if_pos c29] at H
                        have c29b0 : (t119.toList == t120.toList) = true := beq_iff_eq.mpr c29
                        have c29b1 : (t119.toList != t120.toList) = false := bne_eq_false_iff_eq.mpr c29
                        clear c29
                        replace H := Option.bind_eq_some_iff.mp H
                        obtain ⟨t121, A300, H⟩ := H
                        replace H : (some (t121 == (a0.toList == x5_1.toList))) = some r := H
                        have A30 := Aside0.mk A300
                        clear A300
                        obtain rfl := Option.some.inj H
                        go_wp2_with (first | ((with_reducible refine gate_callee (f := 12) rfl ?_); refine goesL_ (some 27) rfl rfl Try.func12 (by kernel_rfl) rfl #[.string x5_1] rfl (by (try simp only [List.map_toArray, List.map_cons, List.map_nil]); first | done | rfl | (simp only [List.length_drop, List.length_take]; rfl)) ?_; (with_reducible refine (bits_Is.calls x5_1 true _ A14.out).mono ?_); rintro e w' ⟨rfl, ⟨nd, rfl⟩⟩; refine ⟨_, rfl, ?_⟩) | (go_at_call 16; (with_reducible refine (bits_Num.calls a0 t112 _ A16.out).mono ?_); rintro e w' ⟨rfl, ⟨nd, rfl⟩⟩) | (go_at_call 16; (with_reducible refine (bits_Num.calls x5_1 t113 _ A17.out).mono ?_); rintro e w' ⟨rfl, ⟨nd, rfl⟩⟩) | (go_at_call 26; (with_reducible refine (bits_CRC.calls a0 t114 _ A19.out).mono ?_); rintro e w' ⟨rfl, ⟨nd, rfl⟩⟩) | (go_at_call 26; (with_reducible refine (bits_CRC.calls x5_1 t115 _ A20.out).mono ?_); rintro e w' ⟨rfl, ⟨nd, rfl⟩⟩) | (go_at_call 18; (with_reducible refine (bits_And.calls a0 a0 t116 _ A22.out).mono ?_); rintro e w31 ⟨rfl, hb⟩; have n0_ := Aside0.mk (below_step (by repeat (first | (with_reducible first | exact HB.out | apply below_alloc | apply pw_below_drewN | apply below_drew1) | exact HB.out)) hb); clear HB; have HB := n0_; clear n0_; (try clear hb); (try clear hb2); (try clear hk); (try clear hi)) | (go_at_call 24; (with_reducible refine (bits_Bytes.calls a0 t117 _ A24.out).mono ?_); rintro e w32 ⟨rfl, hb⟩; have n0_ := Aside0.mk (below_step (by repeat (first | (with_reducible first | exact HB.out | apply below_alloc | apply pw_below_drewN | apply below_drew1) | exact HB.out)) hb); clear HB; have HB := n0_; clear n0_; (try clear hb); (try clear hb2); (try clear hk); (try clear hi)) | (go_at_call 24; (with_reducible refine (bits_Bytes.calls x5_1 t118 _ A25.out).mono ?_); rintro e w33 ⟨rfl, hb⟩; have n0_ := Aside0.mk (below_step (by repeat (first | (with_reducible first | exact HB.out | apply below_alloc | apply pw_below_drewN | apply below_drew1) | exact HB.out)) hb); clear HB; have HB := n0_; clear n0_; (try clear hb); (try clear hb2); (try clear hk); (try clear hi)) | (go_at_call 20; (with_reducible refine (bits_Turn.calls a0 (wrap64 (a1)) t119 _ A27.out).mono ?_); rintro e w34 ⟨rfl, hb⟩; have n0_ := Aside0.mk (below_step (by repeat (first | (with_reducible first | exact HB.out | apply below_alloc | apply pw_below_drewN | apply below_drew1) | exact HB.out)) hb); clear HB; have HB := n0_; clear n0_; (try clear hb); (try clear hb2); (try clear hk); (try clear hi)) | (go_at_call 20; (with_reducible refine (bits_Turn.calls x5_1 (wrap64 (a1)) t120 _ A28.out).mono ?_); rintro e w35 ⟨rfl, hb⟩; have n0_ := Aside0.mk (below_step (by repeat (first | (with_reducible first | exact HB.out | apply below_alloc | apply pw_below_drewN | apply below_drew1) | exact HB.out)) hb); clear HB; have HB := n0_; clear n0_; (try clear hb); (try clear hb2); (try clear hk); (try clear hi)) | (go_at_call 12; (with_reducible refine (bits_Is.calls a0 t121 _ A30.out).mono ?_); rintro e w' ⟨rfl, ⟨nd, rfl⟩⟩))
                        go_ret
                        exact ⟨by first | rfl | (simp [errW_none, errW_some] <;> rfl) | (simp [*, errW_none, errW_some] <;> rfl), by repeat (first | (with_reducible first | exact HB.out | apply below_alloc | apply pw_below_drewN | apply below_drew1) | exact HB.out)⟩
                      · rw [if_neg c29] at H
                        have c29b0 : (t119.toList == t120.toList) = false := beq_eq_false_iff_ne.mpr c29
                        have c29b1 : (t119.toList != t120.toList) = true := bne_iff_ne.mpr c29
                        obtain rfl := Option.some.inj H
                        go_wp2_with (first | ((with_reducible refine gate_callee (f := 12) rfl ?_); refine goesL_ (some 27) rfl rfl Try.func12 (by kernel_rfl) rfl #[.string x5_1] rfl (by (try simp only [List.map_toArray, List.map_cons, List.map_nil]); first | done | rfl | (simp only [List.length_drop, List.length_take]; rfl)) ?_; (with_reducible refine (bits_Is.calls x5_1 true _ A14.out).mono ?_); rintro e w' ⟨rfl, ⟨nd, rfl⟩⟩; refine ⟨_, rfl, ?_⟩) | (go_at_call 16; (with_reducible refine (bits_Num.calls a0 t112 _ A16.out).mono ?_); rintro e w' ⟨rfl, ⟨nd, rfl⟩⟩) | (go_at_call 16; (with_reducible refine (bits_Num.calls x5_1 t113 _ A17.out).mono ?_); rintro e w' ⟨rfl, ⟨nd, rfl⟩⟩) | (go_at_call 26; (with_reducible refine (bits_CRC.calls a0 t114 _ A19.out).mono ?_); rintro e w' ⟨rfl, ⟨nd, rfl⟩⟩) | (go_at_call 26; (with_reducible refine (bits_CRC.calls x5_1 t115 _ A20.out).mono ?_); rintro e w' ⟨rfl, ⟨nd, rfl⟩⟩) | (go_at_call 18; (with_reducible refine (bits_And.calls a0 a0 t116 _ A22.out).mono ?_); rintro e w36 ⟨rfl, hb⟩; have n0_ := Aside0.mk (below_step (by repeat (first | (with_reducible first | exact HB.out | apply below_alloc | apply pw_below_drewN | apply below_drew1) | exact HB.out)) hb); clear HB; have HB := n0_; clear n0_; (try clear hb); (try clear hb2); (try clear hk); (try clear hi)) | (go_at_call 24; (with_reducible refine (bits_Bytes.calls a0 t117 _ A24.out).mono ?_); rintro e w37 ⟨rfl, hb⟩; have n0_ := Aside0.mk (below_step (by repeat (first | (with_reducible first | exact HB.out | apply below_alloc | apply pw_below_drewN | apply below_drew1) | exact HB.out)) hb); clear HB; have HB := n0_; clear n0_; (try clear hb); (try clear hb2); (try clear hk); (try clear hi)) | (go_at_call 24; (with_reducible refine (bits_Bytes.calls x5_1 t118 _ A25.out).mono ?_); rintro e w38 ⟨rfl, hb⟩; have n0_ := Aside0.mk (below_step (by repeat (first | (with_reducible first | exact HB.out | apply below_alloc | apply pw_below_drewN | apply below_drew1) | exact HB.out)) hb); clear HB; have HB := n0_; clear n0_; (try clear hb); (try clear hb2); (try clear hk); (try clear hi)) | (go_at_call 20; (with_reducible refine (bits_Turn.calls a0 (wrap64 (a1)) t119 _ A27.out).mono ?_); rintro e w39 ⟨rfl, hb⟩; have n0_ := Aside0.mk (below_step (by repeat (first | (with_reducible first | exact HB.out | apply below_alloc | apply pw_below_drewN | apply below_drew1) | exact HB.out)) hb); clear HB; have HB := n0_; clear n0_; (try clear hb); (try clear hb2); (try clear hk); (try clear hi)) | (go_at_call 20; (with_reducible refine (bits_Turn.calls x5_1 (wrap64 (a1)) t120 _ A28.out).mono ?_); rintro e w40 ⟨rfl, hb⟩; have n0_ := Aside0.mk (below_step (by repeat (first | (with_reducible first | exact HB.out | apply below_alloc | apply pw_below_drewN | apply below_drew1) | exact HB.out)) hb); clear HB; have HB := n0_; clear n0_; (try clear hb); (try clear hb2); (try clear hk); (try clear hi)))
                        go_ret
                        exact ⟨by first | rfl | (simp [errW_none, errW_some] <;> rfl) | (simp [*, errW_none, errW_some] <;> rfl), by repeat (first | (with_reducible first | exact HB.out | apply below_alloc | apply pw_below_drewN | apply below_drew1) | exact HB.out)⟩
                    · rw [if_neg c26] at H
                      have c26b0 : (t117.toList == t118.toList) = false := beq_eq_false_iff_ne.mpr c26
                      have c26b1 : (t117.toList != t118.toList) = true := bne_iff_ne.mpr c26
                      obtain rfl := Option.some.inj H
                      go_wp2_with (first | ((with_reducible refine gate_callee (f := 12) rfl ?_); refine goesL_ (some 27) rfl rfl Try.func12 (by kernel_rfl) rfl #[.string x5_1] rfl (by (try simp only [List.map_toArray, List.map_cons, List.map_nil]); first | done | rfl | (simp only [List.length_drop, List.length_take]; rfl)) ?_; (with_reducible refine (bits_Is.calls x5_1 true _ A14.out).mono ?_); rintro e w' ⟨rfl, ⟨nd, rfl⟩⟩; refine ⟨_, rfl, ?_⟩) | (go_at_call 16; (with_reducible refine (bits_Num.calls a0 t112 _ A16.out).mono ?_); rintro e w' ⟨rfl, ⟨nd, rfl⟩⟩) | (go_at_call 16; (with_reducible refine (bits_Num.calls x5_1 t113 _ A17.out).mono ?_); rintro e w' ⟨rfl, ⟨nd, rfl⟩⟩) | (go_at_call 26; (with_reducible refine (bits_CRC.calls a0 t114 _ A19.out).mono ?_); rintro e w' ⟨rfl, ⟨nd, rfl⟩⟩) | (go_at_call 26; (with_reducible refine (bits_CRC.calls x5_1 t115 _ A20.out).mono ?_); rintro e w' ⟨rfl, ⟨nd, rfl⟩⟩) | (go_at_call 18; (with_reducible refine (bits_And.calls a0 a0 t116 _ A22.out).mono ?_); rintro e w41 ⟨rfl, hb⟩; have n0_ := Aside0.mk (below_step (by repeat (first | (with_reducible first | exact HB.out | apply below_alloc | apply pw_below_drewN | apply below_drew1) | exact HB.out)) hb); clear HB; have HB := n0_; clear n0_; (try clear hb); (try clear hb2); (try clear hk); (try clear hi)) | (go_at_call 24; (with_reducible refine (bits_Bytes.calls a0 t117 _ A24.out).mono ?_); rintro e w42 ⟨rfl, hb⟩; have n0_ := Aside0.mk (below_step (by repeat (first | (with_reducible first | exact HB.out | apply below_alloc | apply pw_below_drewN | apply below_drew1) | exact HB.out)) hb); clear HB; have HB := n0_; clear n0_; (try clear hb); (try clear hb2); (try clear hk); (try clear hi)) | (go_at_call 24; (with_reducible refine (bits_Bytes.calls x5_1 t118 _ A25.out).mono ?_); rintro e w43 ⟨rfl, hb⟩; have n0_ := Aside0.mk (below_step (by repeat (first | (with_reducible first | exact HB.out | apply below_alloc | apply pw_below_drewN | apply below_drew1) | exact HB.out)) hb); clear HB; have HB := n0_; clear n0_; (try clear hb); (try clear hb2); (try clear hk); (try clear hi)))
                      go_ret
                      exact ⟨by first | rfl | (simp [errW_none, errW_some] <;> rfl) | (simp [*, errW_none, errW_some] <;> rfl), by repeat (first | (with_reducible first | exact HB.out | apply below_alloc | apply pw_below_drewN | apply below_drew1) | exact HB.out)⟩
                  · rw [if_neg c23] at H
                    have c23b0 : (t116.toList == x5_1.toList) = false := beq_eq_false_iff_ne.mpr c23
                    have c23b1 : (t116.toList != x5_1.toList) = true := bne_iff_ne.mpr c23
                    obtain rfl := Option.some.inj H
                    go_wp2_with (first | ((with_reducible refine gate_callee (f := 12) rfl ?_); refine goesL_ (some 27) rfl rfl Try.func12 (by kernel_rfl) rfl #[.string x5_1] rfl (by (try simp only [List.map_toArray, List.map_cons, List.map_nil]); first | done | rfl | (simp only [List.length_drop, List.length_take]; rfl)) ?_; (with_reducible refine (bits_Is.calls x5_1 true _ A14.out).mono ?_); rintro e w' ⟨rfl, ⟨nd, rfl⟩⟩; refine ⟨_, rfl, ?_⟩) | (go_at_call 16; (with_reducible refine (bits_Num.calls a0 t112 _ A16.out).mono ?_); rintro e w' ⟨rfl, ⟨nd, rfl⟩⟩) | (go_at_call 16; (with_reducible refine (bits_Num.calls x5_1 t113 _ A17.out).mono ?_); rintro e w' ⟨rfl, ⟨nd, rfl⟩⟩) | (go_at_call 26; (with_reducible refine (bits_CRC.calls a0 t114 _ A19.out).mono ?_); rintro e w' ⟨rfl, ⟨nd, rfl⟩⟩) | (go_at_call 26; (with_reducible refine (bits_CRC.calls x5_1 t115 _ A20.out).mono ?_); rintro e w' ⟨rfl, ⟨nd, rfl⟩⟩) | (go_at_call 18; (with_reducible refine (bits_And.calls a0 a0 t116 _ A22.out).mono ?_); rintro e w44 ⟨rfl, hb⟩; have n0_ := Aside0.mk (below_step (by repeat (first | (with_reducible first | exact HB.out | apply below_alloc | apply pw_below_drewN | apply below_drew1) | exact HB.out)) hb); clear HB; have HB := n0_; clear n0_; (try clear hb); (try clear hb2); (try clear hk); (try clear hi)))
                    go_ret
                    exact ⟨by first | rfl | (simp [errW_none, errW_some] <;> rfl) | (simp [*, errW_none, errW_some] <;> rfl), by repeat (first | (with_reducible first | exact HB.out | apply below_alloc | apply pw_below_drewN | apply below_drew1) | exact HB.out)⟩
                · rw [if_neg c21] at H
                  have c21b0 : (t114 == t115) = false := beq_eq_false_iff_ne.mpr c21
                  have c21b1 : (t114 != t115) = true := bne_iff_ne.mpr c21
                  obtain rfl := Option.some.inj H
                  go_wp2_with (first | ((with_reducible refine gate_callee (f := 12) rfl ?_); refine goesL_ (some 27) rfl rfl Try.func12 (by kernel_rfl) rfl #[.string x5_1] rfl (by (try simp only [List.map_toArray, List.map_cons, List.map_nil]); first | done | rfl | (simp only [List.length_drop, List.length_take]; rfl)) ?_; (with_reducible refine (bits_Is.calls x5_1 true _ A14.out).mono ?_); rintro e w' ⟨rfl, ⟨nd, rfl⟩⟩; refine ⟨_, rfl, ?_⟩) | (go_at_call 16; (with_reducible refine (bits_Num.calls a0 t112 _ A16.out).mono ?_); rintro e w' ⟨rfl, ⟨nd, rfl⟩⟩) | (go_at_call 16; (with_reducible refine (bits_Num.calls x5_1 t113 _ A17.out).mono ?_); rintro e w' ⟨rfl, ⟨nd, rfl⟩⟩) | (go_at_call 26; (with_reducible refine (bits_CRC.calls a0 t114 _ A19.out).mono ?_); rintro e w' ⟨rfl, ⟨nd, rfl⟩⟩) | (go_at_call 26; (with_reducible refine (bits_CRC.calls x5_1 t115 _ A20.out).mono ?_); rintro e w' ⟨rfl, ⟨nd, rfl⟩⟩))
                  go_ret
                  exact ⟨by first | rfl | (simp [errW_none, errW_some] <;> rfl) | (simp [*, errW_none, errW_some] <;> rfl), by repeat (first | (with_reducible first | exact HB.out | apply below_alloc | apply pw_below_drewN | apply below_drew1) | exact HB.out)⟩
              · rw [if_neg c18] at H
                have c18b0 : (t112 == t113) = false := beq_eq_false_iff_ne.mpr c18
                have c18b1 : (t112 != t113) = true := bne_iff_ne.mpr c18
                obtain rfl := Option.some.inj H
                go_wp2_with (first | ((with_reducible refine gate_callee (f := 12) rfl ?_); refine goesL_ (some 27) rfl rfl Try.func12 (by kernel_rfl) rfl #[.string x5_1] rfl (by (try simp only [List.map_toArray, List.map_cons, List.map_nil]); first | done | rfl | (simp only [List.length_drop, List.length_take]; rfl)) ?_; (with_reducible refine (bits_Is.calls x5_1 true _ A14.out).mono ?_); rintro e w' ⟨rfl, ⟨nd, rfl⟩⟩; refine ⟨_, rfl, ?_⟩) | (go_at_call 16; (with_reducible refine (bits_Num.calls a0 t112 _ A16.out).mono ?_); rintro e w' ⟨rfl, ⟨nd, rfl⟩⟩) | (go_at_call 16; (with_reducible refine (bits_Num.calls x5_1 t113 _ A17.out).mono ?_); rintro e w' ⟨rfl, ⟨nd, rfl⟩⟩))
                go_ret
                exact ⟨by first | rfl | (simp [errW_none, errW_some] <;> rfl) | (simp [*, errW_none, errW_some] <;> rfl), by repeat (first | (with_reducible first | exact HB.out | apply below_alloc | apply pw_below_drewN | apply below_drew1) | exact HB.out)⟩
            · replace c15 := Bool.eq_false_iff.mpr c15
              subst c15
              have H1 : (some false) = some r := by rw [if_neg (show ¬ (false = true) by decide)] at H; exact H
              clear H
              have H := H1
              clear H1
              obtain rfl := Option.some.inj H
              go_wp2_with (first | ((with_reducible refine gate_callee (f := 12) rfl ?_); refine goesL_ (some 27) rfl rfl Try.func12 (by kernel_rfl) rfl #[.string x5_1] rfl (by (try simp only [List.map_toArray, List.map_cons, List.map_nil]); first | done | rfl | (simp only [List.length_drop, List.length_take]; rfl)) ?_; (with_reducible refine (bits_Is.calls x5_1 false _ A14.out).mono ?_); rintro e w' ⟨rfl, ⟨nd, rfl⟩⟩; refine ⟨_, rfl, ?_⟩))
              go_ret
              exact ⟨by first | rfl | (simp [errW_none, errW_some] <;> rfl) | (simp [*, errW_none, errW_some] <;> rfl), by repeat (first | (with_reducible first | exact HB.out | apply below_alloc | apply pw_below_drewN | apply below_drew1) | exact HB.out)⟩
  · replace c4 := Bool.eq_false_iff.mpr c4
    subst c4
    have H1 : (some false) = some r := by rw [if_neg (show ¬ (false = true) by decide)] at H; exact H
    clear H
    have H := H1
    clear H1
    obtain rfl := Option.some.inj H
    go_enter Try.func10, Try.ntmps10
    go_wp2_with (first | ((with_reducible refine gate_callee (f := 11) rfl ?_); refine goesL_ (some 7) rfl rfl Try.func11 (by kernel_rfl) rfl #[] rfl (by (try simp only [List.map_toArray, List.map_cons, List.map_nil]); first | done | rfl | (simp only [List.length_drop, List.length_take]; rfl)) ?_; (with_reducible refine (ostinatolaw1_known.calls  false _ A3.out).mono ?_); rintro e w45 ⟨rfl, hb⟩; refine ⟨_, rfl, ?_⟩; have n0_ := Aside0.mk (below_step (by repeat (first | (with_reducible first | exact HB.out | apply below_alloc | apply pw_below_drewN | apply below_drew1) | exact HB.out)) hb); clear HB; have HB := n0_; clear n0_; (try clear hb); (try clear hb2); (try clear hk); (try clear hi)))
    go_ret
    exact ⟨by first | rfl | (simp [errW_none, errW_some] <;> rfl) | (simp [*, errW_none, errW_some] <;> rfl), by repeat (first | (with_reducible first | exact HB.out | apply below_alloc | apply pw_below_drewN | apply below_drew1) | exact HB.out)⟩

/-- THE ONE PURE STATEMENT of ostinatolaw1_BitsAll: yours. -/
def ostinatolaw1_BitsAll.Pure : Prop := ∀ (a0 : ByteArray) (a1 : Int), a0.size ≤ 140737488351232 → (Lit.int .u8 a1).wf = true → ∃ k, ostinatolaw1_BitsAll.f k a0 a1 = some true
theorem ostinatolaw1_BitsAll.walk (P : ostinatolaw1_BitsAll.Pure) (a0 : ByteArray) (a1 : Int) (w : World) (w0 : a0.size ≤ 140737488351232) (w1 : (Lit.int .u8 a1).wf = true) :
    Calls Try.prog 10 #[.string a0, .int .u8 a1] w fun e w' => e = .returned (.bool true) ∧ Below w.heap.size w w' := by
  obtain ⟨k, h⟩ := P a0 a1 w0 w1
  refine (ostinatolaw1_BitsAll.calls k a0 a1 true w h).mono ?_
  rintro e w' ⟨rfl, hd⟩
  exact ⟨rfl, hd⟩

end Go.Proofs.Ytpmbapefchffjaa.QBitsAll
