-- Written by a program out of the translation, over contracts proved by hand.
import Derived.Test.YtpmbapefchffjaaQBitsTellx0
namespace Go.Proofs.Ytpmbapefchffjaa.QBitsTell
open Go.RowKit Go.Proofs.Ytpmbapefchffjaa.Plug Go.Proofs.YtpmbapefchffjaaW.PrintWords Go.Proofs.YtpmbapefchffjaaW.PrintLast Go.Proofs.YtpmbapefchffjaaW.PrintMore
attribute [local go_sem] max2_int min2_int max_two min_two max_three min_three max_four min_four   -- for this text's walks alone
set_option linter.unusedVariables false
set_option linter.unusedSimpArgs false

/-! ### ostinatolaw1_known: function 11 -/
def ostinatolaw1_known.f  : Option (Bool) := (bits_CRC.f (⟨#[49]⟩ : ByteArray)).bind fun t101 => (if t101 = 17817 then ((bits_Of.f 5 4).bind fun t102 => (if t102.toList = ([48, 49, 48, 49] : List UInt8) then ((bits_Num.f (⟨#[48, 49, 48, 49]⟩ : ByteArray)).bind fun t103 => (if t103 = 5 then ((bits_And.f (⟨#[49, 49, 48]⟩ : ByteArray) (⟨#[49, 48]⟩ : ByteArray)).bind fun t104 => (if t104.toList = ([49, 48] : List UInt8) then ((bits_Turn.f (⟨#[48, 48]⟩ : ByteArray) 1).bind fun t105 => (if t105.toList = ([48, 49] : List UInt8) then ((bits_FromBytes.f (⟨#[15]⟩ : ByteArray)).bind fun t106 => (if t106.toList = ([48, 48, 48, 48, 49, 49, 49, 49] : List UInt8) then ((bits_Bytes.f (⟨#[48, 48, 48, 48, 49, 49, 49, 49, 49]⟩ : ByteArray)).bind fun t107 => (if t107.toList = ([15] : List UInt8) then ((bits_Is.f (⟨#[48, 49]⟩ : ByteArray)).bind fun t108 => (if t108 = true then ((bits_Is.f (⟨#[50]⟩ : ByteArray)).bind fun t109 => (some (!t109))) else (some false))) else (some false))) else (some false))) else (some false))) else (some false))) else (some false))) else (some false))) else (some false))
set_option maxHeartbeats 8000000 in
set_option maxRecDepth 100000 in
theorem ostinatolaw1_known.calls  (r : Bool) (w : World) (h : ostinatolaw1_known.f  = some r) :
    Calls Try.prog 11 #[] w fun e w' => e = .returned (.bool r) ∧ Below w.heap.size w w' := by
  have HB := Aside0.mk (Below.refl w.heap.size w)
  have H : ((bits_CRC.f (⟨#[49]⟩ : ByteArray)).bind fun t101 => (if t101 = 17817 then ((bits_Of.f 5 4).bind fun t102 => (if t102.toList = ([48, 49, 48, 49] : List UInt8) then ((bits_Num.f (⟨#[48, 49, 48, 49]⟩ : ByteArray)).bind fun t103 => (if t103 = 5 then ((bits_And.f (⟨#[49, 49, 48]⟩ : ByteArray) (⟨#[49, 48]⟩ : ByteArray)).bind fun t104 => (if t104.toList = ([49, 48] : List UInt8) then ((bits_Turn.f (⟨#[48, 48]⟩ : ByteArray) 1).bind fun t105 => (if t105.toList = ([48, 49] : List UInt8) then ((bits_FromBytes.f (⟨#[15]⟩ : ByteArray)).bind fun t106 => (if t106.toList = ([48, 48, 48, 48, 49, 49, 49, 49] : List UInt8) then ((bits_Bytes.f (⟨#[48, 48, 48, 48, 49, 49, 49, 49, 49]⟩ : ByteArray)).bind fun t107 => (if t107.toList = ([15] : List UInt8) then ((bits_Is.f (⟨#[48, 49]⟩ : ByteArray)).bind fun t108 => (if t108 = true then ((bits_Is.f (⟨#[50]⟩ : ByteArray)).bind fun t109 => (some (!t109))) else (some false))) else (some false))) else (some false))) else (some false))) else (some false))) else (some false))) else (some false))) else (some false))) = some r := h
  clear h
  replace H := Option.bind_eq_some_iff.mp H
  obtain ⟨t101, A10, H⟩ := H
  replace H : (if t101 = 17817 then ((bits_Of.f 5 4).bind fun t102 => (if t102.toList = ([48, 49, 48, 49] : List UInt8) then ((bits_Num.f (⟨#[48, 49, 48, 49]⟩ : ByteArray)).bind fun t103 => (if t103 = 5 then ((bits_And.f (⟨#[49, 49, 48]⟩ : ByteArray) (⟨#[49, 48]⟩ : ByteArray)).bind fun t104 => (if t104.toList = ([49, 48] : List UInt8) then ((bits_Turn.f (⟨#[48, 48]⟩ : ByteArray) 1).bind fun t105 => (if t105.toList = ([48, 49] : List UInt8) then ((bits_FromBytes.f (⟨#[15]⟩ : ByteArray)).bind fun t106 => (if t106.toList = ([48, 48, 48, 48, 49, 49, 49, 49] : List UInt8) then ((bits_Bytes.f (⟨#[48, 48, 48, 48, 49, 49, 49, 49, 49]⟩ : ByteArray)).bind fun t107 => (if t107.toList = ([15] : List UInt8) then ((bits_Is.f (⟨#[48, 49]⟩ : ByteArray)).bind fun t108 => (if t108 = true then ((bits_Is.f (⟨#[50]⟩ : ByteArray)).bind fun t109 => (some (!t109))) else (some false))) else (some false))) else (some false))) else (some false))) else (some false))) else (some false))) else (some false))) else (some false)) = some r := H
  have A1 := Aside0.mk A10
  clear A10
  by_cases c2 : t101 = 17817
  · rw [if_pos c2] at H
    have c2b0 : (t101 == 17817) = true := beq_iff_eq.mpr c2
    have c2b1 : (t101 != 17817) = false := bne_eq_false_iff_eq.mpr c2
    clear c2
    replace H := Option.bind_eq_some_iff.mp H
    obtain ⟨t102, A30, H⟩ := H
    replace H : (if t102.toList = ([48, 49, 48, 49] : List UInt8) then ((bits_Num.f (⟨#[48, 49, 48, 49]⟩ : ByteArray)).bind fun t103 => (if t103 = 5 then ((bits_And.f (⟨#[49, 49, 48]⟩ : ByteArray) (⟨#[49, 48]⟩ : ByteArray)).bind fun t104 => (if t104.toList = ([49, 48] : List UInt8) then ((bits_Turn.f (⟨#[48, 48]⟩ : ByteArray) 1).bind fun t105 => (if t105.toList = ([48, 49] : List UInt8) then ((bits_FromBytes.f (⟨#[15]⟩ : ByteArray)).bind fun t106 => (if t106.toList = ([48, 48, 48, 48, 49, 49, 49, 49] : List UInt8) then ((bits_Bytes.f (⟨#[48, 48, 48, 48, 49, 49, 49, 49, 49]⟩ : ByteArray)).bind fun t107 => (if t107.toList = ([15] : List UInt8) then ((bits_Is.f (⟨#[48, 49]⟩ : ByteArray)).bind fun t108 => (if t108 = true then ((bits_Is.f (⟨#[50]⟩ : ByteArray)).bind fun t109 => (some (!t109))) else (some false))) else (some false))) else (some false))) else (some false))) else (some false))) else (some false))) else (some false)) = some r := H
    have A3 := Aside0.mk A30
    clear A30
    by_cases c4 : t102.toList = ([48, 49, 48, 49] : List UInt8)
    · rw [if_pos c4] at H
      have c4b0 : (t102.toList == ([48, 49, 48, 49] : List UInt8)) = true := beq_iff_eq.mpr c4
      have c4b1 : (t102.toList != ([48, 49, 48, 49] : List UInt8)) = false := bne_eq_false_iff_eq.mpr c4
      clear c4
      replace H := Option.bind_eq_some_iff.mp H
      obtain ⟨t103, A50, H⟩ := H
      replace H : (if t103 = 5 then ((bits_And.f (⟨#[49, 49, 48]⟩ : ByteArray) (⟨#[49, 48]⟩ : ByteArray)).bind fun t104 => (if t104.toList = ([49, 48] : List UInt8) then ((bits_Turn.f (⟨#[48, 48]⟩ : ByteArray) 1).bind fun t105 => (if t105.toList = ([48, 49] : List UInt8) then ((bits_FromBytes.f (⟨#[15]⟩ : ByteArray)).bind fun t106 => (if t106.toList = ([48, 48, 48, 48, 49, 49, 49, 49] : List UInt8) then ((bits_Bytes.f (⟨#[48, 48, 48, 48, 49, 49, 49, 49, 49]⟩ : ByteArray)).bind fun t107 => (if t107.toList = ([15] : List UInt8) then ((bits_Is.f (⟨#[48, 49]⟩ : ByteArray)).bind fun t108 => (if t108 = true then ((bits_Is.f (⟨#[50]⟩ : ByteArray)).bind fun t109 => (some (!t109))) else (some false))) else (some false))) else (some false))) else (some false))) else (some false))) else (some false)) = some r := H
      have A5 := Aside0.mk A50
      clear A50
      by_cases c6 : t103 = 5
      · rw [if_pos c6] at H
        have c6b0 : (t103 == 5) = true := beq_iff_eq.mpr c6
        have c6b1 : (t103 != 5) = false := bne_eq_false_iff_eq.mpr c6
        clear c6
        replace H := Option.bind_eq_some_iff.mp H
        obtain ⟨t104, A70, H⟩ := H
        replace H : (if t104.toList = ([49, 48] : List UInt8) then ((bits_Turn.f (⟨#[48, 48]⟩ : ByteArray) 1).bind fun t105 => (if t105.toList = ([48, 49] : List UInt8) then ((bits_FromBytes.f (⟨#[15]⟩ : ByteArray)).bind fun t106 => (if t106.toList = ([48, 48, 48, 48, 49, 49, 49, 49] : List UInt8) then ((bits_Bytes.f (⟨#[48, 48, 48, 48, 49, 49, 49, 49, 49]⟩ : ByteArray)).bind fun t107 => (if t107.toList = ([15] : List UInt8) then ((bits_Is.f (⟨#[48, 49]⟩ : ByteArray)).bind fun t108 => (if t108 = true then ((bits_Is.f (⟨#[50]⟩ : ByteArray)).bind fun t109 => (some (!t109))) else (some false))) else (some false))) else (some false))) else (some false))) else (some false)) = some r := H
        have A7 := Aside0.mk A70
        clear A70
        by_cases c8 : t104.toList = ([49, 48] : List UInt8)
        · rw [if_pos c8] at H
          have c8b0 : (t104.toList == ([49, 48] : List UInt8)) = true := beq_iff_eq.mpr c8
          have c8b1 : (t104.toList != ([49, 48] : List UInt8)) = false := bne_eq_false_iff_eq.mpr c8
          clear c8
          replace H := Option.bind_eq_some_iff.mp H
          obtain ⟨t105, A90, H⟩ := H
          replace H : (if t105.toList = ([48, 49] : List UInt8) then ((bits_FromBytes.f (⟨#[15]⟩ : ByteArray)).bind fun t106 => (if t106.toList = ([48, 48, 48, 48, 49, 49, 49, 49] : List UInt8) then ((bits_Bytes.f (⟨#[48, 48, 48, 48, 49, 49, 49, 49, 49]⟩ : ByteArray)).bind fun t107 => (if t107.toList = ([15] : List UInt8) then ((bits_Is.f (⟨#[48, 49]⟩ : ByteArray)).bind fun t108 => (if t108 = true then ((bits_Is.f (⟨#[50]⟩ : ByteArray)).bind fun t109 => (some (!t109))) else (some false))) else (some false))) else (some false))) else (some false)) = some r := H
          have A9 := Aside0.mk A90
          clear A90
          by_cases c10 : t105.toList = ([48, 49] : List UInt8)
          · rw [if_pos c10] at H
            have c10b0 : (t105.toList == ([48, 49] : List UInt8)) = true := beq_iff_eq.mpr c10
            have c10b1 : (t105.toList != ([48, 49] : List UInt8)) = false := bne_eq_false_iff_eq.mpr c10
            clear c10
            replace H := Option.bind_eq_some_iff.mp H
            obtain ⟨t106, A110, H⟩ := H
            replace H : (if t106.toList = ([48, 48, 48, 48, 49, 49, 49, 49] : List UInt8) then ((bits_Bytes.f (⟨#[48, 48, 48, 48, 49, 49, 49, 49, 49]⟩ : ByteArray)).bind fun t107 => (if t107.toList = ([15] : List UInt8) then ((bits_Is.f (⟨#[48, 49]⟩ : ByteArray)).bind fun t108 => (if t108 = true then ((bits_Is.f (⟨#[50]⟩ : ByteArray)).bind fun t109 => (some (!t109))) else (some false))) else (some false))) else (some false)) = some r := H
            have A11 := Aside0.mk A110
            clear A110
            by_cases c12 : t106.toList = ([48, 48, 48, 48, 49, 49, 49, 49] : List UInt8)
            · rw [if_pos c12] at H
              have c12b0 : (t106.toList == ([48, 48, 48, 48, 49, 49, 49, 49] : List UInt8)) = true := beq_iff_eq.mpr c12
              have c12b1 : (t106.toList != ([48, 48, 48, 48, 49, 49, 49, 49] : List UInt8)) = false := bne_eq_false_iff_eq.mpr c12
              clear c12
              replace H := Option.bind_eq_some_iff.mp H
              obtain ⟨t107, A130, H⟩ := H
              replace H : (if t107.toList = ([15] : List UInt8) then ((bits_Is.f (⟨#[48, 49]⟩ : ByteArray)).bind fun t108 => (if t108 = true then ((bits_Is.f (⟨#[50]⟩ : ByteArray)).bind fun t109 => (some (!t109))) else (some false))) else (some false)) = some r := H
              have A13 := Aside0.mk A130
              clear A130
              by_cases c14 : t107.toList = ([15] : List UInt8)
              · rw [if_pos c14] at H
                have c14b0 : (t107.toList == ([15] : List UInt8)) = true := beq_iff_eq.mpr c14
                have c14b1 : (t107.toList != ([15] : List UInt8)) = false := bne_eq_false_iff_eq.mpr c14
                clear c14
                replace H := Option.bind_eq_some_iff.mp H
                obtain ⟨t108, A150, H⟩ := H
                replace H : (if t108 = true then ((bits_Is.f (⟨#[50]⟩ : ByteArray)).bind fun t109 => (some (!t109))) else (some false)) = some r := H
                have A15 := Aside0.mk A150
                clear A150
                by_cases c16 : t108 = true
                · subst c16
                  have H1 : ((bits_Is.f (⟨#[50]⟩ : ByteArray)).bind fun t109 => (some (!t109))) = some r := by rw [if_pos rfl] at H; exact H
                  clear H
                  have H := H1
                  clear H1
                  replace H := Option.bind_eq_some_iff.mp H
                  obtain ⟨t109, A170, H⟩ := H
                  replace H : (some (!t109)) = some r := H
                  have A17 := Aside0.mk A170
                  clear A170
                  obtain rfl := Option.some.inj H
                  go_enter Try.func11, Try.ntmps11
                  go_wp2_with (first | ((with_reducible refine gate_callee (f := 26) rfl ?_); refine goesL_ (some 1) rfl rfl Try.func26 (by kernel_rfl) rfl #[.string (⟨#[49]⟩ : ByteArray)] rfl (by (try simp only [List.map_toArray, List.map_cons, List.map_nil]); first | done | rfl | (simp only [List.length_drop, List.length_take]; rfl)) ?_; (with_reducible refine (bits_CRC.calls (⟨#[49]⟩ : ByteArray) t101 _ A1.out).mono ?_); rintro e w' ⟨rfl, ⟨nd, rfl⟩⟩; refine ⟨_, rfl, ?_⟩) | (go_at_call 14; (with_reducible refine (bits_Of.calls 5 4 t102 _ A3.out).mono ?_); rintro e w18 ⟨rfl, hb⟩; have n0_ := Aside0.mk (below_step (by repeat (first | (with_reducible first | exact HB.out | apply below_alloc | apply pw_below_drewN | apply below_drew1) | exact HB.out)) hb); clear HB; have HB := n0_; clear n0_; (try clear hb); (try clear hb2); (try clear hk); (try clear hi)) | (go_at_call 16; (with_reducible refine (bits_Num.calls (⟨#[48, 49, 48, 49]⟩ : ByteArray) t103 _ A5.out).mono ?_); rintro e w' ⟨rfl, ⟨nd, rfl⟩⟩) | (go_at_call 18; (with_reducible refine (bits_And.calls (⟨#[49, 49, 48]⟩ : ByteArray) (⟨#[49, 48]⟩ : ByteArray) t104 _ A7.out).mono ?_); rintro e w19 ⟨rfl, hb⟩; have n0_ := Aside0.mk (below_step (by repeat (first | (with_reducible first | exact HB.out | apply below_alloc | apply pw_below_drewN | apply below_drew1) | exact HB.out)) hb); clear HB; have HB := n0_; clear n0_; (try clear hb); (try clear hb2); (try clear hk); (try clear hi)) | (go_at_call 20; (with_reducible refine (bits_Turn.calls (⟨#[48, 48]⟩ : ByteArray) 1 t105 _ A9.out).mono ?_); rintro e w20 ⟨rfl, hb⟩; have n0_ := Aside0.mk (below_step (by repeat (first | (with_reducible first | exact HB.out | apply below_alloc | apply pw_below_drewN | apply below_drew1) | exact HB.out)) hb); clear HB; have HB := n0_; clear n0_; (try clear hb); (try clear hb2); (try clear hk); (try clear hi)) | (go_at_call 22; (with_reducible refine (bits_FromBytes.calls (⟨#[15]⟩ : ByteArray) t106 _ A11.out).mono ?_); rintro e w21 ⟨rfl, hb⟩; have n0_ := Aside0.mk (below_step (by repeat (first | (with_reducible first | exact HB.out | apply below_alloc | apply pw_below_drewN | apply below_drew1) | exact HB.out)) hb); clear HB; have HB := n0_; clear n0_; (try clear hb); (try clear hb2); (try clear hk); (try clear hi)) | (go_at_call 24; (with_reducible refine (bits_Bytes.calls (⟨#[48, 48, 48, 48, 49, 49, 49, 49, 49]⟩ : ByteArray) t107 _ A13.out).mono ?_); rintro e w22 ⟨rfl, hb⟩; have n0_ := Aside0.mk (below_step (by repeat (first | (with_reducible first | exact HB.out | apply below_alloc | apply pw_below_drewN | apply below_drew1) | exact HB.out)) hb); clear HB; have HB := n0_; clear n0_; (try clear hb); (try clear hb2); (try clear hk); (try clear hi)) | (go_at_call 12; (with_reducible refine (bits_Is.calls (⟨#[48, 49]⟩ : ByteArray) true _ A15.out).mono ?_); rintro e w' ⟨rfl, ⟨nd, rfl⟩⟩) | (go_at_call 12; (with_reducible refine (bits_Is.calls (⟨#[50]⟩ : ByteArray) t109 _ A17.out).mono ?_); rintro e w' ⟨rfl, ⟨nd, rfl⟩⟩))
                  go_ret
                  exact ⟨by first | rfl | (simp [errW_none, errW_some] <;> rfl) | (simp [*, errW_none, errW_some] <;> rfl), by repeat (first | (with_reducible first | exact HB.out | apply below_alloc | apply pw_below_drewN | apply below_drew1) | exact HB.out)⟩
                · replace c16 := Bool.eq_false_iff.mpr c16
                  subst c16
                  have H1 : (some false) = some r := by rw [if_neg (show ¬ (false = true) by decide)] at H; exact H
                  clear H
                  have H := H1
                  clear H1
                  obtain rfl := Option.some.inj H
                  go_enter Try.func11, Try.ntmps11
                  go_wp2_with (first | ((with_reducible refine gate_callee (f := 26) rfl ?_); refine goesL_ (some 1) rfl rfl Try.func26 (by kernel_rfl) rfl #[.string (⟨#[49]⟩ : ByteArray)] rfl (by (try simp only [List.map_toArray, List.map_cons, List.map_nil]); first | done | rfl | (simp only [List.length_drop, List.length_take]; rfl)) ?_; (with_reducible refine (bits_CRC.calls (⟨#[49]⟩ : ByteArray) t101 _ A1.out).mono ?_); rintro e w' ⟨rfl, ⟨nd, rfl⟩⟩; refine ⟨_, rfl, ?_⟩) | (go_at_call 14; (with_reducible refine (bits_Of.calls 5 4 t102 _ A3.out).mono ?_); rintro e w23 ⟨rfl, hb⟩; have n0_ := Aside0.mk (below_step (by repeat (first | (with_reducible first | exact HB.out | apply below_alloc | apply pw_below_drewN | apply below_drew1) | exact HB.out)) hb); clear HB; have HB := n0_; clear n0_; (try clear hb); (try clear hb2); (try clear hk); (try clear hi)) | (go_at_call 16; (with_reducible refine (bits_Num.calls (⟨#[48, 49, 48, 49]⟩ : ByteArray) t103 _ A5.out).mono ?_); rintro e w' ⟨rfl, ⟨nd, rfl⟩⟩) | (go_at_call 18; (with_reducible refine (bits_And.calls (⟨#[49, 49, 48]⟩ : ByteArray) (⟨#[49, 48]⟩ : ByteArray) t104 _ A7.out).mono ?_); rintro e w24 ⟨rfl, hb⟩; have n0_ := Aside0.mk (below_step (by repeat (first | (with_reducible first | exact HB.out | apply below_alloc | apply pw_below_drewN | apply below_drew1) | exact HB.out)) hb); clear HB; have HB := n0_; clear n0_; (try clear hb); (try clear hb2); (try clear hk); (try clear hi)) | (go_at_call 20; (with_reducible refine (bits_Turn.calls (⟨#[48, 48]⟩ : ByteArray) 1 t105 _ A9.out).mono ?_); rintro e w25 ⟨rfl, hb⟩; have n0_ := Aside0.mk (below_step (by repeat (first | (with_reducible first | exact HB.out | apply below_alloc | apply pw_below_drewN | apply below_drew1) | exact HB.out)) hb); clear HB; have HB := n0_; clear n0_; (try clear hb); (try clear hb2); (try clear hk); (try clear hi)) | (go_at_call 22; (with_reducible refine (bits_FromBytes.calls (⟨#[15]⟩ : ByteArray) t106 _ A11.out).mono ?_); rintro e w26 ⟨rfl, hb⟩; have n0_ := Aside0.mk (below_step (by repeat (first | (with_reducible first | exact HB.out | apply below_alloc | apply pw_below_drewN | apply below_drew1) | exact HB.out)) hb); clear HB; have HB := n0_; clear n0_; (try clear hb); (try clear hb2); (try clear hk); (try clear hi)) | (go_at_call 24; (with_reducible refine (bits_Bytes.calls (⟨#[48, 48, 48, 48, 49, 49, 49, 49, 49]⟩ : ByteArray) t107 _ A13.out).mono ?_); rintro e w27 ⟨rfl, hb⟩; have n0_ := Aside0.mk (below_step (by repeat (first | (with_reducible first | exact HB.out | apply below_alloc | apply pw_below_drewN | apply below_drew1) | exact HB.out)) hb); clear HB; have HB := n0_; clear n0_; (try clear hb); (try clear hb2); (try clear hk); (try clear hi)) | (go_at_call 12; (with_reducible refine (bits_Is.calls (⟨#[48, 49]⟩ : ByteArray) false _ A15.out).mono ?_); rintro e w' ⟨rfl, ⟨nd, rfl⟩⟩))
                  go_ret
                  exact ⟨by first | rfl | (simp [errW_none, errW_some] <;> rfl) | (simp [*, errW_none, errW_some] <;> rfl), by repeat (first | (with_reducible first | exact HB.out | apply below_alloc | apply pw_below_drewN | apply below_drew1) | exact HB.out)⟩
              · rw [if_neg c14] at H
                have c14b0 : (t107.toList == ([15] : List UInt8)) = false := beq_eq_false_iff_ne.mpr c14
                have c14b1 : (t107.toList != ([15] : List UInt8)) = true := bne_iff_ne.mpr c14
                obtain rfl := Option.some.inj H
                go_enter Try.func11, Try.ntmps11
                go_wp2_with (first | ((with_reducible refine gate_callee (f := 26) rfl ?_); refine goesL_ (some 1) rfl rfl Try.func26 (by kernel_rfl) rfl #[.string (⟨#[49]⟩ : ByteArray)] rfl (by (try simp only [List.map_toArray, List.map_cons, List.map_nil]); first | done | rfl | (simp only [List.length_drop, List.length_take]; rfl)) ?_; (with_reducible refine (bits_CRC.calls (⟨#[49]⟩ : ByteArray) t101 _ A1.out).mono ?_); rintro e w' ⟨rfl, ⟨nd, rfl⟩⟩; refine ⟨_, rfl, ?_⟩) | (go_at_call 14; (with_reducible refine (bits_Of.calls 5 4 t102 _ A3.out).mono ?_); rintro e w28 ⟨rfl, hb⟩; have n0_ := Aside0.mk (below_step (by repeat (first | (with_reducible first | exact HB.out | apply below_alloc | apply pw_below_drewN | apply below_drew1) | exact HB.out)) hb); clear HB; have HB := n0_; clear n0_; (try clear hb); (try clear hb2); (try clear hk); (try clear hi)) | (go_at_call 16; (with_reducible refine (bits_Num.calls (⟨#[48, 49, 48, 49]⟩ : ByteArray) t103 _ A5.out).mono ?_); rintro e w' ⟨rfl, ⟨nd, rfl⟩⟩) | (go_at_call 18; (with_reducible refine (bits_And.calls (⟨#[49, 49, 48]⟩ : ByteArray) (⟨#[49, 48]⟩ : ByteArray) t104 _ A7.out).mono ?_); rintro e w29 ⟨rfl, hb⟩; have n0_ := Aside0.mk (below_step (by repeat (first | (with_reducible first | exact HB.out | apply below_alloc | apply pw_below_drewN | apply below_drew1) | exact HB.out)) hb); clear HB; have HB := n0_; clear n0_; (try clear hb); (try clear hb2); (try clear hk); (try clear hi)) | (go_at_call 20; (with_reducible refine (bits_Turn.calls (⟨#[48, 48]⟩ : ByteArray) 1 t105 _ A9.out).mono ?_); rintro e w30 ⟨rfl, hb⟩; have n0_ := Aside0.mk (below_step (by repeat (first | (with_reducible first | exact HB.out | apply below_alloc | apply pw_below_drewN | apply below_drew1) | exact HB.out)) hb); clear HB; have HB := n0_; clear n0_; (try clear hb); (try clear hb2); (try clear hk); (try clear hi)) | (go_at_call 22; (with_reducible refine (bits_FromBytes.calls (⟨#[15]⟩ : ByteArray) t106 _ A11.out).mono ?_); rintro e w31 ⟨rfl, hb⟩; have n0_ := Aside0.mk (below_step (by repeat (first | (with_reducible first | exact HB.out | apply below_alloc | apply pw_below_drewN | apply below_drew1) | exact HB.out)) hb); clear HB; have HB := n0_; clear n0_; (try clear hb); (try clear hb2); (try clear hk); (try clear hi)) | (go_at_call 24; (with_reducible refine (bits_Bytes.calls (⟨#[48, 48, 48, 48, 49, 49, 49, 49, 49]⟩ : ByteArray) t107 _ A13.out).mono ?_); rintro e w32 ⟨rfl, hb⟩; have n0_ := Aside0.mk (below_step (by repeat (first | (with_reducible first | exact HB.out | apply below_alloc | apply pw_below_drewN | apply below_drew1) | exact HB.out)) hb); clear HB; have HB := n0_; clear n0_; (try clear hb); (try clear hb2); (try clear hk); (try clear hi)))
                go_ret
                exact ⟨by first | rfl | (simp [errW_none, errW_some] <;> rfl) | (simp [*, errW_none, errW_some] <;> rfl), by repeat (first | (with_reducible first | exact HB.out | apply below_alloc | apply pw_below_drewN | apply below_drew1) | exact HB.out)⟩
            · rw [if_neg c12] at H
              have c12b0 : (t106.toList == ([48, 48, 48, 48, 49, 49, 49, 49] : List UInt8)) = false := beq_eq_false_iff_ne.mpr c12
              have c12b1 : (t106.toList != ([48, 48, 48, 48, 49, 49, 49, 49] : List UInt8)) = true := bne_iff_ne.mpr c12
              obtain rfl := Option.some.inj H
              go_enter Try.func11, Try.ntmps11
              go_wp2_with (first | ((with_reducible refine gate_callee (f := 26) rfl ?_); refine goesL_ (some 1) rfl rfl Try.func26 (by kernel_rfl) rfl #[.string (⟨#[49]⟩ : ByteArray)] rfl (by (try simp only [List.map_toArray, List.map_cons, List.map_nil]); first | done | rfl | (simp only [List.length_drop, List.length_take]; rfl)) ?_; (with_reducible refine (bits_CRC.calls (⟨#[49]⟩ : ByteArray) t101 _ A1.out).mono ?_); rintro e w' ⟨rfl, ⟨nd, rfl⟩⟩; refine ⟨_, rfl, ?_⟩) | (go_at_call 14; (with_reducible refine (bits_Of.calls 5 4 t102 _ A3.out).mono ?_); rintro e w33 ⟨rfl, hb⟩; have n0_ := Aside0.mk (below_step (by repeat (first | (with_reducible first | exact HB.out | apply below_alloc | apply pw_below_drewN | apply below_drew1) | exact HB.out)) hb); clear HB; have HB := n0_; clear n0_; (try clear hb); (try clear hb2); (try clear hk); (try clear hi)) | (go_at_call 16; (with_reducible refine (bits_Num.calls (⟨#[48, 49, 48, 49]⟩ : ByteArray) t103 _ A5.out).mono ?_); rintro e w' ⟨rfl, ⟨nd, rfl⟩⟩) | (go_at_call 18; (with_reducible refine (bits_And.calls (⟨#[49, 49, 48]⟩ : ByteArray) (⟨#[49, 48]⟩ : ByteArray) t104 _ A7.out).mono ?_); rintro e w34 ⟨rfl, hb⟩; have n0_ := Aside0.mk (below_step (by repeat (first | (with_reducible first | exact HB.out | apply below_alloc | apply pw_below_drewN | apply below_drew1) | exact HB.out)) hb); clear HB; have HB := n0_; clear n0_; (try clear hb); (try clear hb2); (try clear hk); (try clear hi)) | (go_at_call 20; (with_reducible refine (bits_Turn.calls (⟨#[48, 48]⟩ : ByteArray) 1 t105 _ A9.out).mono ?_); rintro e w35 ⟨rfl, hb⟩; have n0_ := Aside0.mk (below_step (by repeat (first | (with_reducible first | exact HB.out | apply below_alloc | apply pw_below_drewN | apply below_drew1) | exact HB.out)) hb); clear HB; have HB := n0_; clear n0_; (try clear hb); (try clear hb2); (try clear hk); (try clear hi)) | (go_at_call 22; (with_reducible refine (bits_FromBytes.calls (⟨#[15]⟩ : ByteArray) t106 _ A11.out).mono ?_); rintro e w36 ⟨rfl, hb⟩; have n0_ := Aside0.mk (below_step (by repeat (first | (with_reducible first | exact HB.out | apply below_alloc | apply pw_below_drewN | apply below_drew1) | exact HB.out)) hb); clear HB; have HB := n0_; clear n0_; (try clear hb); (try clear hb2); (try clear hk); (try clear hi)))
              go_ret
              exact ⟨by first | rfl | (simp [errW_none, errW_some] <;> rfl) | (simp [*, errW_none, errW_some] <;> rfl), by repeat (first | (with_reducible first | exact HB.out | apply below_alloc | apply pw_below_drewN | apply below_drew1) | exact HB.out)⟩
          · rw [if_neg c10] at H
            have c10b0 : (t105.toList == ([48, 49] : List UInt8)) = false := beq_eq_false_iff_ne.mpr c10
            have c10b1 : (t105.toList != ([48, 49] : List UInt8)) = true := bne_iff_ne.mpr c10
            obtain rfl := Option.some.inj H
            go_enter Try.func11, Try.ntmps11
            go_wp2_with (first | ((with_reducible refine gate_callee (f := 26) rfl ?_); refine goesL_ (some 1) rfl rfl Try.func26 (by kernel_rfl) rfl #[.string (⟨#[49]⟩ : ByteArray)] rfl (by (try simp only [List.map_toArray, List.map_cons, List.map_nil]); first | done | rfl | (simp only [List.length_drop, List.length_take]; rfl)) ?_; (with_reducible refine (bits_CRC.calls (⟨#[49]⟩ : ByteArray) t101 _ A1.out).mono ?_); rintro e w' ⟨rfl, ⟨nd, rfl⟩⟩; refine ⟨_, rfl, ?_⟩) | (go_at_call 14; (with_reducible refine (bits_Of.calls 5 4 t102 _ A3.out).mono ?_); rintro e w37 ⟨rfl, hb⟩; have n0_ := Aside0.mk (below_step (by repeat (first | (with_reducible first | exact HB.out | apply below_alloc | apply pw_below_drewN | apply below_drew1) | exact HB.out)) hb); clear HB; have HB := n0_; clear n0_; (try clear hb); (try clear hb2); (try clear hk); (try clear hi)) | (go_at_call 16; (with_reducible refine (bits_Num.calls (⟨#[48, 49, 48, 49]⟩ : ByteArray) t103 _ A5.out).mono ?_); rintro e w' ⟨rfl, ⟨nd, rfl⟩⟩) | (go_at_call 18; (with_reducible refine (bits_And.calls (⟨#[49, 49, 48]⟩ : ByteArray) (⟨#[49, 48]⟩ : ByteArray) t104 _ A7.out).mono ?_); rintro e w38 ⟨rfl, hb⟩; have n0_ := Aside0.mk (below_step (by repeat (first | (with_reducible first | exact HB.out | apply below_alloc | apply pw_below_drewN | apply below_drew1) | exact HB.out)) hb); clear HB; have HB := n0_; clear n0_; (try clear hb); (try clear hb2); (try clear hk); (try clear hi)) | (go_at_call 20; (with_reducible refine (bits_Turn.calls (⟨#[48, 48]⟩ : ByteArray) 1 t105 _ A9.out).mono ?_); rintro e w39 ⟨rfl, hb⟩; have n0_ := Aside0.mk (below_step (by repeat (first | (with_reducible first | exact HB.out | apply below_alloc | apply pw_below_drewN | apply below_drew1) | exact HB.out)) hb); clear HB; have HB := n0_; clear n0_; (try clear hb); (try clear hb2); (try clear hk); (try clear hi)))
            go_ret
            exact ⟨by first | rfl | (simp [errW_none, errW_some] <;> rfl) | (simp [*, errW_none, errW_some] <;> rfl), by repeat (first | (with_reducible first | exact HB.out | apply below_alloc | apply pw_below_drewN | apply below_drew1) | exact HB.out)⟩
        · rw [if_neg c8] at H
          have c8b0 : (t104.toList == ([49, 48] : List UInt8)) = false := beq_eq_false_iff_ne.mpr c8
          have c8b1 : (t104.toList != ([49, 48] : List UInt8)) = true := bne_iff_ne.mpr c8
          obtain rfl := Option.some.inj H
          go_enter Try.func11, Try.ntmps11
          go_wp2_with (first | ((with_reducible refine gate_callee (f := 26) rfl ?_); refine goesL_ (some 1) rfl rfl Try.func26 (by kernel_rfl) rfl #[.string (⟨#[49]⟩ : ByteArray)] rfl (by (try simp only [List.map_toArray, List.map_cons, List.map_nil]); first | done | rfl | (simp only [List.length_drop, List.length_take]; rfl)) ?_; (with_reducible refine (bits_CRC.calls (⟨#[49]⟩ : ByteArray) t101 _ A1.out).mono ?_); rintro e w' ⟨rfl, ⟨nd, rfl⟩⟩; refine ⟨_, rfl, ?_⟩) | (go_at_call 14; (with_reducible refine (bits_Of.calls 5 4 t102 _ A3.out).mono ?_); rintro e w40 ⟨rfl, hb⟩; have n0_ := Aside0.mk (below_step (by repeat (first | (with_reducible first | exact HB.out | apply below_alloc | apply pw_below_drewN | apply below_drew1) | exact HB.out)) hb); clear HB; have HB := n0_; clear n0_; (try clear hb); (try clear hb2); (try clear hk); (try clear hi)) | (go_at_call 16; (with_reducible refine (bits_Num.calls (⟨#[48, 49, 48, 49]⟩ : ByteArray) t103 _ A5.out).mono ?_); rintro e w' ⟨rfl, ⟨nd, rfl⟩⟩) | (go_at_call 18; (with_reducible refine (bits_And.calls (⟨#[49, 49, 48]⟩ : ByteArray) (⟨#[49, 48]⟩ : ByteArray) t104 _ A7.out).mono ?_); rintro e w41 ⟨rfl, hb⟩; have n0_ := Aside0.mk (below_step (by repeat (first | (with_reducible first | exact HB.out | apply below_alloc | apply pw_below_drewN | apply below_drew1) | exact HB.out)) hb); clear HB; have HB := n0_; clear n0_; (try clear hb); (try clear hb2); (try clear hk); (try clear hi)))
          go_ret
          exact ⟨by first | rfl | (simp [errW_none, errW_some] <;> rfl) | (simp [*, errW_none, errW_some] <;> rfl), by repeat (first | (with_reducible first | exact HB.out | apply below_alloc | apply pw_below_drewN | apply below_drew1) | exact HB.out)⟩
      · rw [if_neg c6] at H
        have c6b0 : (t103 == 5) = false := beq_eq_false_iff_ne.mpr c6
        have c6b1 : (t103 != 5) = true := bne_iff_ne.mpr c6
        obtain rfl := Option.some.inj H
        go_enter Try.func11, Try.ntmps11
        go_wp2_with (first | ((with_reducible refine gate_callee (f := 26) rfl ?_); refine goesL_ (some 1) rfl rfl Try.func26 (by kernel_rfl) rfl #[.string (⟨#[49]⟩ : ByteArray)] rfl (by (try simp only [List.map_toArray, List.map_cons, List.map_nil]); first | done | rfl | (simp only [List.length_drop, List.length_take]; rfl)) ?_; (with_reducible refine (bits_CRC.calls (⟨#[49]⟩ : ByteArray) t101 _ A1.out).mono ?_); rintro e w' ⟨rfl, ⟨nd, rfl⟩⟩; refine ⟨_, rfl, ?_⟩) | (go_at_call 14; (with_reducible refine (bits_Of.calls 5 4 t102 _ A3.out).mono ?_); rintro e w42 ⟨rfl, hb⟩; have n0_ := Aside0.mk (below_step (by repeat (first | (with_reducible first | exact HB.out | apply below_alloc | apply pw_below_drewN | apply below_drew1) | exact HB.out)) hb); clear HB; have HB := n0_; clear n0_; (try clear hb); (try clear hb2); (try clear hk); (try clear hi)) | (go_at_call 16; (with_reducible refine (bits_Num.calls (⟨#[48, 49, 48, 49]⟩ : ByteArray) t103 _ A5.out).mono ?_); rintro e w' ⟨rfl, ⟨nd, rfl⟩⟩))
        go_ret
        exact ⟨by first | rfl | (simp [errW_none, errW_some] <;> rfl) | (simp [*, errW_none, errW_some] <;> rfl), by repeat (first | (with_reducible first | exact HB.out | apply below_alloc | apply pw_below_drewN | apply below_drew1) | exact HB.out)⟩
    · rw [if_neg c4] at H
      have c4b0 : (t102.toList == ([48, 49, 48, 49] : List UInt8)) = false := beq_eq_false_iff_ne.mpr c4
      have c4b1 : (t102.toList != ([48, 49, 48, 49] : List UInt8)) = true := bne_iff_ne.mpr c4
      obtain rfl := Option.some.inj H
      go_enter Try.func11, Try.ntmps11
      go_wp2_with (first | ((with_reducible refine gate_callee (f := 26) rfl ?_); refine goesL_ (some 1) rfl rfl Try.func26 (by kernel_rfl) rfl #[.string (⟨#[49]⟩ : ByteArray)] rfl (by (try simp only [List.map_toArray, List.map_cons, List.map_nil]); first | done | rfl | (simp only [List.length_drop, List.length_take]; rfl)) ?_; (with_reducible refine (bits_CRC.calls (⟨#[49]⟩ : ByteArray) t101 _ A1.out).mono ?_); rintro e w' ⟨rfl, ⟨nd, rfl⟩⟩; refine ⟨_, rfl, ?_⟩) | (go_at_call 14; (with_reducible refine (bits_Of.calls 5 4 t102 _ A3.out).mono ?_); rintro e w43 ⟨rfl, hb⟩; have n0_ := Aside0.mk (below_step (by repeat (first | (with_reducible first | exact HB.out | apply below_alloc | apply pw_below_drewN | apply below_drew1) | exact HB.out)) hb); clear HB; have HB := n0_; clear n0_; (try clear hb); (try clear hb2); (try clear hk); (try clear hi)))
      go_ret
      exact ⟨by first | rfl | (simp [errW_none, errW_some] <;> rfl) | (simp [*, errW_none, errW_some] <;> rfl), by repeat (first | (with_reducible first | exact HB.out | apply below_alloc | apply pw_below_drewN | apply below_drew1) | exact HB.out)⟩
  · rw [if_neg c2] at H
    have c2b0 : (t101 == 17817) = false := beq_eq_false_iff_ne.mpr c2
    have c2b1 : (t101 != 17817) = true := bne_iff_ne.mpr c2
    obtain rfl := Option.some.inj H
    go_enter Try.func11, Try.ntmps11
    go_wp2_with (first | ((with_reducible refine gate_callee (f := 26) rfl ?_); refine goesL_ (some 1) rfl rfl Try.func26 (by kernel_rfl) rfl #[.string (⟨#[49]⟩ : ByteArray)] rfl (by (try simp only [List.map_toArray, List.map_cons, List.map_nil]); first | done | rfl | (simp only [List.length_drop, List.length_take]; rfl)) ?_; (with_reducible refine (bits_CRC.calls (⟨#[49]⟩ : ByteArray) t101 _ A1.out).mono ?_); rintro e w' ⟨rfl, ⟨nd, rfl⟩⟩; refine ⟨_, rfl, ?_⟩))
    go_ret
    exact ⟨by first | rfl | (simp [errW_none, errW_some] <;> rfl) | (simp [*, errW_none, errW_some] <;> rfl), by repeat (first | (with_reducible first | exact HB.out | apply below_alloc | apply pw_below_drewN | apply below_drew1) | exact HB.out)⟩

/-! ### ostinatolaw1_BitsTell: function 3 -/
def ostinatolaw1_BitsTell.j0 : Nat → ByteArray → ByteArray → Int → Int → Int → Bool → Option (Bool)
  | 0, _, _, _, _, _, _ => none
  | k + 1, x0, x1, x2, x3, x4, x20 => if x20 = true then (some true) else ((bits_Is.f x0).bind fun t111 => ((ostinatoref1_Is.f x0).bind fun t112 => (if (t111 == t112) = true then ((bits_Of.f x2 x3).bind fun t113 => ((ostinatoref1_Of.f x2 x3).bind fun t114 => (if t113.toList = t114.toList then ((bits_Num.f x0).bind fun t115 => ((ostinatoref1_Num.f x0).bind fun t116 => (if t115 = t116 then ((bits_And.f x0 x1).bind fun t117 => ((ostinatoref1_And.f x0 x1).bind fun t118 => (if t117.toList = t118.toList then ((bits_Turn.f x0 x4).bind fun t119 => ((ostinatoref1_Turn.f x0 x4).bind fun t120 => (if t119.toList = t120.toList then ((bits_FromBytes.f x1).bind fun t121 => ((ostinatoref1_FromBytes.f x1).bind fun t122 => (if t121.toList = t122.toList then ((bits_Bytes.f x0).bind fun t123 => ((ostinatoref1_Bytes.f x0).bind fun t124 => (some (t123.toList == t124.toList)))) else (some false)))) else (some false)))) else (some false)))) else (some false)))) else (some false)))) else (some false))))
def ostinatolaw1_BitsTell.f (k : Nat) (a0 : ByteArray) (a1 : ByteArray) (a2 : Int) (a3 : Int) (a4 : Int) : Option (Bool) := (ostinatolaw1_known.f).bind fun t110 => (if t110 = true then (if (a0.size : Int) > 300 then (ostinatolaw1_BitsTell.j0 k a0 a1 a2 a3 a4 true) else (ostinatolaw1_BitsTell.j0 k a0 a1 a2 a3 a4 (decide ((a1.size : Int) > 300)))) else (some false))
theorem ostinatolaw1_BitsTell.mono_l : ∀ k, (∀ y0 y1 y2 y3 y4 y5, LeO (ostinatolaw1_BitsTell.j0 k y0 y1 y2 y3 y4 y5) (ostinatolaw1_BitsTell.j0 (k + 1) y0 y1 y2 y3 y4 y5))
  | 0 => fun _ _ _ _ _ _ r h => by simp [ostinatolaw1_BitsTell.j0] at h
  | k + 1 => by
    have ih0 := ostinatolaw1_BitsTell.mono_l k
    · intro y0 y1 y2 y3 y4 y5
      unfold ostinatolaw1_BitsTell.j0
      repeat' first
      | (with_reducible exact ih0 _ _ _ _ _ _)
      | (with_reducible exact LeO.refl _)
      | (with_reducible exact LeO.none _)
      | (with_reducible refine LeO.ite ?_ ?_)
      | (with_reducible refine LeO.bind ?_ (fun _ => ?_))
      | exact ih0 _ _ _ _ _ _
      | exact LeO.none _
      | refine LeO.ite ?_ ?_
      | refine LeO.bind ?_ (fun _ => ?_)
theorem ostinatolaw1_BitsTell.mono : ∀ a0 a1 a2 a3 a4 k, LeO (ostinatolaw1_BitsTell.f k a0 a1 a2 a3 a4) (ostinatolaw1_BitsTell.f (k + 1) a0 a1 a2 a3 a4) := by
  intro a0 a1 a2 a3 a4 k
  have ih0 := ostinatolaw1_BitsTell.mono_l k
  unfold ostinatolaw1_BitsTell.f
  repeat' first
      | (with_reducible exact ih0 _ _ _ _ _ _)
      | (with_reducible exact LeO.refl _)
      | (with_reducible exact LeO.none _)
      | (with_reducible refine LeO.ite ?_ ?_)
      | (with_reducible refine LeO.bind ?_ (fun _ => ?_))
      | exact ih0 _ _ _ _ _ _
      | exact LeO.none _
      | refine LeO.ite ?_ ?_
      | refine LeO.bind ?_ (fun _ => ?_)
set_option maxHeartbeats 8000000 in
set_option maxRecDepth 100000 in
theorem ostinatolaw1_BitsTell.calls (k : Nat) (a0 : ByteArray) (a1 : ByteArray) (a2 : Int) (a3 : Int) (a4 : Int) (r : Bool) (w : World) (h : ostinatolaw1_BitsTell.f k a0 a1 a2 a3 a4 = some r) :
    Calls Try.prog 3 #[.string a0, .string a1, .int .u64 a2, .int .i64 a3, .int .i64 a4] w fun e w' => e = .returned (.bool r) ∧ Below w.heap.size w w' := by
  have HB := Aside0.mk (Below.refl w.heap.size w)
  have H : ((ostinatolaw1_known.f).bind fun t110 => (if t110 = true then (if (a0.size : Int) > 300 then (ostinatolaw1_BitsTell.j0 k a0 a1 a2 a3 a4 true) else (ostinatolaw1_BitsTell.j0 k a0 a1 a2 a3 a4 (decide ((a1.size : Int) > 300)))) else (some false))) = some r := h
  clear h
  replace H := Option.bind_eq_some_iff.mp H
  obtain ⟨t110, A60, H⟩ := H
  replace H : (if t110 = true then (if (a0.size : Int) > 300 then (ostinatolaw1_BitsTell.j0 k a0 a1 a2 a3 a4 true) else (ostinatolaw1_BitsTell.j0 k a0 a1 a2 a3 a4 (decide ((a1.size : Int) > 300)))) else (some false)) = some r := H
  have A6 := Aside0.mk A60
  clear A60
  by_cases c7 : t110 = true
  · subst c7
    have H1 : (if (a0.size : Int) > 300 then (ostinatolaw1_BitsTell.j0 k a0 a1 a2 a3 a4 true) else (ostinatolaw1_BitsTell.j0 k a0 a1 a2 a3 a4 (decide ((a1.size : Int) > 300)))) = some r := by rw [if_pos rfl] at H; exact H
    clear H
    have H := H1
    clear H1
    have HC8 := Aside0.mk H
    clear H
    go_enter Try.func3, Try.ntmps3
    go_upto_region 3 with (first | ((with_reducible refine gate_callee (f := 11) rfl ?_); refine goesL_ (some 11) rfl rfl Try.func11 (by kernel_rfl) rfl #[] rfl (by (try simp only [List.map_toArray, List.map_cons, List.map_nil]); first | done | rfl | (simp only [List.length_drop, List.length_take]; rfl)) ?_; (with_reducible refine (ostinatolaw1_known.calls  true _ A6.out).mono ?_); rintro e w9 ⟨rfl, hb⟩; refine ⟨_, rfl, ?_⟩; have n0_ := Aside0.mk (below_step (by repeat (first | (with_reducible first | exact HB.out | apply below_alloc | apply pw_below_drewN | apply below_drew1) | exact HB.out)) hb); clear HB; have HB := n0_; clear n0_; (try clear hb); (try clear hb2); (try clear hk); (try clear hi)))
    (try simp only [Act.put, List.setIfInBounds_toArray, List.set_cons_zero, List.set_cons_succ])
    go_cut [20] (fun v20 wc => ∃ (kq : Nat) (x20_7 : Bool), v20 = .bool x20_7 ∧ Aside0 (ostinatolaw1_BitsTell.j0 kq a0 a1 a2 a3 a4 x20_7 = some r) ∧ Aside0 (kq ≤ k) ∧ Aside0 (Below w.heap.size w wc))
    case first =>
      have H := HC8.out
      clear HC8
      by_cases c10 : (a0.size : Int) > 300
      · rw [if_pos c10] at H
        have c10b0 : decide (300 < (a0.size : Int)) = true := decide_eq_true c10
        have c10b1 : decide (300 < a0.size) = true := decide_eq_true (by omega)
        clear c10
        (first | rw [c10b0] | (simp only [i64_w, i32_w]; rw [c10b0]) | skip)
        have H' := Aside0.mk H
        clear H
        go_wp2
        go_meet
        case rel => exact ⟨_, (true), (by first | rfl | (simp; done) | (simp [*]; done)), H', ⟨by first | omega | exact Nat.le_refl _⟩, ⟨by repeat (first | (with_reducible first | exact HB.out | apply below_alloc | apply pw_below_drewN | apply below_drew1) | exact HB.out)⟩⟩
      · rw [if_neg c10] at H
        have c10b0 : decide (300 < (a0.size : Int)) = false := decide_eq_false c10
        have c10b1 : decide (300 < a0.size) = false := decide_eq_false (by omega)
        clear c10
        (first | rw [c10b0] | (simp only [i64_w, i32_w]; rw [c10b0]) | skip)
        have H' := Aside0.mk H
        clear H
        go_wp2
        go_meet
        case rel => exact ⟨_, (decide ((a1.size : Int) > 300)), (by first | rfl | (simp; done) | (simp [*]; done)), H', ⟨by first | omega | exact Nat.le_refl _⟩, ⟨by repeat (first | (with_reducible first | exact HB.out | apply below_alloc | apply pw_below_drewN | apply below_drew1) | exact HB.out)⟩⟩
    case rest =>
      clear HC8
      try clear c1
      try clear p2
      try clear c3
      try clear c7
      try clear c10
      try clear c10b0
      try clear c10b1
      obtain ⟨kq, x20_7, rfl, HA, HJ7, HB⟩ := hcut
      cases kq with
      | zero => exact absurd HA.out (by simp [ostinatolaw1_BitsTell.j0])
      | succ kj7 =>
        have H := HA.out
        clear HA
        simp only [ostinatolaw1_BitsTell.j0] at H
        by_cases c11 : x20_7 = true
        · subst c11
          have H1 : (some true) = some r := by rw [if_pos rfl] at H; exact H
          clear H
          have H := H1
          clear H1
          obtain rfl := Option.some.inj H
          go_wp2
          go_ret
          exact ⟨by first | rfl | (simp [errW_none, errW_some] <;> rfl) | (simp [*, errW_none, errW_some] <;> rfl), by repeat (first | (with_reducible first | exact HB.out | apply below_alloc | apply pw_below_drewN | apply below_drew1) | exact HB.out)⟩
        · replace c11 := Bool.eq_false_iff.mpr c11
          subst c11
          have H1 : ((bits_Is.f a0).bind fun t111 => ((ostinatoref1_Is.f a0).bind fun t112 => (if (t111 == t112) = true then ((bits_Of.f a2 a3).bind fun t113 => ((ostinatoref1_Of.f a2 a3).bind fun t114 => (if t113.toList = t114.toList then ((bits_Num.f a0).bind fun t115 => ((ostinatoref1_Num.f a0).bind fun t116 => (if t115 = t116 then ((bits_And.f a0 a1).bind fun t117 => ((ostinatoref1_And.f a0 a1).bind fun t118 => (if t117.toList = t118.toList then ((bits_Turn.f a0 a4).bind fun t119 => ((ostinatoref1_Turn.f a0 a4).bind fun t120 => (if t119.toList = t120.toList then ((bits_FromBytes.f a1).bind fun t121 => ((ostinatoref1_FromBytes.f a1).bind fun t122 => (if t121.toList = t122.toList then ((bits_Bytes.f a0).bind fun t123 => ((ostinatoref1_Bytes.f a0).bind fun t124 => (some (t123.toList == t124.toList)))) else (some false)))) else (some false)))) else (some false)))) else (some false)))) else (some false)))) else (some false)))) = some r := by rw [if_neg (show ¬ (false = true) by decide)] at H; exact H
          clear H
          have H := H1
          clear H1
          replace H := Option.bind_eq_some_iff.mp H
          obtain ⟨t111, A120, H⟩ := H
          replace H : ((ostinatoref1_Is.f a0).bind fun t112 => (if (t111 == t112) = true then ((bits_Of.f a2 a3).bind fun t113 => ((ostinatoref1_Of.f a2 a3).bind fun t114 => (if t113.toList = t114.toList then ((bits_Num.f a0).bind fun t115 => ((ostinatoref1_Num.f a0).bind fun t116 => (if t115 = t116 then ((bits_And.f a0 a1).bind fun t117 => ((ostinatoref1_And.f a0 a1).bind fun t118 => (if t117.toList = t118.toList then ((bits_Turn.f a0 a4).bind fun t119 => ((ostinatoref1_Turn.f a0 a4).bind fun t120 => (if t119.toList = t120.toList then ((bits_FromBytes.f a1).bind fun t121 => ((ostinatoref1_FromBytes.f a1).bind fun t122 => (if t121.toList = t122.toList then ((bits_Bytes.f a0).bind fun t123 => ((ostinatoref1_Bytes.f a0).bind fun t124 => (some (t123.toList == t124.toList)))) else (some false)))) else (some false)))) else (some false)))) else (some false)))) else (some false)))) else (some false))) = some r := H
          have A12 := Aside0.mk A120
          clear A120
          replace H := Option.bind_eq_some_iff.mp H
          obtain ⟨t112, A130, H⟩ := H
          replace H : (if (t111 == t112) = true then ((bits_Of.f a2 a3).bind fun t113 => ((ostinatoref1_Of.f a2 a3).bind fun t114 => (if t113.toList = t114.toList then ((bits_Num.f a0).bind fun t115 => ((ostinatoref1_Num.f a0).bind fun t116 => (if t115 = t116 then ((bits_And.f a0 a1).bind fun t117 => ((ostinatoref1_And.f a0 a1).bind fun t118 => (if t117.toList = t118.toList then ((bits_Turn.f a0 a4).bind fun t119 => ((ostinatoref1_Turn.f a0 a4).bind fun t120 => (if t119.toList = t120.toList then ((bits_FromBytes.f a1).bind fun t121 => ((ostinatoref1_FromBytes.f a1).bind fun t122 => (if t121.toList = t122.toList then ((bits_Bytes.f a0).bind fun t123 => ((ostinatoref1_Bytes.f a0).bind fun t124 => (some (t123.toList == t124.toList)))) else (some false)))) else (some false)))) else (some false)))) else (some false)))) else (some false)))) else (some false)) = some r := H
          have A13 := Aside0.mk A130
          clear A130
          by_cases c14 : (t111 == t112) = true
          · rw [if_pos c14] at H
            have c14b0 : (t111 == t112) = true := c14
            (try (have c14b1 : decide (t111 = t112) = true := by simpa using c14))
            (try (have c14b2 : (t111 == t112) = true := by simpa using c14))
            clear c14
            replace H := Option.bind_eq_some_iff.mp H
            obtain ⟨t113, A150, H⟩ := H
            replace H : ((ostinatoref1_Of.f a2 a3).bind fun t114 => (if t113.toList = t114.toList then ((bits_Num.f a0).bind fun t115 => ((ostinatoref1_Num.f a0).bind fun t116 => (if t115 = t116 then ((bits_And.f a0 a1).bind fun t117 => ((ostinatoref1_And.f a0 a1).bind fun t118 => (if t117.toList = t118.toList then ((bits_Turn.f a0 a4).bind fun t119 => ((ostinatoref1_Turn.f a0 a4).bind fun t120 => (if t119.toList = t120.toList then ((bits_FromBytes.f a1).bind fun t121 => ((ostinatoref1_FromBytes.f a1).bind fun t122 => (if t121.toList = t122.toList then ((bits_Bytes.f a0).bind fun t123 => ((ostinatoref1_Bytes.f a0).bind fun t124 => (some (t123.toList == t124.toList)))) else (some false)))) else (some false)))) else (some false)))) else (some false)))) else (some false))) = some r := H
            have A15 := Aside0.mk A150
            clear A150
            replace H := Option.bind_eq_some_iff.mp H
            obtain ⟨t114, A160, H⟩ := H
            replace H : (if t113.toList = t114.toList then ((bits_Num.f a0).bind fun t115 => ((ostinatoref1_Num.f a0).bind fun t116 => (if t115 = t116 then ((bits_And.f a0 a1).bind fun t117 => ((ostinatoref1_And.f a0 a1).bind fun t118 => (if t117.toList = t118.toList then ((bits_Turn.f a0 a4).bind fun t119 => ((ostinatoref1_Turn.f a0 a4).bind fun t120 => (if t119.toList = t120.toList then ((bits_FromBytes.f a1).bind fun t121 => ((ostinatoref1_FromBytes.f a1).bind fun t122 => (if t121.toList = t122.toList then ((bits_Bytes.f a0).bind fun t123 => ((ostinatoref1_Bytes.f a0).bind fun t124 => (some (t123.toList == t124.toList)))) else (some false)))) else (some false)))) else (some false)))) else (some false)))) else (some false)) = some r := H
            have A16 := Aside0.mk A160
            clear A160
            by_cases c17 : t113.toList = t114.toList
            · rw [if_pos c17] at H
              have c17b0 : (t113.toList == t114.toList) = true := beq_iff_eq.mpr c17
              have c17b1 : (t113.toList != t114.toList) = false := bne_eq_false_iff_eq.mpr c17
              clear c17
              replace H := Option.bind_eq_some_iff.mp H
              obtain ⟨t115, A180, H⟩ := H
              replace H : ((ostinatoref1_Num.f a0).bind fun t116 => (if t115 = t116 then ((bits_And.f a0 a1).bind fun t117 => ((ostinatoref1_And.f a0 a1).bind fun t118 => (if t117.toList = t118.toList then ((bits_Turn.f a0 a4).bind fun t119 => ((ostinatoref1_Turn.f a0 a4).bind fun t120 => (if t119.toList = t120.toList then ((bits_FromBytes.f a1).bind fun t121 => ((ostinatoref1_FromBytes.f a1).bind fun t122 => (if t121.toList = t122.toList then ((bits_Bytes.f a0).bind fun t123 => ((ostinatoref1_Bytes.f a0).bind fun t124 => (some (t123.toList == t124.toList)))) else (some false)))) else (some false)))) else (some false)))) else (some false))) = some r := H
              have A18 := Aside0.mk A180
              clear A180
              replace H := Option.bind_eq_some_iff.mp H
              obtain ⟨t116, A190, H⟩ := H
              replace H : (if t115 = t116 then ((bits_And.f a0 a1).bind fun t117 => ((ostinatoref1_And.f a0 a1).bind fun t118 => (if t117.toList = t118.toList then ((bits_Turn.f a0 a4).bind fun t119 => ((ostinatoref1_Turn.f a0 a4).bind fun t120 => (if t119.toList = t120.toList then ((bits_FromBytes.f a1).bind fun t121 => ((ostinatoref1_FromBytes.f a1).bind fun t122 => (if t121.toList = t122.toList then ((bits_Bytes.f a0).bind fun t123 => ((ostinatoref1_Bytes.f a0).bind fun t124 => (some (t123.toList == t124.toList)))) else (some false)))) else (some false)))) else (some false)))) else (some false)) = some r := H
              have A19 := Aside0.mk A190
              clear A190
              by_cases c20 : t115 = t116
              · rw [if_pos c20] at H
                have c20b0 : (t115 == t116) = true := beq_iff_eq.mpr c20
                have c20b1 : (t115 != t116) = false := bne_eq_false_iff_eq.mpr c20
                clear c20
                replace H := Option.bind_eq_some_iff.mp H
                obtain ⟨t117, A210, H⟩ := H
                replace H : ((ostinatoref1_And.f a0 a1).bind fun t118 => (if t117.toList = t118.toList then ((bits_Turn.f a0 a4).bind fun t119 => ((ostinatoref1_Turn.f a0 a4).bind fun t120 => (if t119.toList = t120.toList then ((bits_FromBytes.f a1).bind fun t121 => ((ostinatoref1_FromBytes.f a1).bind fun t122 => (if t121.toList = t122.toList then ((bits_Bytes.f a0).bind fun t123 => ((ostinatoref1_Bytes.f a0).bind fun t124 => (some (t123.toList == t124.toList)))) else (some false)))) else (some false)))) else (some false))) = some r := H
                have A21 := Aside0.mk A210
                clear A210
                replace H := Option.bind_eq_some_iff.mp H
                obtain ⟨t118, A220, H⟩ := H
                replace H : (if t117.toList = t118.toList then ((bits_Turn.f a0 a4).bind fun t119 => ((ostinatoref1_Turn.f a0 a4).bind fun t120 => (if t119.toList = t120.toList then ((bits_FromBytes.f a1).bind fun t121 => ((ostinatoref1_FromBytes.f a1).bind fun t122 => (if t121.toList = t122.toList then ((bits_Bytes.f a0).bind fun t123 => ((ostinatoref1_Bytes.f a0).bind fun t124 => (some (t123.toList == t124.toList)))) else (some false)))) else (some false)))) else (some false)) = some r := H
                have A22 := Aside0.mk A220
                clear A220
                by_cases c23 : t117.toList = t118.toList
                · rw [if_pos c23] at H
                  have c23b0 : (t117.toList == t118.toList) = true := beq_iff_eq.mpr c23
                  have c23b1 : (t117.toList != t118.toList) = false := bne_eq_false_iff_eq.mpr c23
                  clear c23
                  replace H := Option.bind_eq_some_iff.mp H
                  obtain ⟨t119, A240, H⟩ := H
                  replace H : ((ostinatoref1_Turn.f a0 a4).bind fun t120 => (if t119.toList = t120.toList then ((bits_FromBytes.f a1).bind fun t121 => ((ostinatoref1_FromBytes.f a1).bind fun t122 => (if t121.toList = t122.toList then ((bits_Bytes.f a0).bind fun t123 => ((ostinatoref1_Bytes.f a0).bind fun t124 => (some (t123.toList == t124.toList)))) else (some false)))) else (some false))) = some r := H
                  have A24 := Aside0.mk A240
                  clear A240
                  replace H := Option.bind_eq_some_iff.mp H
                  obtain ⟨t120, A250, H⟩ := H
                  replace H : (if t119.toList = t120.toList then ((bits_FromBytes.f a1).bind fun t121 => ((ostinatoref1_FromBytes.f a1).bind fun t122 => (if t121.toList = t122.toList then ((bits_Bytes.f a0).bind fun t123 => ((ostinatoref1_Bytes.f a0).bind fun t124 => (some (t123.toList == t124.toList)))) else (some false)))) else (some false)) = some r := H
                  have A25 := Aside0.mk A250
                  clear A250
                  by_cases c26 : t119.toList = t120.toList
                  · rw [if_pos c26] at H
                    have c26b0 : (t119.toList == t120.toList) = true := beq_iff_eq.mpr c26
                    have c26b1 : (t119.toList != t120.toList) = false := bne_eq_false_iff_eq.mpr c26
                    clear c26
                    replace H := Option.bind_eq_some_iff.mp H
                    obtain ⟨t121, A270, H⟩ := H
                    replace H : ((ostinatoref1_FromBytes.f a1).bind fun t122 => (if t121.toList = t122.toList then ((bits_Bytes.f a0).bind fun t123 => ((ostinatoref1_Bytes.f a0).bind fun t124 => (some (t123.toList == t124.toList)))) else (some false))) = some r := H
                    have A27 := Aside0.mk A270
                    clear A270
                    replace H := Option.bind_eq_some_iff.mp H
                    obtain ⟨t122, A280, H⟩ := H
                    replace H : (if t121.toList = t122.toList then ((bits_Bytes.f a0).bind fun t123 => ((ostinatoref1_Bytes.f a0).bind fun t124 => (some (t123.toList == t124.toList)))) else (some false)) = some r := H
                    have A28 := Aside0.mk A280
                    clear A280
                    by_cases c29 : t121.toList = t122.toList
                    · rw [if_pos c29] at H
                      have c29b0 : (t121.toList == t122.toList) = true := beq_iff_eq.mpr c29
                      have c29b1 : (t121.toList != t122.toList) = false := bne_eq_false_iff_eq.mpr c29
                      clear c29
                      replace H := Option.bind_eq_some_iff.mp H
                      obtain ⟨t123, A300, H⟩ := H
                      replace H : ((ostinatoref1_Bytes.f a0).bind fun t124 => (some (t123.toList == t124.toList))) = some r := H
                      have A30 := Aside0.mk A300
                      clear A300
                      replace H := Option.bind_eq_some_iff.mp H
                      obtain ⟨t124, A310, H⟩ := H
                      replace H : (some (t123.toList == t124.toList)) = some r := H
                      have A31 := Aside0.mk A310
                      clear A310
                      obtain rfl := Option.some.inj H
                      go_wp2_with (first | ((with_reducible refine gate_callee (f := 12) rfl ?_); refine goesL_ (some 22) rfl rfl Try.func12 (by kernel_rfl) rfl #[.string a0] rfl (by (try simp only [List.map_toArray, List.map_cons, List.map_nil]); first | done | rfl | (simp only [List.length_drop, List.length_take]; rfl)) ?_; (with_reducible refine (bits_Is.calls a0 t111 _ A12.out).mono ?_); rintro e w' ⟨rfl, ⟨nd, rfl⟩⟩; refine ⟨_, rfl, ?_⟩) | ((with_reducible refine gate_callee (f := 13) rfl ?_); refine goesL_ (some 24) rfl rfl Try.func13 (by kernel_rfl) rfl #[.string a0] rfl (by (try simp only [List.map_toArray, List.map_cons, List.map_nil]); first | done | rfl | (simp only [List.length_drop, List.length_take]; rfl)) ?_; (with_reducible refine (ostinatoref1_Is.calls a0 t112 _ A13.out).mono ?_); rintro e w' ⟨rfl, ⟨nd, rfl⟩⟩; refine ⟨_, rfl, ?_⟩) | (go_at_call 14; (with_reducible refine (bits_Of.calls a2 a3 t113 _ A15.out).mono ?_); rintro e w32 ⟨rfl, hb⟩; have n0_ := Aside0.mk (below_step (by repeat (first | (with_reducible first | exact HB.out | apply below_alloc | apply pw_below_drewN | apply below_drew1) | exact HB.out)) hb); clear HB; have HB := n0_; clear n0_; (try clear hb); (try clear hb2); (try clear hk); (try clear hi)) | (go_at_call 15; (with_reducible refine (ostinatoref1_Of.calls a2 a3 t114 _ A16.out).mono ?_); rintro e w33 ⟨rfl, hb⟩; have n0_ := Aside0.mk (below_step (by repeat (first | (with_reducible first | exact HB.out | apply below_alloc | apply pw_below_drewN | apply below_drew1) | exact HB.out)) hb); clear HB; have HB := n0_; clear n0_; (try clear hb); (try clear hb2); (try clear hk); (try clear hi)) | (go_at_call 16; (with_reducible refine (bits_Num.calls a0 t115 _ A18.out).mono ?_); rintro e w' ⟨rfl, ⟨nd, rfl⟩⟩) | (go_at_call 17; (with_reducible refine (ostinatoref1_Num.calls a0 t116 _ A19.out).mono ?_); rintro e w' ⟨rfl, ⟨nd, rfl⟩⟩) | (go_at_call 18; (with_reducible refine (bits_And.calls a0 a1 t117 _ A21.out).mono ?_); rintro e w34 ⟨rfl, hb⟩; have n0_ := Aside0.mk (below_step (by repeat (first | (with_reducible first | exact HB.out | apply below_alloc | apply pw_below_drewN | apply below_drew1) | exact HB.out)) hb); clear HB; have HB := n0_; clear n0_; (try clear hb); (try clear hb2); (try clear hk); (try clear hi)) | (go_at_call 19; (with_reducible refine (ostinatoref1_And.calls a0 a1 t118 _ A22.out).mono ?_); rintro e w' ⟨rfl, ⟨nd, rfl⟩⟩) | (go_at_call 20; (with_reducible refine (bits_Turn.calls a0 a4 t119 _ A24.out).mono ?_); rintro e w35 ⟨rfl, hb⟩; have n0_ := Aside0.mk (below_step (by repeat (first | (with_reducible first | exact HB.out | apply below_alloc | apply pw_below_drewN | apply below_drew1) | exact HB.out)) hb); clear HB; have HB := n0_; clear n0_; (try clear hb); (try clear hb2); (try clear hk); (try clear hi)) | (go_at_call 21; (with_reducible refine (ostinatoref1_Turn.calls a0 a4 t120 _ A25.out).mono ?_); rintro e w' ⟨rfl, ⟨nd, rfl⟩⟩) | (go_at_call 22; (with_reducible refine (bits_FromBytes.calls a1 t121 _ A27.out).mono ?_); rintro e w36 ⟨rfl, hb⟩; have n0_ := Aside0.mk (below_step (by repeat (first | (with_reducible first | exact HB.out | apply below_alloc | apply pw_below_drewN | apply below_drew1) | exact HB.out)) hb); clear HB; have HB := n0_; clear n0_; (try clear hb); (try clear hb2); (try clear hk); (try clear hi)) | (go_at_call 23; (with_reducible refine (ostinatoref1_FromBytes.calls a1 t122 _ A28.out).mono ?_); rintro e w37 ⟨rfl, hb⟩; have n0_ := Aside0.mk (below_step (by repeat (first | (with_reducible first | exact HB.out | apply below_alloc | apply pw_below_drewN | apply below_drew1) | exact HB.out)) hb); clear HB; have HB := n0_; clear n0_; (try clear hb); (try clear hb2); (try clear hk); (try clear hi)) | (go_at_call 24; (with_reducible refine (bits_Bytes.calls a0 t123 _ A30.out).mono ?_); rintro e w38 ⟨rfl, hb⟩; have n0_ := Aside0.mk (below_step (by repeat (first | (with_reducible first | exact HB.out | apply below_alloc | apply pw_below_drewN | apply below_drew1) | exact HB.out)) hb); clear HB; have HB := n0_; clear n0_; (try clear hb); (try clear hb2); (try clear hk); (try clear hi)) | (go_at_call 25; (with_reducible refine (ostinatoref1_Bytes.calls a0 t124 _ A31.out).mono ?_); rintro e w39 ⟨rfl, hb⟩; have n0_ := Aside0.mk (below_step (by repeat (first | (with_reducible first | exact HB.out | apply below_alloc | apply pw_below_drewN | apply below_drew1) | exact HB.out)) hb); clear HB; have HB := n0_; clear n0_; (try clear hb); (try clear hb2); (try clear hk); (try clear hi)))
                      go_ret
                      exact ⟨by first | rfl | (simp [errW_none, errW_some] <;> rfl) | (simp [*, errW_none, errW_some] <;> rfl), by repeat (first | (with_reducible first | exact HB.out | apply below_alloc | apply pw_below_drewN | apply below_drew1) | exact HB.out)⟩
                    · rw [if_neg c29] at H
                      have c29b0 : (t121.toList == t122.toList) = false := beq_eq_false_iff_ne.mpr c29
                      have c29b1 : (t121.toList != t122.toList) = true := bne_iff_ne.mpr c29
                      obtain rfl := Option.some.inj H
                      go_wp2_with (first | ((with_reducible refine gate_callee (f := 12) rfl ?_); refine goesL_ (some 22) rfl rfl Try.func12 (by kernel_rfl) rfl #[.string a0] rfl (by (try simp only [List.map_toArray, List.map_cons, List.map_nil]); first | done | rfl | (simp only [List.length_drop, List.length_take]; rfl)) ?_; (with_reducible refine (bits_Is.calls a0 t111 _ A12.out).mono ?_); rintro e w' ⟨rfl, ⟨nd, rfl⟩⟩; refine ⟨_, rfl, ?_⟩) | ((with_reducible refine gate_callee (f := 13) rfl ?_); refine goesL_ (some 24) rfl rfl Try.func13 (by kernel_rfl) rfl #[.string a0] rfl (by (try simp only [List.map_toArray, List.map_cons, List.map_nil]); first | done | rfl | (simp only [List.length_drop, List.length_take]; rfl)) ?_; (with_reducible refine (ostinatoref1_Is.calls a0 t112 _ A13.out).mono ?_); rintro e w' ⟨rfl, ⟨nd, rfl⟩⟩; refine ⟨_, rfl, ?_⟩) | (go_at_call 14; (with_reducible refine (bits_Of.calls a2 a3 t113 _ A15.out).mono ?_); rintro e w40 ⟨rfl, hb⟩; have n0_ := Aside0.mk (below_step (by repeat (first | (with_reducible first | exact HB.out | apply below_alloc | apply pw_below_drewN | apply below_drew1) | exact HB.out)) hb); clear HB; have HB := n0_; clear n0_; (try clear hb); (try clear hb2); (try clear hk); (try clear hi)) | (go_at_call 15; (with_reducible refine (ostinatoref1_Of.calls a2 a3 t114 _ A16.out).mono ?_); rintro e w41 ⟨rfl, hb⟩; have n0_ := Aside0.mk (below_step (by repeat (first | (with_reducible first | exact HB.out | apply below_alloc | apply pw_below_drewN | apply below_drew1) | exact HB.out)) hb); clear HB; have HB := n0_; clear n0_; (try clear hb); (try clear hb2); (try clear hk); (try clear hi)) | (go_at_call 16; (with_reducible refine (bits_Num.calls a0 t115 _ A18.out).mono ?_); rintro e w' ⟨rfl, ⟨nd, rfl⟩⟩) | (go_at_call 17; (with_reducible refine (ostinatoref1_Num.calls a0 t116 _ A19.out).mono ?_); rintro e w' ⟨rfl, ⟨nd, rfl⟩⟩) | (go_at_call 18; (with_reducible refine (bits_And.calls a0 a1 t117 _ A21.out).mono ?_); rintro e w42 ⟨rfl, hb⟩; have n0_ := Aside0.mk (below_step (by repeat (first | (with_reducible first | exact HB.out | apply below_alloc | apply pw_below_drewN | apply below_drew1) | exact HB.out)) hb); clear HB; have HB := n0_; clear n0_; (try clear hb); (try clear hb2); (try clear hk); (try clear hi)) | (go_at_call 19; (with_reducible refine (ostinatoref1_And.calls a0 a1 t118 _ A22.out).mono ?_); rintro e w' ⟨rfl, ⟨nd, rfl⟩⟩) | (go_at_call 20; (with_reducible refine (bits_Turn.calls a0 a4 t119 _ A24.out).mono ?_); rintro e w43 ⟨rfl, hb⟩; have n0_ := Aside0.mk (below_step (by repeat (first | (with_reducible first | exact HB.out | apply below_alloc | apply pw_below_drewN | apply below_drew1) | exact HB.out)) hb); clear HB; have HB := n0_; clear n0_; (try clear hb); (try clear hb2); (try clear hk); (try clear hi)) | (go_at_call 21; (with_reducible refine (ostinatoref1_Turn.calls a0 a4 t120 _ A25.out).mono ?_); rintro e w' ⟨rfl, ⟨nd, rfl⟩⟩) | (go_at_call 22; (with_reducible refine (bits_FromBytes.calls a1 t121 _ A27.out).mono ?_); rintro e w44 ⟨rfl, hb⟩; have n0_ := Aside0.mk (below_step (by repeat (first | (with_reducible first | exact HB.out | apply below_alloc | apply pw_below_drewN | apply below_drew1) | exact HB.out)) hb); clear HB; have HB := n0_; clear n0_; (try clear hb); (try clear hb2); (try clear hk); (try clear hi)) | (go_at_call 23; (with_reducible refine (ostinatoref1_FromBytes.calls a1 t122 _ A28.out).mono ?_); rintro e w45 ⟨rfl, hb⟩; have n0_ := Aside0.mk (below_step (by repeat (first | (with_reducible first | exact HB.out | apply below_alloc | apply pw_below_drewN | apply below_drew1) | exact HB.out)) hb); clear HB; have HB := n0_; clear n0_; (try clear hb); (try clear hb2); (try clear hk); (try clear hi)))
                      go_ret
                      exact ⟨by first | rfl | (simp [errW_none, errW_some] <;> rfl) | (simp [*, errW_none, errW_some] <;> rfl), by repeat (first | (with_reducible first | exact HB.out | apply below_alloc | apply pw_below_drewN | apply below_drew1) | exact HB.out)⟩
                  · rw [if_neg c26] at H
                    have c26b0 : (t119.toList == t120.toList) = false := beq_eq_false_iff_ne.mpr c26
                    have c26b1 : (t119.toList != t120.toList) = true := bne_iff_ne.mpr c26
                    obtain rfl := Option.some.inj H
                    go_wp2_with (first | ((with_reducible refine gate_callee (f := 12) rfl ?_); refine goesL_ (some 22) rfl rfl Try.func12 (by kernel_rfl) rfl #[.string a0] rfl (by (try simp only [List.map_toArray, List.map_cons, List.map_nil]); first | done | rfl | (simp only [List.length_drop, List.length_take]; rfl)) ?_; (with_reducible refine (bits_Is.calls a0 t111 _ A12.out).mono ?_); rintro e w' ⟨rfl, ⟨nd, rfl⟩⟩; refine ⟨_, rfl, ?_⟩) | ((with_reducible refine gate_callee (f := 13) rfl ?_); refine goesL_ (some 24) rfl rfl Try.func13 (by kernel_rfl) rfl #[.string a0] rfl (by (try simp only [List.map_toArray, List.map_cons, List.map_nil]); first | done | rfl | (simp only [List.length_drop, List.length_take]; rfl)) ?_; (with_reducible refine (ostinatoref1_Is.calls a0 t112 _ A13.out).mono ?_); rintro e w' ⟨rfl, ⟨nd, rfl⟩⟩; refine ⟨_, rfl, ?_⟩) | (go_at_call 14; (with_reducible refine (bits_Of.calls a2 a3 t113 _ A15.out).mono ?_); rintro e w46 ⟨rfl, hb⟩; have n0_ := Aside0.mk (below_step (by repeat (first | (with_reducible first | exact HB.out | apply below_alloc | apply pw_below_drewN | apply below_drew1) | exact HB.out)) hb); clear HB; have HB := n0_; clear n0_; (try clear hb); (try clear hb2); (try clear hk); (try clear hi)) | (go_at_call 15; (with_reducible refine (ostinatoref1_Of.calls a2 a3 t114 _ A16.out).mono ?_); rintro e w47 ⟨rfl, hb⟩; have n0_ := Aside0.mk (below_step (by repeat (first | (with_reducible first | exact HB.out | apply below_alloc | apply pw_below_drewN | apply below_drew1) | exact HB.out)) hb); clear HB; have HB := n0_; clear n0_; (try clear hb); (try clear hb2); (try clear hk); (try clear hi)) | (go_at_call 16; (with_reducible refine (bits_Num.calls a0 t115 _ A18.out).mono ?_); rintro e w' ⟨rfl, ⟨nd, rfl⟩⟩) | (go_at_call 17; (with_reducible refine (ostinatoref1_Num.calls a0 t116 _ A19.out).mono ?_); rintro e w' ⟨rfl, ⟨nd, rfl⟩⟩) | (go_at_call 18; (with_reducible refine (bits_And.calls a0 a1 t117 _ A21.out).mono ?_); rintro e w48 ⟨rfl, hb⟩; have n0_ := Aside0.mk (below_step (by repeat (first | (with_reducible first | exact HB.out | apply below_alloc | apply pw_below_drewN | apply below_drew1) | exact HB.out)) hb); clear HB; have HB := n0_; clear n0_; (try clear hb); (try clear hb2); (try clear hk); (try clear hi)) | (go_at_call 19; (with_reducible refine (ostinatoref1_And.calls a0 a1 t118 _ A22.out).mono ?_); rintro e w' ⟨rfl, ⟨nd, rfl⟩⟩) | (go_at_call 20; (with_reducible refine (bits_Turn.calls a0 a4 t119 _ A24.out).mono ?_); rintro e w49 ⟨rfl, hb⟩; have n0_ := Aside0.mk (below_step (by repeat (first | (with_reducible first | exact HB.out | apply below_alloc | apply pw_below_drewN | apply below_drew1) | exact HB.out)) hb); clear HB; have HB := n0_; clear n0_; (try clear hb); (try clear hb2); (try clear hk); (try clear hi)) | (go_at_call 21; (with_reducible refine (ostinatoref1_Turn.calls a0 a4 t120 _ A25.out).mono ?_); rintro e w' ⟨rfl, ⟨nd, rfl⟩⟩))
                    go_ret
                    exact ⟨by first | rfl | (simp [errW_none, errW_some] <;> rfl) | (simp [*, errW_none, errW_some] <;> rfl), by repeat (first | (with_reducible first | exact HB.out | apply below_alloc | apply pw_below_drewN | apply below_drew1) | exact HB.out)⟩
                · rw [if_neg c23] at H
                  have c23b0 : (t117.toList == t118.toList) = false := beq_eq_false_iff_ne.mpr c23
                  have c23b1 : (t117.toList != t118.toList) = true := bne_iff_ne.mpr c23
                  obtain rfl := Option.some.inj H
                  go_wp2_with (first | ((with_reducible refine gate_callee (f := 12) rfl ?_); refine goesL_ (some 22) rfl rfl Try.func12 (by kernel_rfl) rfl #[.string a0] rfl (by (try simp only [List.map_toArray, List.map_cons, List.map_nil]); first | done | rfl | (simp only [List.length_drop, List.length_take]; rfl)) ?_; (with_reducible refine (bits_Is.calls a0 t111 _ A12.out).mono ?_); rintro e w' ⟨rfl, ⟨nd, rfl⟩⟩; refine ⟨_, rfl, ?_⟩) | ((with_reducible refine gate_callee (f := 13) rfl ?_); refine goesL_ (some 24) rfl rfl Try.func13 (by kernel_rfl) rfl #[.string a0] rfl (by (try simp only [List.map_toArray, List.map_cons, List.map_nil]); first | done | rfl | (simp only [List.length_drop, List.length_take]; rfl)) ?_; (with_reducible refine (ostinatoref1_Is.calls a0 t112 _ A13.out).mono ?_); rintro e w' ⟨rfl, ⟨nd, rfl⟩⟩; refine ⟨_, rfl, ?_⟩) | (go_at_call 14; (with_reducible refine (bits_Of.calls a2 a3 t113 _ A15.out).mono ?_); rintro e w50 ⟨rfl, hb⟩; have n0_ := Aside0.mk (below_step (by repeat (first | (with_reducible first | exact HB.out | apply below_alloc | apply pw_below_drewN | apply below_drew1) | exact HB.out)) hb); clear HB; have HB := n0_; clear n0_; (try clear hb); (try clear hb2); (try clear hk); (try clear hi)) | (go_at_call 15; (with_reducible refine (ostinatoref1_Of.calls a2 a3 t114 _ A16.out).mono ?_); rintro e w51 ⟨rfl, hb⟩; have n0_ := Aside0.mk (below_step (by repeat (first | (with_reducible first | exact HB.out | apply below_alloc | apply pw_below_drewN | apply below_drew1) | exact HB.out)) hb); clear HB; have HB := n0_; clear n0_; (try clear hb); (try clear hb2); (try clear hk); (try clear hi)) | (go_at_call 16; (with_reducible refine (bits_Num.calls a0 t115 _ A18.out).mono ?_); rintro e w' ⟨rfl, ⟨nd, rfl⟩⟩) | (go_at_call 17; (with_reducible refine (ostinatoref1_Num.calls a0 t116 _ A19.out).mono ?_); rintro e w' ⟨rfl, ⟨nd, rfl⟩⟩) | (go_at_call 18; (with_reducible refine (bits_And.calls a0 a1 t117 _ A21.out).mono ?_); rintro e w52 ⟨rfl, hb⟩; have n0_ := Aside0.mk (below_step (by repeat (first | (with_reducible first | exact HB.out | apply below_alloc | apply pw_below_drewN | apply below_drew1) | exact HB.out)) hb); clear HB; have HB := n0_; clear n0_; (try clear hb); (try clear hb2); (try clear hk); (try clear hi)) | (go_at_call 19; (with_reducible refine (ostinatoref1_And.calls a0 a1 t118 _ A22.out).mono ?_); rintro e w' ⟨rfl, ⟨nd, rfl⟩⟩))
                  go_ret
                  exact ⟨by first | rfl | (simp [errW_none, errW_some] <;> rfl) | (simp [*, errW_none, errW_some] <;> rfl), by repeat (first | (with_reducible first | exact HB.out | apply below_alloc | apply pw_below_drewN | apply below_drew1) | exact HB.out)⟩
              · rw [if_neg c20] at H
                have c20b0 : (t115 == t116) = false := beq_eq_false_iff_ne.mpr c20
                have c20b1 : (t115 != t116) = true := bne_iff_ne.mpr c20
                obtain rfl := Option.some.inj H
                go_wp2_with (first | ((with_reducible refine gate_callee (f := 12) rfl ?_); refine goesL_ (some 22) rfl rfl Try.func12 (by kernel_rfl) rfl #[.string a0] rfl (by (try simp only [List.map_toArray, List.map_cons, List.map_nil]); first | done | rfl | (simp only [List.length_drop, List.length_take]; rfl)) ?_; (with_reducible refine (bits_Is.calls a0 t111 _ A12.out).mono ?_); rintro e w' ⟨rfl, ⟨nd, rfl⟩⟩; refine ⟨_, rfl, ?_⟩) | ((with_reducible refine gate_callee (f := 13) rfl ?_); refine goesL_ (some 24) rfl rfl Try.func13 (by kernel_rfl) rfl #[.string a0] rfl (by (try simp only [List.map_toArray, List.map_cons, List.map_nil]); first | done | rfl | (simp only [List.length_drop, List.length_take]; rfl)) ?_; (with_reducible refine (ostinatoref1_Is.calls a0 t112 _ A13.out).mono ?_); rintro e w' ⟨rfl, ⟨nd, rfl⟩⟩; refine ⟨_, rfl, ?_⟩) | (go_at_call 14; (with_reducible refine (bits_Of.calls a2 a3 t113 _ A15.out).mono ?_); rintro e w53 ⟨rfl, hb⟩; have n0_ := Aside0.mk (below_step (by repeat (first | (with_reducible first | exact HB.out | apply below_alloc | apply pw_below_drewN | apply below_drew1) | exact HB.out)) hb); clear HB; have HB := n0_; clear n0_; (try clear hb); (try clear hb2); (try clear hk); (try clear hi)) | (go_at_call 15; (with_reducible refine (ostinatoref1_Of.calls a2 a3 t114 _ A16.out).mono ?_); rintro e w54 ⟨rfl, hb⟩; have n0_ := Aside0.mk (below_step (by repeat (first | (with_reducible first | exact HB.out | apply below_alloc | apply pw_below_drewN | apply below_drew1) | exact HB.out)) hb); clear HB; have HB := n0_; clear n0_; (try clear hb); (try clear hb2); (try clear hk); (try clear hi)) | (go_at_call 16; (with_reducible refine (bits_Num.calls a0 t115 _ A18.out).mono ?_); rintro e w' ⟨rfl, ⟨nd, rfl⟩⟩) | (go_at_call 17; (with_reducible refine (ostinatoref1_Num.calls a0 t116 _ A19.out).mono ?_); rintro e w' ⟨rfl, ⟨nd, rfl⟩⟩))
                go_ret
                exact ⟨by first | rfl | (simp [errW_none, errW_some] <;> rfl) | (simp [*, errW_none, errW_some] <;> rfl), by repeat (first | (with_reducible first | exact HB.out | apply below_alloc | apply pw_below_drewN | apply below_drew1) | exact HB.out)⟩
            · rw [if_neg c17] at H
              have c17b0 : (t113.toList == t114.toList) = false := beq_eq_false_iff_ne.mpr c17
              have c17b1 : (t113.toList != t114.toList) = true := bne_iff_ne.mpr c17
              obtain rfl := Option.some.inj H
              go_wp2_with (first | ((with_reducible refine gate_callee (f := 12) rfl ?_); refine goesL_ (some 22) rfl rfl Try.func12 (by kernel_rfl) rfl #[.string a0] rfl (by (try simp only [List.map_toArray, List.map_cons, List.map_nil]); first | done | rfl | (simp only [List.length_drop, List.length_take]; rfl)) ?_; (with_reducible refine (bits_Is.calls a0 t111 _ A12.out).mono ?_); rintro e w' ⟨rfl, ⟨nd, rfl⟩⟩; refine ⟨_, rfl, ?_⟩) | ((with_reducible refine gate_callee (f := 13) rfl ?_); refine goesL_ (some 24) rfl rfl Try.func13 (by kernel_rfl) rfl #[.string a0] rfl (by (try simp only [List.map_toArray, List.map_cons, List.map_nil]); first | done | rfl | (simp only [List.length_drop, List.length_take]; rfl)) ?_; (with_reducible refine (ostinatoref1_Is.calls a0 t112 _ A13.out).mono ?_); rintro e w' ⟨rfl, ⟨nd, rfl⟩⟩; refine ⟨_, rfl, ?_⟩) | (go_at_call 14; (with_reducible refine (bits_Of.calls a2 a3 t113 _ A15.out).mono ?_); rintro e w55 ⟨rfl, hb⟩; have n0_ := Aside0.mk (below_step (by repeat (first | (with_reducible first | exact HB.out | apply below_alloc | apply pw_below_drewN | apply below_drew1) | exact HB.out)) hb); clear HB; have HB := n0_; clear n0_; (try clear hb); (try clear hb2); (try clear hk); (try clear hi)) | (go_at_call 15; (with_reducible refine (ostinatoref1_Of.calls a2 a3 t114 _ A16.out).mono ?_); rintro e w56 ⟨rfl, hb⟩; have n0_ := Aside0.mk (below_step (by repeat (first | (with_reducible first | exact HB.out | apply below_alloc | apply pw_below_drewN | apply below_drew1) | exact HB.out)) hb); clear HB; have HB := n0_; clear n0_; (try clear hb); (try clear hb2); (try clear hk); (try clear hi)))
              go_ret
              exact ⟨by first | rfl | (simp [errW_none, errW_some] <;> rfl) | (simp [*, errW_none, errW_some] <;> rfl), by repeat (first | (with_reducible first | exact HB.out | apply below_alloc | apply pw_below_drewN | apply below_drew1) | exact HB.out)⟩
          · rw [if_neg c14] at H
            have c14b0 : (t111 == t112) = false := by simpa using c14
            (try (have c14b1 : decide (t111 = t112) = false := by simpa using c14))
            (try (have c14b2 : (t111 == t112) = false := by simpa using c14))
            (try (have c14b3 : ¬ (t111 = t112) := by simpa using c14))
            clear c14
            obtain rfl := Option.some.inj H
            go_wp2_with (first | ((with_reducible refine gate_callee (f := 12) rfl ?_); refine goesL_ (some 22) rfl rfl Try.func12 (by kernel_rfl) rfl #[.string a0] rfl (by (try simp only [List.map_toArray, List.map_cons, List.map_nil]); first | done | rfl | (simp only [List.length_drop, List.length_take]; rfl)) ?_; (with_reducible refine (bits_Is.calls a0 t111 _ A12.out).mono ?_); rintro e w' ⟨rfl, ⟨nd, rfl⟩⟩; refine ⟨_, rfl, ?_⟩) | ((with_reducible refine gate_callee (f := 13) rfl ?_); refine goesL_ (some 24) rfl rfl Try.func13 (by kernel_rfl) rfl #[.string a0] rfl (by (try simp only [List.map_toArray, List.map_cons, List.map_nil]); first | done | rfl | (simp only [List.length_drop, List.length_take]; rfl)) ?_; (with_reducible refine (ostinatoref1_Is.calls a0 t112 _ A13.out).mono ?_); rintro e w' ⟨rfl, ⟨nd, rfl⟩⟩; refine ⟨_, rfl, ?_⟩))
            go_ret
            exact ⟨by first | rfl | (simp [errW_none, errW_some] <;> rfl) | (simp [*, errW_none, errW_some] <;> rfl), by repeat (first | (with_reducible first | exact HB.out | apply below_alloc | apply pw_below_drewN | apply below_drew1) | exact HB.out)⟩
  · replace c7 := Bool.eq_false_iff.mpr c7
    subst c7
    have H1 : (some false) = some r := by rw [if_neg (show ¬ (false = true) by decide)] at H; exact H
    clear H
    have H := H1
    clear H1
    obtain rfl := Option.some.inj H
    go_enter Try.func3, Try.ntmps3
    go_wp2_with (first | ((with_reducible refine gate_callee (f := 11) rfl ?_); refine goesL_ (some 11) rfl rfl Try.func11 (by kernel_rfl) rfl #[] rfl (by (try simp only [List.map_toArray, List.map_cons, List.map_nil]); first | done | rfl | (simp only [List.length_drop, List.length_take]; rfl)) ?_; (with_reducible refine (ostinatolaw1_known.calls  false _ A6.out).mono ?_); rintro e w57 ⟨rfl, hb⟩; refine ⟨_, rfl, ?_⟩; have n0_ := Aside0.mk (below_step (by repeat (first | (with_reducible first | exact HB.out | apply below_alloc | apply pw_below_drewN | apply below_drew1) | exact HB.out)) hb); clear HB; have HB := n0_; clear n0_; (try clear hb); (try clear hb2); (try clear hk); (try clear hi)))
    go_ret
    exact ⟨by first | rfl | (simp [errW_none, errW_some] <;> rfl) | (simp [*, errW_none, errW_some] <;> rfl), by repeat (first | (with_reducible first | exact HB.out | apply below_alloc | apply pw_below_drewN | apply below_drew1) | exact HB.out)⟩

/-- THE ONE PURE STATEMENT of ostinatolaw1_BitsTell: yours. -/
def ostinatolaw1_BitsTell.Pure : Prop := ∀ (a0 : ByteArray) (a1 : ByteArray) (a2 : Int) (a3 : Int) (a4 : Int), a0.size ≤ 140737488351232 → a1.size ≤ 140737488351232 → (Lit.int .u64 a2).wf = true → (Lit.int .i64 a3).wf = true → (Lit.int .i64 a4).wf = true → ∃ k, ostinatolaw1_BitsTell.f k a0 a1 a2 a3 a4 = some true
theorem ostinatolaw1_BitsTell.walk (P : ostinatolaw1_BitsTell.Pure) (a0 : ByteArray) (a1 : ByteArray) (a2 : Int) (a3 : Int) (a4 : Int) (w : World) (w0 : a0.size ≤ 140737488351232) (w1 : a1.size ≤ 140737488351232) (w2 : (Lit.int .u64 a2).wf = true) (w3 : (Lit.int .i64 a3).wf = true) (w4 : (Lit.int .i64 a4).wf = true) :
    Calls Try.prog 3 #[.string a0, .string a1, .int .u64 a2, .int .i64 a3, .int .i64 a4] w fun e w' => e = .returned (.bool true) ∧ Below w.heap.size w w' := by
  obtain ⟨k, h⟩ := P a0 a1 a2 a3 a4 w0 w1 w2 w3 w4
  refine (ostinatolaw1_BitsTell.calls k a0 a1 a2 a3 a4 true w h).mono ?_
  rintro e w' ⟨rfl, hd⟩
  exact ⟨rfl, hd⟩

end Go.Proofs.Ytpmbapefchffjaa.QBitsTell
