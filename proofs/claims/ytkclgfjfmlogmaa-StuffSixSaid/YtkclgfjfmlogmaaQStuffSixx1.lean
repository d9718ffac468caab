-- Written by a program out of the translation, over contracts proved by hand.
import Derived.Test.YtkclgfjfmlogmaaQStuffSixx0
namespace Go.Proofs.Ytkclgfjfmlogmaa.QStuffSix
open Go.RowKit Go.Proofs.Ytkclgfjfmlogmaa.Plug Go.Proofs.YtkclgfjfmlogmaaW.PrintWords Go.Proofs.YtkclgfjfmlogmaaW.PrintLast Go.Proofs.YtkclgfjfmlogmaaW.PrintMore
attribute [local go_sem] max2_int min2_int max_two min_two max_three min_three max_four min_four   -- for this text's walks alone
set_option linter.unusedVariables false
set_option linter.unusedSimpArgs false

/-! ### ostinatolaw2_known: function 9 -/
def ostinatolaw2_known.f  : Option (Bool) := (stuff_Unstuff.f (⟨#[48, 48, 48, 48, 48, 49]⟩ : ByteArray)).bind fun bt101 => ((stuff_Unstuff.f (⟨#[48, 48, 48, 48, 48, 48, 49]⟩ : ByteArray)).bind fun bt103 => ((stuff_Stuff.f (⟨#[48, 48, 48, 48, 48]⟩ : ByteArray)).bind fun t105 => (if t105.toList = ([48, 48, 48, 48, 48, 49] : List UInt8) then (if bt101.1.toList = ([48, 48, 48, 48, 48] : List UInt8) then (if bt101.2 = (-1) then (if bt103.2 = 5 then ((stuff_Next.f (⟨#[48, 48, 48, 48, 48]⟩ : ByteArray)).bind fun t106 => (if t106 = 1 then ((stuff_Next.f (⟨#[49, 49, 49, 49, 49]⟩ : ByteArray)).bind fun t107 => (if t107 = 0 then ((stuff_Next.f (⟨#[48, 49]⟩ : ByteArray)).bind fun t108 => (if t108 = (-1) then ((stuff_Next.f (⟨#[48, 48, 48, 48, 48, 48]⟩ : ByteArray)).bind fun t109 => (if t109 = (-2) then ((stuff_Most.f 5).bind fun t110 => (some (t110 == 6))) else (some false))) else (some false))) else (some false))) else (some false))) else (some false)) else (some false)) else (some false)) else (some false))))
set_option maxHeartbeats 8000000 in
set_option maxRecDepth 100000 in
theorem ostinatolaw2_known.calls  (r : Bool) (w : World) (h : ostinatolaw2_known.f  = some r) :
    Calls Try.prog 9 #[] w fun e w' => e = .returned (.bool r) ∧ Below w.heap.size w w' := by
  have HB := Aside0.mk (Below.refl w.heap.size w)
  have H : ((stuff_Unstuff.f (⟨#[48, 48, 48, 48, 48, 49]⟩ : ByteArray)).bind fun bt101 => ((stuff_Unstuff.f (⟨#[48, 48, 48, 48, 48, 48, 49]⟩ : ByteArray)).bind fun bt103 => ((stuff_Stuff.f (⟨#[48, 48, 48, 48, 48]⟩ : ByteArray)).bind fun t105 => (if t105.toList = ([48, 48, 48, 48, 48, 49] : List UInt8) then (if bt101.1.toList = ([48, 48, 48, 48, 48] : List UInt8) then (if bt101.2 = (-1) then (if bt103.2 = 5 then ((stuff_Next.f (⟨#[48, 48, 48, 48, 48]⟩ : ByteArray)).bind fun t106 => (if t106 = 1 then ((stuff_Next.f (⟨#[49, 49, 49, 49, 49]⟩ : ByteArray)).bind fun t107 => (if t107 = 0 then ((stuff_Next.f (⟨#[48, 49]⟩ : ByteArray)).bind fun t108 => (if t108 = (-1) then ((stuff_Next.f (⟨#[48, 48, 48, 48, 48, 48]⟩ : ByteArray)).bind fun t109 => (if t109 = (-2) then ((stuff_Most.f 5).bind fun t110 => (some (t110 == 6))) else (some false))) else (some false))) else (some false))) else (some false))) else (some false)) else (some false)) else (some false)) else (some false))))) = some r := h
  clear h
  replace H := Option.bind_eq_some_iff.mp H
  obtain ⟨⟨t101, t102⟩, A10, H⟩ := H
  replace H : ((stuff_Unstuff.f (⟨#[48, 48, 48, 48, 48, 48, 49]⟩ : ByteArray)).bind fun bt103 => ((stuff_Stuff.f (⟨#[48, 48, 48, 48, 48]⟩ : ByteArray)).bind fun t105 => (if t105.toList = ([48, 48, 48, 48, 48, 49] : List UInt8) then (if t101.toList = ([48, 48, 48, 48, 48] : List UInt8) then (if t102 = (-1) then (if bt103.2 = 5 then ((stuff_Next.f (⟨#[48, 48, 48, 48, 48]⟩ : ByteArray)).bind fun t106 => (if t106 = 1 then ((stuff_Next.f (⟨#[49, 49, 49, 49, 49]⟩ : ByteArray)).bind fun t107 => (if t107 = 0 then ((stuff_Next.f (⟨#[48, 49]⟩ : ByteArray)).bind fun t108 => (if t108 = (-1) then ((stuff_Next.f (⟨#[48, 48, 48, 48, 48, 48]⟩ : ByteArray)).bind fun t109 => (if t109 = (-2) then ((stuff_Most.f 5).bind fun t110 => (some (t110 == 6))) else (some false))) else (some false))) else (some false))) else (some false))) else (some false)) else (some false)) else (some false)) else (some false)))) = some r := H
  have A1 := Aside0.mk A10
  clear A10
  replace H := Option.bind_eq_some_iff.mp H
  obtain ⟨⟨t103, t104⟩, A20, H⟩ := H
  replace H : ((stuff_Stuff.f (⟨#[48, 48, 48, 48, 48]⟩ : ByteArray)).bind fun t105 => (if t105.toList = ([48, 48, 48, 48, 48, 49] : List UInt8) then (if t101.toList = ([48, 48, 48, 48, 48] : List UInt8) then (if t102 = (-1) then (if t104 = 5 then ((stuff_Next.f (⟨#[48, 48, 48, 48, 48]⟩ : ByteArray)).bind fun t106 => (if t106 = 1 then ((stuff_Next.f (⟨#[49, 49, 49, 49, 49]⟩ : ByteArray)).bind fun t107 => (if t107 = 0 then ((stuff_Next.f (⟨#[48, 49]⟩ : ByteArray)).bind fun t108 => (if t108 = (-1) then ((stuff_Next.f (⟨#[48, 48, 48, 48, 48, 48]⟩ : ByteArray)).bind fun t109 => (if t109 = (-2) then ((stuff_Most.f 5).bind fun t110 => (some (t110 == 6))) else (some false))) else (some false))) else (some false))) else (some false))) else (some false)) else (some false)) else (some false)) else (some false))) = some r := H
  have A2 := Aside0.mk A20
  clear A20
  replace H := Option.bind_eq_some_iff.mp H
  obtain ⟨t105, A30, H⟩ := H
  replace H : (if t105.toList = ([48, 48, 48, 48, 48, 49] : List UInt8) then (if t101.toList = ([48, 48, 48, 48, 48] : List UInt8) then (if t102 = (-1) then (if t104 = 5 then ((stuff_Next.f (⟨#[48, 48, 48, 48, 48]⟩ : ByteArray)).bind fun t106 => (if t106 = 1 then ((stuff_Next.f (⟨#[49, 49, 49, 49, 49]⟩ : ByteArray)).bind fun t107 => (if t107 = 0 then ((stuff_Next.f (⟨#[48, 49]⟩ : ByteArray)).bind fun t108 => (if t108 = (-1) then ((stuff_Next.f (⟨#[48, 48, 48, 48, 48, 48]⟩ : ByteArray)).bind fun t109 => (if t109 = (-2) then ((stuff_Most.f 5).bind fun t110 => (some (t110 == 6))) else (some false))) else (some false))) else (some false))) else (some false))) else (some false)) else (some false)) else (some false)) else (some false)) = some r := H
  have A3 := Aside0.mk A30
  clear A30
  by_cases c4 : t105.toList = ([48, 48, 48, 48, 48, 49] : List UInt8)
  · rw [if_pos c4] at H
    have c4b0 : (t105.toList == ([48, 48, 48, 48, 48, 49] : List UInt8)) = true := beq_iff_eq.mpr c4
    have c4b1 : (t105.toList != ([48, 48, 48, 48, 48, 49] : List UInt8)) = false := bne_eq_false_iff_eq.mpr c4
    clear c4
    by_cases c5 : t101.toList = ([48, 48, 48, 48, 48] : List UInt8)
    · rw [if_pos c5] at H
      have c5b0 : (t101.toList == ([48, 48, 48, 48, 48] : List UInt8)) = true := beq_iff_eq.mpr c5
      have c5b1 : (t101.toList != ([48, 48, 48, 48, 48] : List UInt8)) = false := bne_eq_false_iff_eq.mpr c5
      clear c5
      by_cases c6 : t102 = (-1)
      · rw [if_pos c6] at H
        have c6b0 : (t102 == (-1)) = true := beq_iff_eq.mpr c6
        have c6b1 : (t102 != (-1)) = false := bne_eq_false_iff_eq.mpr c6
        clear c6
        by_cases c7 : t104 = 5
        · rw [if_pos c7] at H
          have c7b0 : (t104 == 5) = true := beq_iff_eq.mpr c7
          have c7b1 : (t104 != 5) = false := bne_eq_false_iff_eq.mpr c7
          clear c7
          replace H := Option.bind_eq_some_iff.mp H
          obtain ⟨t106, A80, H⟩ := H
          replace H : (if t106 = 1 then ((stuff_Next.f (⟨#[49, 49, 49, 49, 49]⟩ : ByteArray)).bind fun t107 => (if t107 = 0 then ((stuff_Next.f (⟨#[48, 49]⟩ : ByteArray)).bind fun t108 => (if t108 = (-1) then ((stuff_Next.f (⟨#[48, 48, 48, 48, 48, 48]⟩ : ByteArray)).bind fun t109 => (if t109 = (-2) then ((stuff_Most.f 5).bind fun t110 => (some (t110 == 6))) else (some false))) else (some false))) else (some false))) else (some false)) = some r := H
          have A8 := Aside0.mk A80
          clear A80
          by_cases c9 : t106 = 1
          · rw [if_pos c9] at H
            have c9b0 : (t106 == 1) = true := beq_iff_eq.mpr c9
            have c9b1 : (t106 != 1) = false := bne_eq_false_iff_eq.mpr c9
            clear c9
            replace H := Option.bind_eq_some_iff.mp H
            obtain ⟨t107, A100, H⟩ := H
            replace H : (if t107 = 0 then ((stuff_Next.f (⟨#[48, 49]⟩ : ByteArray)).bind fun t108 => (if t108 = (-1) then ((stuff_Next.f (⟨#[48, 48, 48, 48, 48, 48]⟩ : ByteArray)).bind fun t109 => (if t109 = (-2) then ((stuff_Most.f 5).bind fun t110 => (some (t110 == 6))) else (some false))) else (some false))) else (some false)) = some r := H
            have A10 := Aside0.mk A100
            clear A100
            by_cases c11 : t107 = 0
            · rw [if_pos c11] at H
              have c11b0 : (t107 == 0) = true := beq_iff_eq.mpr c11
              have c11b1 : (t107 != 0) = false := bne_eq_false_iff_eq.mpr c11
              clear c11
              replace H := Option.bind_eq_some_iff.mp H
              obtain ⟨t108, A120, H⟩ := H
              replace H : (if t108 = (-1) then ((stuff_Next.f (⟨#[48, 48, 48, 48, 48, 48]⟩ : ByteArray)).bind fun t109 => (if t109 = (-2) then ((stuff_Most.f 5).bind fun t110 => (some (t110 == 6))) else (some false))) else (some false)) = some r := H
              have A12 := Aside0.mk A120
              clear A120
              by_cases c13 : t108 = (-1)
              · rw [if_pos c13] at H
                have c13b0 : (t108 == (-1)) = true := beq_iff_eq.mpr c13
                have c13b1 : (t108 != (-1)) = false := bne_eq_false_iff_eq.mpr c13
                clear c13
                replace H := Option.bind_eq_some_iff.mp H
                obtain ⟨t109, A140, H⟩ := H
                replace H : (if t109 = (-2) then ((stuff_Most.f 5).bind fun t110 => (some (t110 == 6))) else (some false)) = some r := H
                have A14 := Aside0.mk A140
                clear A140
                by_cases c15 : t109 = (-2)
                · rw [if_pos c15] at H
                  have c15b0 : (t109 == (-2)) = true := beq_iff_eq.mpr c15
                  have c15b1 : (t109 != (-2)) = false := bne_eq_false_iff_eq.mpr c15
                  clear c15
                  replace H := Option.bind_eq_some_iff.mp H
                  obtain ⟨t110, A160, H⟩ := H
                  replace H : (some (t110 == 6)) = some r := H
                  have A16 := Aside0.mk A160
                  clear A160
                  obtain rfl := Option.some.inj H
                  go_enter Try.func9, Try.ntmps9
                  go_wp2_with (first | ((with_reducible refine gate_callee (f := 12) rfl ?_); refine goesL_ (some 6) rfl rfl Try.func12 (by kernel_rfl) rfl #[.string (⟨#[48, 48, 48, 48, 48, 49]⟩ : ByteArray)] rfl (by (try simp only [List.map_toArray, List.map_cons, List.map_nil]); first | done | rfl | (simp only [List.length_drop, List.length_take]; rfl)) ?_; (with_reducible refine (stuff_Unstuff.calls (⟨#[48, 48, 48, 48, 48, 49]⟩ : ByteArray) t101 t102 _ A1.out).mono ?_); rintro e w17 ⟨rfl, hb⟩; refine ⟨_, rfl, ?_⟩; have n0_ := Aside0.mk (below_step (by repeat (first | (with_reducible first | exact HB.out | apply below_alloc | apply pw_below_drewN | apply below_drew1) | exact HB.out)) hb); clear HB; have HB := n0_; clear n0_; (try clear hb); (try clear hb2); (try clear hk); (try clear hi)) | ((with_reducible refine gate_callee (f := 12) rfl ?_); refine goesL_ (some 10) rfl rfl Try.func12 (by kernel_rfl) rfl #[.string (⟨#[48, 48, 48, 48, 48, 48, 49]⟩ : ByteArray)] rfl (by (try simp only [List.map_toArray, List.map_cons, List.map_nil]); first | done | rfl | (simp only [List.length_drop, List.length_take]; rfl)) ?_; (with_reducible refine (stuff_Unstuff.calls (⟨#[48, 48, 48, 48, 48, 48, 49]⟩ : ByteArray) t103 t104 _ A2.out).mono ?_); rintro e w18 ⟨rfl, hb⟩; refine ⟨_, rfl, ?_⟩; have n0_ := Aside0.mk (below_step (by repeat (first | (with_reducible first | exact HB.out | apply below_alloc | apply pw_below_drewN | apply below_drew1) | exact HB.out)) hb); clear HB; have HB := n0_; clear n0_; (try clear hb); (try clear hb2); (try clear hk); (try clear hi)) | ((with_reducible refine gate_callee (f := 11) rfl ?_); refine goesL_ (some 13) rfl rfl Try.func11 (by kernel_rfl) rfl #[.string (⟨#[48, 48, 48, 48, 48]⟩ : ByteArray)] rfl (by (try simp only [List.map_toArray, List.map_cons, List.map_nil]); first | done | rfl | (simp only [List.length_drop, List.length_take]; rfl)) ?_; (with_reducible refine (stuff_Stuff.calls (⟨#[48, 48, 48, 48, 48]⟩ : ByteArray) t105 _ A3.out).mono ?_); rintro e w19 ⟨rfl, hb⟩; refine ⟨_, rfl, ?_⟩; have n0_ := Aside0.mk (below_step (by repeat (first | (with_reducible first | exact HB.out | apply below_alloc | apply pw_below_drewN | apply below_drew1) | exact HB.out)) hb); clear HB; have HB := n0_; clear n0_; (try clear hb); (try clear hb2); (try clear hk); (try clear hi)) | (go_at_call 14; (with_reducible refine (stuff_Next.calls (⟨#[48, 48, 48, 48, 48]⟩ : ByteArray) t106 _ A8.out).mono ?_); rintro e w20 ⟨rfl, hb⟩; have n0_ := Aside0.mk (below_step (by repeat (first | (with_reducible first | exact HB.out | apply below_alloc | apply pw_below_drewN | apply below_drew1) | exact HB.out)) hb); clear HB; have HB := n0_; clear n0_; (try clear hb); (try clear hb2); (try clear hk); (try clear hi)) | (go_at_call 14; (with_reducible refine (stuff_Next.calls (⟨#[49, 49, 49, 49, 49]⟩ : ByteArray) t107 _ A10.out).mono ?_); rintro e w21 ⟨rfl, hb⟩; have n0_ := Aside0.mk (below_step (by repeat (first | (with_reducible first | exact HB.out | apply below_alloc | apply pw_below_drewN | apply below_drew1) | exact HB.out)) hb); clear HB; have HB := n0_; clear n0_; (try clear hb); (try clear hb2); (try clear hk); (try clear hi)) | (go_at_call 14; (with_reducible refine (stuff_Next.calls (⟨#[48, 49]⟩ : ByteArray) t108 _ A12.out).mono ?_); rintro e w22 ⟨rfl, hb⟩; have n0_ := Aside0.mk (below_step (by repeat (first | (with_reducible first | exact HB.out | apply below_alloc | apply pw_below_drewN | apply below_drew1) | exact HB.out)) hb); clear HB; have HB := n0_; clear n0_; (try clear hb); (try clear hb2); (try clear hk); (try clear hi)) | (go_at_call 14; (with_reducible refine (stuff_Next.calls (⟨#[48, 48, 48, 48, 48, 48]⟩ : ByteArray) t109 _ A14.out).mono ?_); rintro e w23 ⟨rfl, hb⟩; have n0_ := Aside0.mk (below_step (by repeat (first | (with_reducible first | exact HB.out | apply below_alloc | apply pw_below_drewN | apply below_drew1) | exact HB.out)) hb); clear HB; have HB := n0_; clear n0_; (try clear hb); (try clear hb2); (try clear hk); (try clear hi)) | (go_at_call 13; (with_reducible refine (stuff_Most.calls 5 t110 _ A16.out).mono ?_); rintro e w' ⟨rfl, ⟨nd, rfl⟩⟩))
                  go_ret
                  exact ⟨by first | rfl | (simp [errW_none, errW_some] <;> rfl) | (simp [*, errW_none, errW_some] <;> rfl), by repeat (first | (with_reducible first | exact HB.out | apply below_alloc | apply pw_below_drewN | apply below_drew1) | exact HB.out)⟩
                · rw [if_neg c15] at H
                  have c15b0 : (t109 == (-2)) = false := beq_eq_false_iff_ne.mpr c15
                  have c15b1 : (t109 != (-2)) = true := bne_iff_ne.mpr c15
                  obtain rfl := Option.some.inj H
                  go_enter Try.func9, Try.ntmps9
                  go_wp2_with (first | ((with_reducible refine gate_callee (f := 12) rfl ?_); refine goesL_ (some 6) rfl rfl Try.func12 (by kernel_rfl) rfl #[.string (⟨#[48, 48, 48, 48, 48, 49]⟩ : ByteArray)] rfl (by (try simp only [List.map_toArray, List.map_cons, List.map_nil]); first | done | rfl | (simp only [List.length_drop, List.length_take]; rfl)) ?_; (with_reducible refine (stuff_Unstuff.calls (⟨#[48, 48, 48, 48, 48, 49]⟩ : ByteArray) t101 t102 _ A1.out).mono ?_); rintro e w24 ⟨rfl, hb⟩; refine ⟨_, rfl, ?_⟩; have n0_ := Aside0.mk (below_step (by repeat (first | (with_reducible first | exact HB.out | apply below_alloc | apply pw_below_drewN | apply below_drew1) | exact HB.out)) hb); clear HB; have HB := n0_; clear n0_; (try clear hb); (try clear hb2); (try clear hk); (try clear hi)) | ((with_reducible refine gate_callee (f := 12) rfl ?_); refine goesL_ (some 10) rfl rfl Try.func12 (by kernel_rfl) rfl #[.string (⟨#[48, 48, 48, 48, 48, 48, 49]⟩ : ByteArray)] rfl (by (try simp only [List.map_toArray, List.map_cons, List.map_nil]); first | done | rfl | (simp only [List.length_drop, List.length_take]; rfl)) ?_; (with_reducible refine (stuff_Unstuff.calls (⟨#[48, 48, 48, 48, 48, 48, 49]⟩ : ByteArray) t103 t104 _ A2.out).mono ?_); rintro e w25 ⟨rfl, hb⟩; refine ⟨_, rfl, ?_⟩; have n0_ := Aside0.mk (below_step (by repeat (first | (with_reducible first | exact HB.out | apply below_alloc | apply pw_below_drewN | apply below_drew1) | exact HB.out)) hb); clear HB; have HB := n0_; clear n0_; (try clear hb); (try clear hb2); (try clear hk); (try clear hi)) | ((with_reducible refine gate_callee (f := 11) rfl ?_); refine goesL_ (some 13) rfl rfl Try.func11 (by kernel_rfl) rfl #[.string (⟨#[48, 48, 48, 48, 48]⟩ : ByteArray)] rfl (by (try simp only [List.map_toArray, List.map_cons, List.map_nil]); first | done | rfl | (simp only [List.length_drop, List.length_take]; rfl)) ?_; (with_reducible refine (stuff_Stuff.calls (⟨#[48, 48, 48, 48, 48]⟩ : ByteArray) t105 _ A3.out).mono ?_); rintro e w26 ⟨rfl, hb⟩; refine ⟨_, rfl, ?_⟩; have n0_ := Aside0.mk (below_step (by repeat (first | (with_reducible first | exact HB.out | apply below_alloc | apply pw_below_drewN | apply below_drew1) | exact HB.out)) hb); clear HB; have HB := n0_; clear n0_; (try clear hb); (try clear hb2); (try clear hk); (try clear hi)) | (go_at_call 14; (with_reducible refine (stuff_Next.calls (⟨#[48, 48, 48, 48, 48]⟩ : ByteArray) t106 _ A8.out).mono ?_); rintro e w27 ⟨rfl, hb⟩; have n0_ := Aside0.mk (below_step (by repeat (first | (with_reducible first | exact HB.out | apply below_alloc | apply pw_below_drewN | apply below_drew1) | exact HB.out)) hb); clear HB; have HB := n0_; clear n0_; (try clear hb); (try clear hb2); (try clear hk); (try clear hi)) | (go_at_call 14; (with_reducible refine (stuff_Next.calls (⟨#[49, 49, 49, 49, 49]⟩ : ByteArray) t107 _ A10.out).mono ?_); rintro e w28 ⟨rfl, hb⟩; have n0_ := Aside0.mk (below_step (by repeat (first | (with_reducible first | exact HB.out | apply below_alloc | apply pw_below_drewN | apply below_drew1) | exact HB.out)) hb); clear HB; have HB := n0_; clear n0_; (try clear hb); (try clear hb2); (try clear hk); (try clear hi)) | (go_at_call 14; (with_reducible refine (stuff_Next.calls (⟨#[48, 49]⟩ : ByteArray) t108 _ A12.out).mono ?_); rintro e w29 ⟨rfl, hb⟩; have n0_ := Aside0.mk (below_step (by repeat (first | (with_reducible first | exact HB.out | apply below_alloc | apply pw_below_drewN | apply below_drew1) | exact HB.out)) hb); clear HB; have HB := n0_; clear n0_; (try clear hb); (try clear hb2); (try clear hk); (try clear hi)) | (go_at_call 14; (with_reducible refine (stuff_Next.calls (⟨#[48, 48, 48, 48, 48, 48]⟩ : ByteArray) t109 _ A14.out).mono ?_); rintro e w30 ⟨rfl, hb⟩; have n0_ := Aside0.mk (below_step (by repeat (first | (with_reducible first | exact HB.out | apply below_alloc | apply pw_below_drewN | apply below_drew1) | exact HB.out)) hb); clear HB; have HB := n0_; clear n0_; (try clear hb); (try clear hb2); (try clear hk); (try clear hi)))
                  go_ret
                  exact ⟨by first | rfl | (simp [errW_none, errW_some] <;> rfl) | (simp [*, errW_none, errW_some] <;> rfl), by repeat (first | (with_reducible first | exact HB.out | apply below_alloc | apply pw_below_drewN | apply below_drew1) | exact HB.out)⟩
              · rw [if_neg c13] at H
                have c13b0 : (t108 == (-1)) = false := beq_eq_false_iff_ne.mpr c13
                have c13b1 : (t108 != (-1)) = true := bne_iff_ne.mpr c13
                obtain rfl := Option.some.inj H
                go_enter Try.func9, Try.ntmps9
                go_wp2_with (first | ((with_reducible refine gate_callee (f := 12) rfl ?_); refine goesL_ (some 6) rfl rfl Try.func12 (by kernel_rfl) rfl #[.string (⟨#[48, 48, 48, 48, 48, 49]⟩ : ByteArray)] rfl (by (try simp only [List.map_toArray, List.map_cons, List.map_nil]); first | done | rfl | (simp only [List.length_drop, List.length_take]; rfl)) ?_; (with_reducible refine (stuff_Unstuff.calls (⟨#[48, 48, 48, 48, 48, 49]⟩ : ByteArray) t101 t102 _ A1.out).mono ?_); rintro e w31 ⟨rfl, hb⟩; refine ⟨_, rfl, ?_⟩; have n0_ := Aside0.mk (below_step (by repeat (first | (with_reducible first | exact HB.out | apply below_alloc | apply pw_below_drewN | apply below_drew1) | exact HB.out)) hb); clear HB; have HB := n0_; clear n0_; (try clear hb); (try clear hb2); (try clear hk); (try clear hi)) | ((with_reducible refine gate_callee (f := 12) rfl ?_); refine goesL_ (some 10) rfl rfl Try.func12 (by kernel_rfl) rfl #[.string (⟨#[48, 48, 48, 48, 48, 48, 49]⟩ : ByteArray)] rfl (by (try simp only [List.map_toArray, List.map_cons, List.map_nil]); first | done | rfl | (simp only [List.length_drop, List.length_take]; rfl)) ?_; (with_reducible refine (stuff_Unstuff.calls (⟨#[48, 48, 48, 48, 48, 48, 49]⟩ : ByteArray) t103 t104 _ A2.out).mono ?_); rintro e w32 ⟨rfl, hb⟩; refine ⟨_, rfl, ?_⟩; have n0_ := Aside0.mk (below_step (by repeat (first | (with_reducible first | exact HB.out | apply below_alloc | apply pw_below_drewN | apply below_drew1) | exact HB.out)) hb); clear HB; have HB := n0_; clear n0_; (try clear hb); (try clear hb2); (try clear hk); (try clear hi)) | ((with_reducible refine gate_callee (f := 11) rfl ?_); refine goesL_ (some 13) rfl rfl Try.func11 (by kernel_rfl) rfl #[.string (⟨#[48, 48, 48, 48, 48]⟩ : ByteArray)] rfl (by (try simp only [List.map_toArray, List.map_cons, List.map_nil]); first | done | rfl | (simp only [List.length_drop, List.length_take]; rfl)) ?_; (with_reducible refine (stuff_Stuff.calls (⟨#[48, 48, 48, 48, 48]⟩ : ByteArray) t105 _ A3.out).mono ?_); rintro e w33 ⟨rfl, hb⟩; refine ⟨_, rfl, ?_⟩; have n0_ := Aside0.mk (below_step (by repeat (first | (with_reducible first | exact HB.out | apply below_alloc | apply pw_below_drewN | apply below_drew1) | exact HB.out)) hb); clear HB; have HB := n0_; clear n0_; (try clear hb); (try clear hb2); (try clear hk); (try clear hi)) | (go_at_call 14; (with_reducible refine (stuff_Next.calls (⟨#[48, 48, 48, 48, 48]⟩ : ByteArray) t106 _ A8.out).mono ?_); rintro e w34 ⟨rfl, hb⟩; have n0_ := Aside0.mk (below_step (by repeat (first | (with_reducible first | exact HB.out | apply below_alloc | apply pw_below_drewN | apply below_drew1) | exact HB.out)) hb); clear HB; have HB := n0_; clear n0_; (try clear hb); (try clear hb2); (try clear hk); (try clear hi)) | (go_at_call 14; (with_reducible refine (stuff_Next.calls (⟨#[49, 49, 49, 49, 49]⟩ : ByteArray) t107 _ A10.out).mono ?_); rintro e w35 ⟨rfl, hb⟩; have n0_ := Aside0.mk (below_step (by repeat (first | (with_reducible first | exact HB.out | apply below_alloc | apply pw_below_drewN | apply below_drew1) | exact HB.out)) hb); clear HB; have HB := n0_; clear n0_; (try clear hb); (try clear hb2); (try clear hk); (try clear hi)) | (go_at_call 14; (with_reducible refine (stuff_Next.calls (⟨#[48, 49]⟩ : ByteArray) t108 _ A12.out).mono ?_); rintro e w36 ⟨rfl, hb⟩; have n0_ := Aside0.mk (below_step (by repeat (first | (with_reducible first | exact HB.out | apply below_alloc | apply pw_below_drewN | apply below_drew1) | exact HB.out)) hb); clear HB; have HB := n0_; clear n0_; (try clear hb); (try clear hb2); (try clear hk); (try clear hi)))
                go_ret
                exact ⟨by first | rfl | (simp [errW_none, errW_some] <;> rfl) | (simp [*, errW_none, errW_some] <;> rfl), by repeat (first | (with_reducible first | exact HB.out | apply below_alloc | apply pw_below_drewN | apply below_drew1) | exact HB.out)⟩
            · rw [if_neg c11] at H
              have c11b0 : (t107 == 0) = false := beq_eq_false_iff_ne.mpr c11
              have c11b1 : (t107 != 0) = true := bne_iff_ne.mpr c11
              obtain rfl := Option.some.inj H
              go_enter Try.func9, Try.ntmps9
              go_wp2_with (first | ((with_reducible refine gate_callee (f := 12) rfl ?_); refine goesL_ (some 6) rfl rfl Try.func12 (by kernel_rfl) rfl #[.string (⟨#[48, 48, 48, 48, 48, 49]⟩ : ByteArray)] rfl (by (try simp only [List.map_toArray, List.map_cons, List.map_nil]); first | done | rfl | (simp only [List.length_drop, List.length_take]; rfl)) ?_; (with_reducible refine (stuff_Unstuff.calls (⟨#[48, 48, 48, 48, 48, 49]⟩ : ByteArray) t101 t102 _ A1.out).mono ?_); rintro e w37 ⟨rfl, hb⟩; refine ⟨_, rfl, ?_⟩; have n0_ := Aside0.mk (below_step (by repeat (first | (with_reducible first | exact HB.out | apply below_alloc | apply pw_below_drewN | apply below_drew1) | exact HB.out)) hb); clear HB; have HB := n0_; clear n0_; (try clear hb); (try clear hb2); (try clear hk); (try clear hi)) | ((with_reducible refine gate_callee (f := 12) rfl ?_); refine goesL_ (some 10) rfl rfl Try.func12 (by kernel_rfl) rfl #[.string (⟨#[48, 48, 48, 48, 48, 48, 49]⟩ : ByteArray)] rfl (by (try simp only [List.map_toArray, List.map_cons, List.map_nil]); first | done | rfl | (simp only [List.length_drop, List.length_take]; rfl)) ?_; (with_reducible refine (stuff_Unstuff.calls (⟨#[48, 48, 48, 48, 48, 48, 49]⟩ : ByteArray) t103 t104 _ A2.out).mono ?_); rintro e w38 ⟨rfl, hb⟩; refine ⟨_, rfl, ?_⟩; have n0_ := Aside0.mk (below_step (by repeat (first | (with_reducible first | exact HB.out | apply below_alloc | apply pw_below_drewN | apply below_drew1) | exact HB.out)) hb); clear HB; have HB := n0_; clear n0_; (try clear hb); (try clear hb2); (try clear hk); (try clear hi)) | ((with_reducible refine gate_callee (f := 11) rfl ?_); refine goesL_ (some 13) rfl rfl Try.func11 (by kernel_rfl) rfl #[.string (⟨#[48, 48, 48, 48, 48]⟩ : ByteArray)] rfl (by (try simp only [List.map_toArray, List.map_cons, List.map_nil]); first | done | rfl | (simp only [List.length_drop, List.length_take]; rfl)) ?_; (with_reducible refine (stuff_Stuff.calls (⟨#[48, 48, 48, 48, 48]⟩ : ByteArray) t105 _ A3.out).mono ?_); rintro e w39 ⟨rfl, hb⟩; refine ⟨_, rfl, ?_⟩; have n0_ := Aside0.mk (below_step (by repeat (first | (with_reducible first | exact HB.out | apply below_alloc | apply pw_below_drewN | apply below_drew1) | exact HB.out)) hb); clear HB; have HB := n0_; clear n0_; (try clear hb); (try clear hb2); (try clear hk); (try clear hi)) | (go_at_call 14; (with_reducible refine (stuff_Next.calls (⟨#[48, 48, 48, 48, 48]⟩ : ByteArray) t106 _ A8.out).mono ?_); rintro e w40 ⟨rfl, hb⟩; have n0_ := Aside0.mk (below_step (by repeat (first | (with_reducible first | exact HB.out | apply below_alloc | apply pw_below_drewN | apply below_drew1) | exact HB.out)) hb); clear HB; have HB := n0_; clear n0_; (try clear hb); (try clear hb2); (try clear hk); (try clear hi)) | (go_at_call 14; (with_reducible refine (stuff_Next.calls (⟨#[49, 49, 49, 49, 49]⟩ : ByteArray) t107 _ A10.out).mono ?_); rintro e w41 ⟨rfl, hb⟩; have n0_ := Aside0.mk (below_step (by repeat (first | (with_reducible first | exact HB.out | apply below_alloc | apply pw_below_drewN | apply below_drew1) | exact HB.out)) hb); clear HB; have HB := n0_; clear n0_; (try clear hb); (try clear hb2); (try clear hk); (try clear hi)))
              go_ret
              exact ⟨by first | rfl | (simp [errW_none, errW_some] <;> rfl) | (simp [*, errW_none, errW_some] <;> rfl), by repeat (first | (with_reducible first | exact HB.out | apply below_alloc | apply pw_below_drewN | apply below_drew1) | exact HB.out)⟩
          · rw [if_neg c9] at H
            have c9b0 : (t106 == 1) = false := beq_eq_false_iff_ne.mpr c9
            have c9b1 : (t106 != 1) = true := bne_iff_ne.mpr c9
            obtain rfl := Option.some.inj H
            go_enter Try.func9, Try.ntmps9
            go_wp2_with (first | ((with_reducible refine gate_callee (f := 12) rfl ?_); refine goesL_ (some 6) rfl rfl Try.func12 (by kernel_rfl) rfl #[.string (⟨#[48, 48, 48, 48, 48, 49]⟩ : ByteArray)] rfl (by (try simp only [List.map_toArray, List.map_cons, List.map_nil]); first | done | rfl | (simp only [List.length_drop, List.length_take]; rfl)) ?_; (with_reducible refine (stuff_Unstuff.calls (⟨#[48, 48, 48, 48, 48, 49]⟩ : ByteArray) t101 t102 _ A1.out).mono ?_); rintro e w42 ⟨rfl, hb⟩; refine ⟨_, rfl, ?_⟩; have n0_ := Aside0.mk (below_step (by repeat (first | (with_reducible first | exact HB.out | apply below_alloc | apply pw_below_drewN | apply below_drew1) | exact HB.out)) hb); clear HB; have HB := n0_; clear n0_; (try clear hb); (try clear hb2); (try clear hk); (try clear hi)) | ((with_reducible refine gate_callee (f := 12) rfl ?_); refine goesL_ (some 10) rfl rfl Try.func12 (by kernel_rfl) rfl #[.string (⟨#[48, 48, 48, 48, 48, 48, 49]⟩ : ByteArray)] rfl (by (try simp only [List.map_toArray, List.map_cons, List.map_nil]); first | done | rfl | (simp only [List.length_drop, List.length_take]; rfl)) ?_; (with_reducible refine (stuff_Unstuff.calls (⟨#[48, 48, 48, 48, 48, 48, 49]⟩ : ByteArray) t103 t104 _ A2.out).mono ?_); rintro e w43 ⟨rfl, hb⟩; refine ⟨_, rfl, ?_⟩; have n0_ := Aside0.mk (below_step (by repeat (first | (with_reducible first | exact HB.out | apply below_alloc | apply pw_below_drewN | apply below_drew1) | exact HB.out)) hb); clear HB; have HB := n0_; clear n0_; (try clear hb); (try clear hb2); (try clear hk); (try clear hi)) | ((with_reducible refine gate_callee (f := 11) rfl ?_); refine goesL_ (some 13) rfl rfl Try.func11 (by kernel_rfl) rfl #[.string (⟨#[48, 48, 48, 48, 48]⟩ : ByteArray)] rfl (by (try simp only [List.map_toArray, List.map_cons, List.map_nil]); first | done | rfl | (simp only [List.length_drop, List.length_take]; rfl)) ?_; (with_reducible refine (stuff_Stuff.calls (⟨#[48, 48, 48, 48, 48]⟩ : ByteArray) t105 _ A3.out).mono ?_); rintro e w44 ⟨rfl, hb⟩; refine ⟨_, rfl, ?_⟩; have n0_ := Aside0.mk (below_step (by repeat (first | (with_reducible first | exact HB.out | apply below_alloc | apply pw_below_drewN | apply below_drew1) | exact HB.out)) hb); clear HB; have HB := n0_; clear n0_; (try clear hb); (try clear hb2); (try clear hk); (try clear hi)) | (go_at_call 14; (with_reducible refine (stuff_Next.calls (⟨#[48, 48, 48, 48, 48]⟩ : ByteArray) t106 _ A8.out).mono ?_); rintro e w45 ⟨rfl, hb⟩; have n0_ := Aside0.mk (below_step (by repeat (first | (with_reducible first | exact HB.out | apply below_alloc | apply pw_below_drewN | apply below_drew1) | exact HB.out)) hb); clear HB; have HB := n0_; clear n0_; (try clear hb); (try clear hb2); (try clear hk); (try clear hi)))
            go_ret
            exact ⟨by first | rfl | (simp [errW_none, errW_some] <;> rfl) | (simp [*, errW_none, errW_some] <;> rfl), by repeat (first | (with_reducible first | exact HB.out | apply below_alloc | apply pw_below_drewN | apply below_drew1) | exact HB.out)⟩
        · rw [if_neg c7] at H
          have c7b0 : (t104 == 5) = false := beq_eq_false_iff_ne.mpr c7
          have c7b1 : (t104 != 5) = true := bne_iff_ne.mpr c7
          obtain rfl := Option.some.inj H
          go_enter Try.func9, Try.ntmps9
          go_wp2_with (first | ((with_reducible refine gate_callee (f := 12) rfl ?_); refine goesL_ (some 6) rfl rfl Try.func12 (by kernel_rfl) rfl #[.string (⟨#[48, 48, 48, 48, 48, 49]⟩ : ByteArray)] rfl (by (try simp only [List.map_toArray, List.map_cons, List.map_nil]); first | done | rfl | (simp only [List.length_drop, List.length_take]; rfl)) ?_; (with_reducible refine (stuff_Unstuff.calls (⟨#[48, 48, 48, 48, 48, 49]⟩ : ByteArray) t101 t102 _ A1.out).mono ?_); rintro e w46 ⟨rfl, hb⟩; refine ⟨_, rfl, ?_⟩; have n0_ := Aside0.mk (below_step (by repeat (first | (with_reducible first | exact HB.out | apply below_alloc | apply pw_below_drewN | apply below_drew1) | exact HB.out)) hb); clear HB; have HB := n0_; clear n0_; (try clear hb); (try clear hb2); (try clear hk); (try clear hi)) | ((with_reducible refine gate_callee (f := 12) rfl ?_); refine goesL_ (some 10) rfl rfl Try.func12 (by kernel_rfl) rfl #[.string (⟨#[48, 48, 48, 48, 48, 48, 49]⟩ : ByteArray)] rfl (by (try simp only [List.map_toArray, List.map_cons, List.map_nil]); first | done | rfl | (simp only [List.length_drop, List.length_take]; rfl)) ?_; (with_reducible refine (stuff_Unstuff.calls (⟨#[48, 48, 48, 48, 48, 48, 49]⟩ : ByteArray) t103 t104 _ A2.out).mono ?_); rintro e w47 ⟨rfl, hb⟩; refine ⟨_, rfl, ?_⟩; have n0_ := Aside0.mk (below_step (by repeat (first | (with_reducible first | exact HB.out | apply below_alloc | apply pw_below_drewN | apply below_drew1) | exact HB.out)) hb); clear HB; have HB := n0_; clear n0_; (try clear hb); (try clear hb2); (try clear hk); (try clear hi)) | ((with_reducible refine gate_callee (f := 11) rfl ?_); refine goesL_ (some 13) rfl rfl Try.func11 (by kernel_rfl) rfl #[.string (⟨#[48, 48, 48, 48, 48]⟩ : ByteArray)] rfl (by (try simp only [List.map_toArray, List.map_cons, List.map_nil]); first | done | rfl | (simp only [List.length_drop, List.length_take]; rfl)) ?_; (with_reducible refine (stuff_Stuff.calls (⟨#[48, 48, 48, 48, 48]⟩ : ByteArray) t105 _ A3.out).mono ?_); rintro e w48 ⟨rfl, hb⟩; refine ⟨_, rfl, ?_⟩; have n0_ := Aside0.mk (below_step (by repeat (first | (with_reducible first | exact HB.out | apply below_alloc | apply pw_below_drewN | apply below_drew1) | exact HB.out)) hb); clear HB; have HB := n0_; clear n0_; (try clear hb); (try clear hb2); (try clear hk); (try clear hi)))
          go_ret
          exact ⟨by first | rfl | (simp [errW_none, errW_some] <;> rfl) | (simp [*, errW_none, errW_some] <;> rfl), by repeat (first | (with_reducible first | exact HB.out | apply below_alloc | apply pw_below_drewN | apply below_drew1) | exact HB.out)⟩
      · rw [if_neg c6] at H
        have c6b0 : (t102 == (-1)) = false := beq_eq_false_iff_ne.mpr c6
        have c6b1 : (t102 != (-1)) = true := bne_iff_ne.mpr c6
        obtain rfl := Option.some.inj H
        go_enter Try.func9, Try.ntmps9
        go_wp2_with (first | ((with_reducible refine gate_callee (f := 12) rfl ?_); refine goesL_ (some 6) rfl rfl Try.func12 (by kernel_rfl) rfl #[.string (⟨#[48, 48, 48, 48, 48, 49]⟩ : ByteArray)] rfl (by (try simp only [List.map_toArray, List.map_cons, List.map_nil]); first | done | rfl | (simp only [List.length_drop, List.length_take]; rfl)) ?_; (with_reducible refine (stuff_Unstuff.calls (⟨#[48, 48, 48, 48, 48, 49]⟩ : ByteArray) t101 t102 _ A1.out).mono ?_); rintro e w49 ⟨rfl, hb⟩; refine ⟨_, rfl, ?_⟩; have n0_ := Aside0.mk (below_step (by repeat (first | (with_reducible first | exact HB.out | apply below_alloc | apply pw_below_drewN | apply below_drew1) | exact HB.out)) hb); clear HB; have HB := n0_; clear n0_; (try clear hb); (try clear hb2); (try clear hk); (try clear hi)) | ((with_reducible refine gate_callee (f := 12) rfl ?_); refine goesL_ (some 10) rfl rfl Try.func12 (by kernel_rfl) rfl #[.string (⟨#[48, 48, 48, 48, 48, 48, 49]⟩ : ByteArray)] rfl (by (try simp only [List.map_toArray, List.map_cons, List.map_nil]); first | done | rfl | (simp only [List.length_drop, List.length_take]; rfl)) ?_; (with_reducible refine (stuff_Unstuff.calls (⟨#[48, 48, 48, 48, 48, 48, 49]⟩ : ByteArray) t103 t104 _ A2.out).mono ?_); rintro e w50 ⟨rfl, hb⟩; refine ⟨_, rfl, ?_⟩; have n0_ := Aside0.mk (below_step (by repeat (first | (with_reducible first | exact HB.out | apply below_alloc | apply pw_below_drewN | apply below_drew1) | exact HB.out)) hb); clear HB; have HB := n0_; clear n0_; (try clear hb); (try clear hb2); (try clear hk); (try clear hi)) | ((with_reducible refine gate_callee (f := 11) rfl ?_); refine goesL_ (some 13) rfl rfl Try.func11 (by kernel_rfl) rfl #[.string (⟨#[48, 48, 48, 48, 48]⟩ : ByteArray)] rfl (by (try simp only [List.map_toArray, List.map_cons, List.map_nil]); first | done | rfl | (simp only [List.length_drop, List.length_take]; rfl)) ?_; (with_reducible refine (stuff_Stuff.calls (⟨#[48, 48, 48, 48, 48]⟩ : ByteArray) t105 _ A3.out).mono ?_); rintro e w51 ⟨rfl, hb⟩; refine ⟨_, rfl, ?_⟩; have n0_ := Aside0.mk (below_step (by repeat (first | (with_reducible first | exact HB.out | apply below_alloc | apply pw_below_drewN | apply below_drew1) | exact HB.out)) hb); clear HB; have HB := n0_; clear n0_; (try clear hb); (try clear hb2); (try clear hk); (try clear hi)))
        go_ret
        exact ⟨by first | rfl | (simp [errW_none, errW_some] <;> rfl) | (simp [*, errW_none, errW_some] <;> rfl), by repeat (first | (with_reducible first | exact HB.out | apply below_alloc | apply pw_below_drewN | apply below_drew1) | exact HB.out)⟩
    · rw [if_neg c5] at H
      have c5b0 : (t101.toList == ([48, 48, 48, 48, 48] : List UInt8)) = false := beq_eq_false_iff_ne.mpr c5
      have c5b1 : (t101.toList != ([48, 48, 48, 48, 48] : List UInt8)) = true := bne_iff_ne.mpr c5
      obtain rfl := Option.some.inj H
      go_enter Try.func9, Try.ntmps9
      go_wp2_with (first | ((with_reducible refine gate_callee (f := 12) rfl ?_); refine goesL_ (some 6) rfl rfl Try.func12 (by kernel_rfl) rfl #[.string (⟨#[48, 48, 48, 48, 48, 49]⟩ : ByteArray)] rfl (by (try simp only [List.map_toArray, List.map_cons, List.map_nil]); first | done | rfl | (simp only [List.length_drop, List.length_take]; rfl)) ?_; (with_reducible refine (stuff_Unstuff.calls (⟨#[48, 48, 48, 48, 48, 49]⟩ : ByteArray) t101 t102 _ A1.out).mono ?_); rintro e w52 ⟨rfl, hb⟩; refine ⟨_, rfl, ?_⟩; have n0_ := Aside0.mk (below_step (by repeat (first | (with_reducible first | exact HB.out | apply below_alloc | apply pw_below_drewN | apply below_drew1) | exact HB.out)) hb); clear HB; have HB := n0_; clear n0_; (try clear hb); (try clear hb2); (try clear hk); (try clear hi)) | ((with_reducible refine gate_callee (f := 12) rfl ?_); refine goesL_ (some 10) rfl rfl Try.func12 (by kernel_rfl) rfl #[.string (⟨#[48, 48, 48, 48, 48, 48, 49]⟩ : ByteArray)] rfl (by (try simp only [List.map_toArray, List.map_cons, List.map_nil]); first | done | rfl | (simp only [List.length_drop, List.length_take]; rfl)) ?_; (with_reducible refine (stuff_Unstuff.calls (⟨#[48, 48, 48, 48, 48, 48, 49]⟩ : ByteArray) t103 t104 _ A2.out).mono ?_); rintro e w53 ⟨rfl, hb⟩; refine ⟨_, rfl, ?_⟩; have n0_ := Aside0.mk (below_step (by repeat (first | (with_reducible first | exact HB.out | apply below_alloc | apply pw_below_drewN | apply below_drew1) | exact HB.out)) hb); clear HB; have HB := n0_; clear n0_; (try clear hb); (try clear hb2); (try clear hk); (try clear hi)) | ((with_reducible refine gate_callee (f := 11) rfl ?_); refine goesL_ (some 13) rfl rfl Try.func11 (by kernel_rfl) rfl #[.string (⟨#[48, 48, 48, 48, 48]⟩ : ByteArray)] rfl (by (try simp only [List.map_toArray, List.map_cons, List.map_nil]); first | done | rfl | (simp only [List.length_drop, List.length_take]; rfl)) ?_; (with_reducible refine (stuff_Stuff.calls (⟨#[48, 48, 48, 48, 48]⟩ : ByteArray) t105 _ A3.out).mono ?_); rintro e w54 ⟨rfl, hb⟩; refine ⟨_, rfl, ?_⟩; have n0_ := Aside0.mk (below_step (by repeat (first | (with_reducible first | exact HB.out | apply below_alloc | apply pw_below_drewN | apply below_drew1) | exact HB.out)) hb); clear HB; have HB := n0_; clear n0_; (try clear hb); (try clear hb2); (try clear hk); (try clear hi)))
      go_ret
      exact ⟨by first | rfl | (simp [errW_none, errW_some] <;> rfl) | (simp [*, errW_none, errW_some] <;> rfl), by repeat (first | (with_reducible first | exact HB.out | apply below_alloc | apply pw_below_drewN | apply below_drew1) | exact HB.out)⟩
  · rw [if_neg c4] at H
    have c4b0 : (t105.toList == ([48, 48, 48, 48, 48, 49] : List UInt8)) = false := beq_eq_false_iff_ne.mpr c4
    have c4b1 : (t105.toList != ([48, 48, 48, 48, 48, 49] : List UInt8)) = true := bne_iff_ne.mpr c4
    obtain rfl := Option.some.inj H
    go_enter Try.func9, Try.ntmps9
    go_wp2_with (first | ((with_reducible refine gate_callee (f := 12) rfl ?_); refine goesL_ (some 6) rfl rfl Try.func12 (by kernel_rfl) rfl #[.string (⟨#[48, 48, 48, 48, 48, 49]⟩ : ByteArray)] rfl (by (try simp only [List.map_toArray, List.map_cons, List.map_nil]); first | done | rfl | (simp only [List.length_drop, List.length_take]; rfl)) ?_; (with_reducible refine (stuff_Unstuff.calls (⟨#[48, 48, 48, 48, 48, 49]⟩ : ByteArray) t101 t102 _ A1.out).mono ?_); rintro e w55 ⟨rfl, hb⟩; refine ⟨_, rfl, ?_⟩; have n0_ := Aside0.mk (below_step (by repeat (first | (with_reducible first | exact HB.out | apply below_alloc | apply pw_below_drewN | apply below_drew1) | exact HB.out)) hb); clear HB; have HB := n0_; clear n0_; (try clear hb); (try clear hb2); (try clear hk); (try clear hi)) | ((with_reducible refine gate_callee (f := 12) rfl ?_); refine goesL_ (some 10) rfl rfl Try.func12 (by kernel_rfl) rfl #[.string (⟨#[48, 48, 48, 48, 48, 48, 49]⟩ : ByteArray)] rfl (by (try simp only [List.map_toArray, List.map_cons, List.map_nil]); first | done | rfl | (simp only [List.length_drop, List.length_take]; rfl)) ?_; (with_reducible refine (stuff_Unstuff.calls (⟨#[48, 48, 48, 48, 48, 48, 49]⟩ : ByteArray) t103 t104 _ A2.out).mono ?_); rintro e w56 ⟨rfl, hb⟩; refine ⟨_, rfl, ?_⟩; have n0_ := Aside0.mk (below_step (by repeat (first | (with_reducible first | exact HB.out | apply below_alloc | apply pw_below_drewN | apply below_drew1) | exact HB.out)) hb); clear HB; have HB := n0_; clear n0_; (try clear hb); (try clear hb2); (try clear hk); (try clear hi)) | ((with_reducible refine gate_callee (f := 11) rfl ?_); refine goesL_ (some 13) rfl rfl Try.func11 (by kernel_rfl) rfl #[.string (⟨#[48, 48, 48, 48, 48]⟩ : ByteArray)] rfl (by (try simp only [List.map_toArray, List.map_cons, List.map_nil]); first | done | rfl | (simp only [List.length_drop, List.length_take]; rfl)) ?_; (with_reducible refine (stuff_Stuff.calls (⟨#[48, 48, 48, 48, 48]⟩ : ByteArray) t105 _ A3.out).mono ?_); rintro e w57 ⟨rfl, hb⟩; refine ⟨_, rfl, ?_⟩; have n0_ := Aside0.mk (below_step (by repeat (first | (with_reducible first | exact HB.out | apply below_alloc | apply pw_below_drewN | apply below_drew1) | exact HB.out)) hb); clear HB; have HB := n0_; clear n0_; (try clear hb); (try clear hb2); (try clear hk); (try clear hi)))
    go_ret
    exact ⟨by first | rfl | (simp [errW_none, errW_some] <;> rfl) | (simp [*, errW_none, errW_some] <;> rfl), by repeat (first | (with_reducible first | exact HB.out | apply below_alloc | apply pw_below_drewN | apply below_drew1) | exact HB.out)⟩

/-! ### ostinatolaw2_StuffSix: function 5 -/
mutual
def ostinatolaw2_StuffSix.j1 : Nat → Int → ByteArray → Int → Int → Option (Bool)
  | 0, _, _, _, _ => none
  | k + 1, x2, x7, x8, x9 => ostinatolaw2_StuffSix.l1 k x2 x7 x8 x9 x7 x9
def ostinatolaw2_StuffSix.l1 : Nat → Int → ByteArray → Int → Int → ByteArray → Int → Option (Bool)
  | 0, _, _, _, _, _, _ => none
  | k + 1, x2, x7, x8, x9, x11, x12 => if x12 < (wrap64 (6 + (wrap64 (Int.tmod x2 5)))) then ((some (([x8] : List Int) : List Int)).bind fun y114 => (if x11.size + (strOfNums y114).size ≤ 9223372036854775807 then (ostinatolaw2_StuffSix.l1 k x2 x7 x8 x9 (x11 ++ (strOfNums y114)) (wrap64 (x12 + 1))) else (none))) else ((stuff_Unstuff.f x11).bind fun bt117 => (if bt117.2 = (wrap64 ((wrap64 ((x7.size : Int) + 5)) - x9)) then ((stuff_Next.f x11).bind fun t119 => (some (t119 == (-2)))) else (some false)))
def ostinatolaw2_StuffSix.l0 : Nat → Int → ByteArray → Int → Int → Int → Option (Bool)
  | 0, _, _, _, _, _ => none
  | k + 1, x2, x7, x8, x9, x10 => if x10 ≥ 0 then (if 0 ≤ x10 then (if x10 < (x7.size : Int) then (if (bt x7 x10) = x8 then (ostinatolaw2_StuffSix.l0 k x2 x7 x8 (wrap64 (x9 + 1)) (wrap64 (x10 - 1))) else (ostinatolaw2_StuffSix.j1 k x2 x7 x8 x9)) else (none)) else (none)) else (ostinatolaw2_StuffSix.j1 k x2 x7 x8 x9)
end
def ostinatolaw2_StuffSix.f (k : Nat) (a0 : Int) (a1 : Int) (a2 : Int) : Option (Bool) := (ostinatolaw2_known.f).bind fun t111 => (if t111 = true then ((ostinatoref1_Of.f a0 (wrap64 (Int.tmod a1 65))).bind fun t112 => ((stuff_Stuff.f t112).bind fun t113 => (if (t113.size : Int) = 0 then (some true) else (if 0 ≤ (wrap64 ((t113.size : Int) - 1)) then (if (wrap64 ((t113.size : Int) - 1)) < (t113.size : Int) then (ostinatolaw2_StuffSix.l0 k a2 t113 (bt t113 (wrap64 ((t113.size : Int) - 1))) 0 (wrap64 ((t113.size : Int) - 1))) else (none)) else (none))))) else (some false))
theorem ostinatolaw2_StuffSix.mono_l : ∀ k, (∀ y0 y1 y2 y3, LeO (ostinatolaw2_StuffSix.j1 k y0 y1 y2 y3) (ostinatolaw2_StuffSix.j1 (k + 1) y0 y1 y2 y3)) ∧ (∀ y0 y1 y2 y3 y4 y5, LeO (ostinatolaw2_StuffSix.l1 k y0 y1 y2 y3 y4 y5) (ostinatolaw2_StuffSix.l1 (k + 1) y0 y1 y2 y3 y4 y5)) ∧ (∀ y0 y1 y2 y3 y4, LeO (ostinatolaw2_StuffSix.l0 k y0 y1 y2 y3 y4) (ostinatolaw2_StuffSix.l0 (k + 1) y0 y1 y2 y3 y4))
  | 0 => ⟨fun _ _ _ _ r h => by simp [ostinatolaw2_StuffSix.j1] at h, fun _ _ _ _ _ _ r h => by simp [ostinatolaw2_StuffSix.l1] at h, fun _ _ _ _ _ r h => by simp [ostinatolaw2_StuffSix.l0] at h⟩
  | k + 1 => by
    obtain ⟨ih0, ih1, ih2⟩ := ostinatolaw2_StuffSix.mono_l k
    refine ⟨?_, ?_, ?_⟩
    · intro y0 y1 y2 y3
      unfold ostinatolaw2_StuffSix.j1
      repeat' first
      | (with_reducible exact ih0 _ _ _ _)
      | (with_reducible exact ih1 _ _ _ _ _ _)
      | (with_reducible exact ih2 _ _ _ _ _)
      | (with_reducible exact LeO.refl _)
      | (with_reducible exact LeO.none _)
      | (with_reducible refine LeO.ite ?_ ?_)
      | (with_reducible refine LeO.bind ?_ (fun _ => ?_))
      | exact ih0 _ _ _ _
      | exact ih1 _ _ _ _ _ _
      | exact ih2 _ _ _ _ _
      | exact LeO.none _
      | refine LeO.ite ?_ ?_
      | refine LeO.bind ?_ (fun _ => ?_)
    · intro y0 y1 y2 y3 y4 y5
      unfold ostinatolaw2_StuffSix.l1
      repeat' first
      | (with_reducible exact ih0 _ _ _ _)
      | (with_reducible exact ih1 _ _ _ _ _ _)
      | (with_reducible exact ih2 _ _ _ _ _)
      | (with_reducible exact LeO.refl _)
      | (with_reducible exact LeO.none _)
      | (with_reducible refine LeO.ite ?_ ?_)
      | (with_reducible refine LeO.bind ?_ (fun _ => ?_))
      | exact ih0 _ _ _ _
      | exact ih1 _ _ _ _ _ _
      | exact ih2 _ _ _ _ _
      | exact LeO.none _
      | refine LeO.ite ?_ ?_
      | refine LeO.bind ?_ (fun _ => ?_)
    · intro y0 y1 y2 y3 y4
      unfold ostinatolaw2_StuffSix.l0
      repeat' first
      | (with_reducible exact ih0 _ _ _ _)
      | (with_reducible exact ih1 _ _ _ _ _ _)
      | (with_reducible exact ih2 _ _ _ _ _)
      | (with_reducible exact LeO.refl _)
      | (with_reducible exact LeO.none _)
      | (with_reducible refine LeO.ite ?_ ?_)
      | (with_reducible refine LeO.bind ?_ (fun _ => ?_))
      | exact ih0 _ _ _ _
      | exact ih1 _ _ _ _ _ _
      | exact ih2 _ _ _ _ _
      | exact LeO.none _
      | refine LeO.ite ?_ ?_
      | refine LeO.bind ?_ (fun _ => ?_)
theorem ostinatolaw2_StuffSix.mono : ∀ a0 a1 a2 k, LeO (ostinatolaw2_StuffSix.f k a0 a1 a2) (ostinatolaw2_StuffSix.f (k + 1) a0 a1 a2) := by
  intro a0 a1 a2 k
  obtain ⟨ih0, ih1, ih2⟩ := ostinatolaw2_StuffSix.mono_l k
  unfold ostinatolaw2_StuffSix.f
  repeat' first
      | (with_reducible exact ih0 _ _ _ _)
      | (with_reducible exact ih1 _ _ _ _ _ _)
      | (with_reducible exact ih2 _ _ _ _ _)
      | (with_reducible exact LeO.refl _)
      | (with_reducible exact LeO.none _)
      | (with_reducible refine LeO.ite ?_ ?_)
      | (with_reducible refine LeO.bind ?_ (fun _ => ?_))
      | exact ih0 _ _ _ _
      | exact ih1 _ _ _ _ _ _
      | exact ih2 _ _ _ _ _
      | exact LeO.none _
      | refine LeO.ite ?_ ?_
      | refine LeO.bind ?_ (fun _ => ?_)
set_option maxHeartbeats 8000000 in
set_option maxRecDepth 100000 in
theorem ostinatolaw2_StuffSix.calls (k : Nat) (a0 : Int) (a1 : Int) (a2 : Int) (r : Bool) (w : World) (h : ostinatolaw2_StuffSix.f k a0 a1 a2 = some r) :
    Calls Try.prog 5 #[.int .u64 a0, .int .u8 a1, .int .u8 a2] w fun e w' => e = .returned (.bool r) ∧ Below w.heap.size w w' := by
  have HB := Aside0.mk (Below.refl w.heap.size w)
  have H : ((ostinatolaw2_known.f).bind fun t111 => (if t111 = true then ((ostinatoref1_Of.f a0 (wrap64 (Int.tmod a1 65))).bind fun t112 => ((stuff_Stuff.f t112).bind fun t113 => (if (t113.size : Int) = 0 then (some true) else (if 0 ≤ (wrap64 ((t113.size : Int) - 1)) then (if (wrap64 ((t113.size : Int) - 1)) < (t113.size : Int) then (ostinatolaw2_StuffSix.l0 k a2 t113 (bt t113 (wrap64 ((t113.size : Int) - 1))) 0 (wrap64 ((t113.size : Int) - 1))) else (none)) else (none))))) else (some false))) = some r := h
  clear h
  replace H := Option.bind_eq_some_iff.mp H
  obtain ⟨t111, A40, H⟩ := H
  replace H : (if t111 = true then ((ostinatoref1_Of.f a0 (wrap64 (Int.tmod a1 65))).bind fun t112 => ((stuff_Stuff.f t112).bind fun t113 => (if (t113.size : Int) = 0 then (some true) else (if 0 ≤ (wrap64 ((t113.size : Int) - 1)) then (if (wrap64 ((t113.size : Int) - 1)) < (t113.size : Int) then (ostinatolaw2_StuffSix.l0 k a2 t113 (bt t113 (wrap64 ((t113.size : Int) - 1))) 0 (wrap64 ((t113.size : Int) - 1))) else (none)) else (none))))) else (some false)) = some r := H
  have A4 := Aside0.mk A40
  clear A40
  by_cases c5 : t111 = true
  · subst c5
    have H1 : ((ostinatoref1_Of.f a0 (wrap64 (Int.tmod a1 65))).bind fun t112 => ((stuff_Stuff.f t112).bind fun t113 => (if (t113.size : Int) = 0 then (some true) else (if 0 ≤ (wrap64 ((t113.size : Int) - 1)) then (if (wrap64 ((t113.size : Int) - 1)) < (t113.size : Int) then (ostinatolaw2_StuffSix.l0 k a2 t113 (bt t113 (wrap64 ((t113.size : Int) - 1))) 0 (wrap64 ((t113.size : Int) - 1))) else (none)) else (none))))) = some r := by rw [if_pos rfl] at H; exact H
    clear H
    have H := H1
    clear H1
    replace H := Option.bind_eq_some_iff.mp H
    obtain ⟨t112, A60, H⟩ := H
    replace H : ((stuff_Stuff.f t112).bind fun t113 => (if (t113.size : Int) = 0 then (some true) else (if 0 ≤ (wrap64 ((t113.size : Int) - 1)) then (if (wrap64 ((t113.size : Int) - 1)) < (t113.size : Int) then (ostinatolaw2_StuffSix.l0 k a2 t113 (bt t113 (wrap64 ((t113.size : Int) - 1))) 0 (wrap64 ((t113.size : Int) - 1))) else (none)) else (none)))) = some r := H
    have A6 := Aside0.mk A60
    clear A60
    replace H := Option.bind_eq_some_iff.mp H
    obtain ⟨t113, A70, H⟩ := H
    replace H : (if (t113.size : Int) = 0 then (some true) else (if 0 ≤ (wrap64 ((t113.size : Int) - 1)) then (if (wrap64 ((t113.size : Int) - 1)) < (t113.size : Int) then (ostinatolaw2_StuffSix.l0 k a2 t113 (bt t113 (wrap64 ((t113.size : Int) - 1))) 0 (wrap64 ((t113.size : Int) - 1))) else (none)) else (none))) = some r := H
    have A7 := Aside0.mk A70
    clear A70
    by_cases c8 : (t113.size : Int) = 0
    · rw [if_pos c8] at H
      have c8b0 : ((t113.size : Int) == 0) = true := beq_iff_eq.mpr c8
      have c8b1 : ((t113.size : Int) != 0) = false := bne_eq_false_iff_eq.mpr c8
      clear c8
      obtain rfl := Option.some.inj H
      go_enter Try.func5, Try.ntmps5
      go_wp2_with (first | ((with_reducible refine gate_callee (f := 9) rfl ?_); refine goesL_ (some 15) rfl rfl Try.func9 (by kernel_rfl) rfl #[] rfl (by (try simp only [List.map_toArray, List.map_cons, List.map_nil]); first | done | rfl | (simp only [List.length_drop, List.length_take]; rfl)) ?_; (with_reducible refine (ostinatolaw2_known.calls  true _ A4.out).mono ?_); rintro e w9 ⟨rfl, hb⟩; refine ⟨_, rfl, ?_⟩; have n0_ := Aside0.mk (below_step (by repeat (first | (with_reducible first | exact HB.out | apply below_alloc | apply pw_below_drewN | apply below_drew1) | exact HB.out)) hb); clear HB; have HB := n0_; clear n0_; (try clear hb); (try clear hb2); (try clear hk); (try clear hi)) | ((with_reducible refine gate_callee (f := 10) rfl ?_); refine goesL_ (some 21) rfl rfl Try.func10 (by kernel_rfl) rfl #[.int .u64 a0, .int .i64 (wrap64 (Int.tmod a1 65))] rfl (by (try simp only [List.map_toArray, List.map_cons, List.map_nil]); first | done | rfl | (simp only [List.length_drop, List.length_take]; rfl)) ?_; (with_reducible refine (ostinatoref1_Of.calls a0 (wrap64 (Int.tmod a1 65)) t112 _ A6.out).mono ?_); rintro e w10 ⟨rfl, hb⟩; refine ⟨_, rfl, ?_⟩; have n0_ := Aside0.mk (below_step (by repeat (first | (with_reducible first | exact HB.out | apply below_alloc | apply pw_below_drewN | apply below_drew1) | exact HB.out)) hb); clear HB; have HB := n0_; clear n0_; (try clear hb); (try clear hb2); (try clear hk); (try clear hi)) | ((with_reducible refine gate_callee (f := 11) rfl ?_); refine goesL_ (some 22) rfl rfl Try.func11 (by kernel_rfl) rfl #[.string t112] rfl (by (try simp only [List.map_toArray, List.map_cons, List.map_nil]); first | done | rfl | (simp only [List.length_drop, List.length_take]; rfl)) ?_; (with_reducible refine (stuff_Stuff.calls t112 t113 _ A7.out).mono ?_); rintro e w11 ⟨rfl, hb⟩; refine ⟨_, rfl, ?_⟩; have n0_ := Aside0.mk (below_step (by repeat (first | (with_reducible first | exact HB.out | apply below_alloc | apply pw_below_drewN | apply below_drew1) | exact HB.out)) hb); clear HB; have HB := n0_; clear n0_; (try clear hb); (try clear hb2); (try clear hk); (try clear hi)))
      go_ret
      exact ⟨by first | rfl | (simp [errW_none, errW_some] <;> rfl) | (simp [*, errW_none, errW_some] <;> rfl), by repeat (first | (with_reducible first | exact HB.out | apply below_alloc | apply pw_below_drewN | apply below_drew1) | exact HB.out)⟩
    · rw [if_neg c8] at H
      have c8b0 : ((t113.size : Int) == 0) = false := beq_eq_false_iff_ne.mpr c8
      have c8b1 : ((t113.size : Int) != 0) = true := bne_iff_ne.mpr c8
      obtain ⟨ji12, hji12⟩ : ∃ j_ : Int, (wrap64 ((t113.size : Int) - 1)) = j_ := ⟨_, rfl⟩
      replace H : (if 0 ≤ (ji12) then (if (ji12) < (t113.size : Int) then (ostinatolaw2_StuffSix.l0 k a2 t113 (bt t113 (ji12)) 0 ji12) else (none)) else (none)) = some r := by first | (rw [hji12] at H; exact H) | (simp only [hji12] at H ⊢; exact H)
      (try rw [hji12] at A4)
      (try rw [hji12] at A6)
      (try rw [hji12] at A7)
      have hji12w : (IntKind.i64.wrap ((t113.size : Int) - 1)) = ji12 := (i64_w _).trans hji12
      by_cases c13 : 0 ≤ (ji12)
      · rw [if_pos c13] at H
        have c13b0 : decide (0 ≤ (ji12)) = true := decide_eq_true c13
        clear c13
        by_cases c14 : (ji12) < (t113.size : Int)
        · rw [if_pos c14] at H
          have c14b0 : decide ((ji12) < (t113.size : Int)) = true := decide_eq_true c14
          clear c14
          have HC16 := Aside0.mk H
          clear H
          go_enter Try.func5, Try.ntmps5
          go_upto_block 0 with (first | ((with_reducible refine gate_callee (f := 9) rfl ?_); refine goesL_ (some 15) rfl rfl Try.func9 (by kernel_rfl) rfl #[] rfl (by (try simp only [List.map_toArray, List.map_cons, List.map_nil]); first | done | rfl | (simp only [List.length_drop, List.length_take]; rfl)) ?_; (with_reducible refine (ostinatolaw2_known.calls  true _ A4.out).mono ?_); rintro e w17 ⟨rfl, hb⟩; refine ⟨_, rfl, ?_⟩; have n0_ := Aside0.mk (below_step (by repeat (first | (with_reducible first | exact HB.out | apply below_alloc | apply pw_below_drewN | apply below_drew1) | exact HB.out)) hb); clear HB; have HB := n0_; clear n0_; (try clear hb); (try clear hb2); (try clear hk); (try clear hi)) | ((with_reducible refine gate_callee (f := 10) rfl ?_); refine goesL_ (some 21) rfl rfl Try.func10 (by kernel_rfl) rfl #[.int .u64 a0, .int .i64 (wrap64 (Int.tmod a1 65))] rfl (by (try simp only [List.map_toArray, List.map_cons, List.map_nil]); first | done | rfl | (simp only [List.length_drop, List.length_take]; rfl)) ?_; (with_reducible refine (ostinatoref1_Of.calls a0 (wrap64 (Int.tmod a1 65)) t112 _ A6.out).mono ?_); rintro e w18 ⟨rfl, hb⟩; refine ⟨_, rfl, ?_⟩; have n0_ := Aside0.mk (below_step (by repeat (first | (with_reducible first | exact HB.out | apply below_alloc | apply pw_below_drewN | apply below_drew1) | exact HB.out)) hb); clear HB; have HB := n0_; clear n0_; (try clear hb); (try clear hb2); (try clear hk); (try clear hi)) | ((with_reducible refine gate_callee (f := 11) rfl ?_); refine goesL_ (some 22) rfl rfl Try.func11 (by kernel_rfl) rfl #[.string t112] rfl (by (try simp only [List.map_toArray, List.map_cons, List.map_nil]); first | done | rfl | (simp only [List.length_drop, List.length_take]; rfl)) ?_; (with_reducible refine (stuff_Stuff.calls t112 t113 _ A7.out).mono ?_); rintro e w19 ⟨rfl, hb⟩; refine ⟨_, rfl, ?_⟩; have n0_ := Aside0.mk (below_step (by repeat (first | (with_reducible first | exact HB.out | apply below_alloc | apply pw_below_drewN | apply below_drew1) | exact HB.out)) hb); clear HB; have HB := n0_; clear n0_; (try clear hb); (try clear hb2); (try clear hk); (try clear hi); have p15 : 0 ≤ ((ji12) : Int) := of_decide_eq_true (by first | (with_reducible assumption) | assumption); have q15 : (ji12) < (t113.size : Int) := of_decide_eq_true (by first | (with_reducible assumption) | assumption); have hx15 := bt_at t113 (ji12); replace p15 := eq_true p15; replace q15 := eq_true q15))
          (try simp only [Act.put, List.setIfInBounds_toArray, List.set_cons_zero, List.set_cons_succ])
          go_cut [9] (fun v9 wc => ∃ (kq : Nat) (x9_15 : Int), v9 = .int .i64 x9_15 ∧ Aside0 (ostinatolaw2_StuffSix.j1 kq a2 t113 (bt t113 (ji12)) x9_15 = some r) ∧ Aside0 (kq ≤ k) ∧ Aside0 (Below w.heap.size w wc))
          case first =>
            have H := HC16.out
            clear HC16
            have H' := Aside0.mk H
            clear H
            go_wp2
            go_loopg [9, 10] k (fun kq v9 v10 w' => ∃ (x9_1 : Int) (x10_1 : Int), v9 = .int .i64 x9_1 ∧ v10 = .int .i64 x10_1 ∧ Aside0 (ostinatolaw2_StuffSix.l0 kq a2 t113 (bt t113 (ji12)) x9_1 x10_1 = some r) ∧ Aside0 (kq ≤ k) ∧ Aside0 (Below w.heap.size w w'))
            case atStart => exact ⟨(0), (ji12), (by first | rfl | (simp; done) | (simp [*]; done)), (by first | rfl | (simp; done) | (simp only [← hji12] <;> (first | rfl | simp)) | (simp [*]; done)), H', ⟨Nat.le_refl _⟩, ⟨by repeat (first | (with_reducible first | exact HB.out | apply below_alloc | apply pw_below_drewN | apply below_drew1) | exact HB.out)⟩⟩
            case round =>
              clear H'
              try clear c1
              try clear p1
              try clear q1
              try clear hx1
              try clear p2
              try clear c5
              try clear p6
              try clear c8
              try clear c8b0
              try clear c8b1
              try clear c9
              try clear c10
              try clear c11
              try clear c13
              try clear c13b0
              try clear c14
              try clear c14b0
              try clear p15
              try clear q15
              try clear hx15
              try clear p15
              try clear q15
              obtain ⟨x9_1, x10_1, rfl, rfl, HA, HK1, HB⟩ := hrel
              cases gk with
              | zero => exact absurd HA.out (by simp [ostinatolaw2_StuffSix.l0])
              | succ k1 =>
                have H := HA.out
                clear HA
                simp only [ostinatolaw2_StuffSix.l0] at H
                by_cases c20 : x10_1 ≥ 0
                · rw [if_pos c20] at H
                  have c20b0 : decide (0 ≤ x10_1) = true := decide_eq_true c20
                  clear c20
                  (first | rw [c20b0] | (simp only [i64_w, i32_w]; rw [c20b0]) | skip)
                  by_cases c21 : 0 ≤ x10_1
                  · rw [if_pos c21] at H
                    have c21b0 : decide (0 ≤ x10_1) = true := decide_eq_true c21
                    clear c21
                    by_cases c22 : x10_1 < (t113.size : Int)
                    · rw [if_pos c22] at H
                      have c22b0 : decide (x10_1 < (t113.size : Int)) = true := decide_eq_true c22
                      clear c22
                      by_cases c24 : (bt t113 x10_1) = (bt t113 (ji12))
                      · rw [if_pos c24] at H
                        have c24b0 : ((bt t113 x10_1) == (bt t113 (ji12))) = true := beq_iff_eq.mpr c24
                        have c24b1 : ((bt t113 x10_1) != (bt t113 (ji12))) = false := bne_eq_false_iff_eq.mpr c24
                        clear c24
                        have H' := Aside0.mk H
                        clear H
                        have p23 : 0 ≤ (x10_1 : Int) := of_decide_eq_true (by first | (with_reducible assumption) | assumption)
                        have q23 : x10_1 < (t113.size : Int) := of_decide_eq_true (by first | (with_reducible assumption) | assumption)
                        have hx23 := bt_at t113 x10_1
                        replace p23 := eq_true p23
                        replace q23 := eq_true q23
                        go_wp2
                        go_roundg k1
                        case measure => have := HK1.out; omega
                        case rel => exact ⟨(wrap64 (x9_1 + 1)), (wrap64 (x10_1 - 1)), (by first | rfl | (simp; done) | (simp [*]; done)), (by first | rfl | (simp; done) | (simp [*]; done)), H', ⟨by have := HK1.out; omega⟩, ⟨by repeat (first | (with_reducible first | exact HB.out | apply below_alloc | apply pw_below_drewN | apply below_drew1) | exact HB.out)⟩⟩
                      · rw [if_neg c24] at H
                        have c24b0 : ((bt t113 x10_1) == (bt t113 (ji12))) = false := beq_eq_false_iff_ne.mpr c24
                        have c24b1 : ((bt t113 x10_1) != (bt t113 (ji12))) = true := bne_iff_ne.mpr c24
                        have H' := Aside0.mk H
                        clear H
                        have p23 : 0 ≤ (x10_1 : Int) := of_decide_eq_true (by first | (with_reducible assumption) | assumption)
                        have q23 : x10_1 < (t113.size : Int) := of_decide_eq_true (by first | (with_reducible assumption) | assumption)
                        have hx23 := bt_at t113 x10_1
                        replace p23 := eq_true p23
                        replace q23 := eq_true q23
                        go_wp2
                        go_meet
                        case rel => exact ⟨_, (x9_1), (by first | rfl | (simp; done) | (simp [*]; done)), H', ⟨by have := HK1.out; first | omega | exact Nat.le_refl _⟩, ⟨by repeat (first | (with_reducible first | exact HB.out | apply below_alloc | apply pw_below_drewN | apply below_drew1) | exact HB.out)⟩⟩
                    · rw [if_neg c22] at H
                      exact absurd H (by simp)
                  · rw [if_neg c21] at H
                    exact absurd H (by simp)
                · rw [if_neg c20] at H
                  have c20b0 : decide (0 ≤ x10_1) = false := decide_eq_false c20
                  clear c20
                  (first | rw [c20b0] | (simp only [i64_w, i32_w]; rw [c20b0]) | skip)
                  have H' := Aside0.mk H
                  clear H
                  go_wp2
                  go_meet
                  case rel => exact ⟨_, (x9_1), (by first | rfl | (simp; done) | (simp [*]; done)), H', ⟨by have := HK1.out; first | omega | exact Nat.le_refl _⟩, ⟨by repeat (first | (with_reducible first | exact HB.out | apply below_alloc | apply pw_below_drewN | apply below_drew1) | exact HB.out)⟩⟩
          case rest =>
            clear HC16
            try clear c1
            try clear p1
            try clear q1
            try clear hx1
            try clear c2
            try clear p2
            try clear q2
            try clear hx2
            try clear c5
            try clear p6
            try clear c8
            try clear c8b0
            try clear c8b1
            try clear c9
            try clear c10
            try clear c11
            try clear c13
            try clear c13b0
            try clear c14
            try clear c14b0
            try clear p15
            try clear q15
            try clear hx15
            try clear c20
            try clear c20b0
            try clear c21
            try clear c21b0
            try clear c22
            try clear c22b0
            try clear p23
            try clear q23
            try clear hx23
            try clear c24
            try clear c24b0
            try clear c24b1
            try clear p1
            try clear p15
            try clear p2
            try clear p23
            try clear p6
            try clear q1
            try clear q15
            try clear q23
            obtain ⟨kq, x9_15, rfl, HA, HJ15, HB⟩ := hcut
            cases kq with
            | zero => exact absurd HA.out (by simp [ostinatolaw2_StuffSix.j1])
            | succ kj15 =>
              have H := HA.out
              clear HA
              simp only [ostinatolaw2_StuffSix.j1] at H
              have H' := Aside0.mk H
              clear H
              go_wp2
              go_loopg [11, 12] kj15 (fun kq v11 v12 w' => ∃ (x11_2 : ByteArray) (x12_2 : Int), v11 = .string x11_2 ∧ v12 = .int .i64 x12_2 ∧ Aside0 (ostinatolaw2_StuffSix.l1 kq a2 t113 (bt t113 (ji12)) x9_15 x11_2 x12_2 = some r) ∧ Aside0 (kq ≤ kj15) ∧ Aside0 (Below w.heap.size w w'))
              case atStart => exact ⟨(t113), (x9_15), (by first | rfl | (simp; done) | (simp [*]; done)), (by first | rfl | (simp; done) | (simp [*]; done)), H', ⟨Nat.le_refl _⟩, ⟨by repeat (first | (with_reducible first | exact HB.out | apply below_alloc | apply pw_below_drewN | apply below_drew1) | exact HB.out)⟩⟩
              case round =>
                clear H'
                try clear c1
                try clear p1
                try clear q1
                try clear hx1
                try clear c2
                try clear p2
                try clear q2
                try clear hx2
                try clear c5
                try clear p6
                try clear c8
                try clear c8b0
                try clear c8b1
                try clear c9
                try clear c10
                try clear c11
                try clear c13
                try clear c13b0
                try clear c14
                try clear c14b0
                try clear p15
                try clear q15
                try clear hx15
                try clear c20
                try clear c20b0
                try clear c21
                try clear c21b0
                try clear c22
                try clear c22b0
                try clear p23
                try clear q23
                try clear hx23
                try clear c24
                try clear c24b0
                try clear c24b1
                try clear p1
                try clear p15
                try clear p2
                try clear p23
                try clear p6
                try clear q1
                try clear q15
                try clear q2
                try clear q23
                obtain ⟨x11_2, x12_2, rfl, rfl, HA, HK2, HB⟩ := hrel
                cases gk with
                | zero => exact absurd HA.out (by simp [ostinatolaw2_StuffSix.l1])
                | succ k2 =>
                  have H := HA.out
                  clear HA
                  simp only [ostinatolaw2_StuffSix.l1] at H
                  by_cases c25 : x12_2 < (wrap64 (6 + (wrap64 (Int.tmod a2 5))))
                  · rw [if_pos c25] at H
                    have c25b0 : decide (x12_2 < (wrap64 (6 + (wrap64 (Int.tmod a2 5))))) = true := decide_eq_true c25
                    clear c25
                    obtain ⟨y114, hy114⟩ : ∃ y_ : List Int, y_ = (([(bt t113 (ji12))] : List Int)) := ⟨_, rfl⟩
                    replace H : (if x11_2.size + (strOfNums y114).size ≤ 9223372036854775807 then (ostinatolaw2_StuffSix.l1 k2 a2 t113 (bt t113 (ji12)) x9_15 (x11_2 ++ (strOfNums y114)) (wrap64 (x12_2 + 1))) else (none)) = some r := by first | (rw [hy114]; with_reducible exact H) | (have H2_ := (Option.bind_some _ _).symm.trans H; rw [hy114]; with_reducible exact H2_) | (have H2_ := (Option.bind_some _ _).symm.trans H; with_reducible exact H2_) | with_reducible exact H | (rw [hy114]; exact H) | exact H
                    have Ny114 := Aside0.mk hy114
                    clear hy114
                    by_cases c26 : x11_2.size + (strOfNums y114).size ≤ 9223372036854775807
                    · rw [if_pos c26] at H
                      have c26b0 := eq_true c26
                      have c26b1 : decide (x11_2.size + (strOfNums y114).size ≤ 9223372036854775807) = true := decide_eq_true c26
                      try have c26b2 : (9223372036854775807 < x11_2.size + (strOfNums y114).size) = False := eq_false (Nat.not_lt.2 c26)
                      have H' := Aside0.mk H
                      clear H
                      go_wp2_with (first | ((with_reducible refine gate_dst (N := 59) rfl ?_); refine Kd.R_lit (Kd.int .u8) _ 5 ?hg (N := 59) ?hd (xs := ([(bt t113 (ji12))] : List Int)) (inner := [.int .u8 (bt t113 (ji12))]) (ok := fun _ => True) (okp := fun _ => True) ?hr ?hp (fun _ hk => hk) trivial (Below.refl _ _) (Nat.le_refl _) (by simp) ?_; (case hd => rfl); (case hg => rfl); (case hr => first | (go_simp; done) | (go_simp; rfl)); (case hp => exact (Reps.one (show Kd.M (Kd.int .u8) _ _ _ (bt t113 (ji12)) [.int .u8 (bt t113 (ji12))] from rfl) (Reps.none _ _))); intro v115 w27 ho28 hb hg_ hnew_; clear hg_ hnew_; (first | rw [← Ny114.out] at ho28 | (simp only [Int.reduceToNat] at ho28; rw [← Ny114.out] at ho28)); have n0_ := Aside0.mk (Kd.R_lower ho28 (below_size (by repeat (first | (with_reducible first | exact HB.out | apply below_alloc | apply pw_below_drewN | apply below_drew1) | exact HB.out)))); have n1_ := Aside0.mk (below_step (by repeat (first | (with_reducible first | exact HB.out | apply below_alloc | apply pw_below_drewN | apply below_drew1) | exact HB.out)) hb); clear HB; have HO116 := n0_; have HB := n1_; clear n0_ n1_; clear hb ho28; have hcv29 := own_string (P := Try.prog) Try.underlying32 Try.underlying5 Try.underlying9 (Kd.own_of_R HO116.out)))
                      go_roundg k2
                      case measure => have := HJ15.out; have := HK2.out; omega
                      case rel => exact ⟨(x11_2 ++ (strOfNums y114)), (wrap64 (x12_2 + 1)), (by first | rfl | (simp; done) | (simp [*]; done)), (by first | rfl | (simp; done) | (simp [*]; done)), H', ⟨by have := HJ15.out; have := HK2.out; omega⟩, ⟨by repeat (first | (with_reducible first | exact HB.out | apply below_alloc | apply pw_below_drewN | apply below_drew1) | exact HB.out)⟩⟩
                    · rw [if_neg c26] at H
                      exact absurd H (by simp)
                  · rw [if_neg c25] at H
                    have c25b0 : decide (x12_2 < (wrap64 (6 + (wrap64 (Int.tmod a2 5))))) = false := decide_eq_false c25
                    clear c25
                    replace H := Option.bind_eq_some_iff.mp H
                    obtain ⟨⟨t117, t118⟩, A300, H⟩ := H
                    replace H : (if t118 = (wrap64 ((wrap64 ((t113.size : Int) + 5)) - x9_15)) then ((stuff_Next.f x11_2).bind fun t119 => (some (t119 == (-2)))) else (some false)) = some r := H
                    have A30 := Aside0.mk A300
                    clear A300
                    by_cases c31 : t118 = (wrap64 ((wrap64 ((t113.size : Int) + 5)) - x9_15))
                    · rw [if_pos c31] at H
                      have c31b0 : (t118 == (wrap64 ((wrap64 ((t113.size : Int) + 5)) - x9_15))) = true := beq_iff_eq.mpr c31
                      have c31b1 : (t118 != (wrap64 ((wrap64 ((t113.size : Int) + 5)) - x9_15))) = false := bne_eq_false_iff_eq.mpr c31
                      clear c31
                      replace H := Option.bind_eq_some_iff.mp H
                      obtain ⟨t119, A320, H⟩ := H
                      replace H : (some (t119 == (-2))) = some r := H
                      have A32 := Aside0.mk A320
                      clear A320
                      obtain rfl := Option.some.inj H
                      go_wp2_with (first | ((with_reducible refine gate_callee (f := 12) rfl ?_); refine goesL_ (some 64) rfl rfl Try.func12 (by kernel_rfl) rfl #[.string x11_2] rfl (by (try simp only [List.map_toArray, List.map_cons, List.map_nil]); first | done | rfl | (simp only [List.length_drop, List.length_take]; rfl)) ?_; (with_reducible refine (stuff_Unstuff.calls x11_2 t117 t118 _ A30.out).mono ?_); rintro e w33 ⟨rfl, hb⟩; refine ⟨_, rfl, ?_⟩; have n0_ := Aside0.mk (below_step (by repeat (first | (with_reducible first | exact HB.out | apply below_alloc | apply pw_below_drewN | apply below_drew1) | exact HB.out)) hb); clear HB; have HB := n0_; clear n0_; (try clear hb); (try clear hb2); (try clear hk); (try clear hi)) | (go_at_call 14; (with_reducible refine (stuff_Next.calls x11_2 t119 _ A32.out).mono ?_); rintro e w34 ⟨rfl, hb⟩; have n0_ := Aside0.mk (below_step (by repeat (first | (with_reducible first | exact HB.out | apply below_alloc | apply pw_below_drewN | apply below_drew1) | exact HB.out)) hb); clear HB; have HB := n0_; clear n0_; (try clear hb); (try clear hb2); (try clear hk); (try clear hi)))
                      go_ret
                      exact ⟨by first | rfl | (simp [errW_none, errW_some] <;> rfl) | (simp only [← hji12]; first | rfl | (simp [errW_none, errW_some] <;> rfl)) | (simp [*, errW_none, errW_some] <;> rfl), by repeat (first | (with_reducible first | exact HB.out | apply below_alloc | apply pw_below_drewN | apply below_drew1) | exact HB.out)⟩
                    · rw [if_neg c31] at H
                      have c31b0 : (t118 == (wrap64 ((wrap64 ((t113.size : Int) + 5)) - x9_15))) = false := beq_eq_false_iff_ne.mpr c31
                      have c31b1 : (t118 != (wrap64 ((wrap64 ((t113.size : Int) + 5)) - x9_15))) = true := bne_iff_ne.mpr c31
                      obtain rfl := Option.some.inj H
                      go_wp2_with (first | ((with_reducible refine gate_callee (f := 12) rfl ?_); refine goesL_ (some 64) rfl rfl Try.func12 (by kernel_rfl) rfl #[.string x11_2] rfl (by (try simp only [List.map_toArray, List.map_cons, List.map_nil]); first | done | rfl | (simp only [List.length_drop, List.length_take]; rfl)) ?_; (with_reducible refine (stuff_Unstuff.calls x11_2 t117 t118 _ A30.out).mono ?_); rintro e w35 ⟨rfl, hb⟩; refine ⟨_, rfl, ?_⟩; have n0_ := Aside0.mk (below_step (by repeat (first | (with_reducible first | exact HB.out | apply below_alloc | apply pw_below_drewN | apply below_drew1) | exact HB.out)) hb); clear HB; have HB := n0_; clear n0_; (try clear hb); (try clear hb2); (try clear hk); (try clear hi)))
                      go_ret
                      exact ⟨by first | rfl | (simp [errW_none, errW_some] <;> rfl) | (simp only [← hji12]; first | rfl | (simp [errW_none, errW_some] <;> rfl)) | (simp [*, errW_none, errW_some] <;> rfl), by repeat (first | (with_reducible first | exact HB.out | apply below_alloc | apply pw_below_drewN | apply below_drew1) | exact HB.out)⟩
        · rw [if_neg c14] at H
          exact absurd H (by simp)
      · rw [if_neg c13] at H
        exact absurd H (by simp)
  · replace c5 := Bool.eq_false_iff.mpr c5
    subst c5
    have H1 : (some false) = some r := by rw [if_neg (show ¬ (false = true) by decide)] at H; exact H
    clear H
    have H := H1
    clear H1
    obtain rfl := Option.some.inj H
    go_enter Try.func5, Try.ntmps5
    go_wp2_with (first | ((with_reducible refine gate_callee (f := 9) rfl ?_); refine goesL_ (some 15) rfl rfl Try.func9 (by kernel_rfl) rfl #[] rfl (by (try simp only [List.map_toArray, List.map_cons, List.map_nil]); first | done | rfl | (simp only [List.length_drop, List.length_take]; rfl)) ?_; (with_reducible refine (ostinatolaw2_known.calls  false _ A4.out).mono ?_); rintro e w36 ⟨rfl, hb⟩; refine ⟨_, rfl, ?_⟩; have n0_ := Aside0.mk (below_step (by repeat (first | (with_reducible first | exact HB.out | apply below_alloc | apply pw_below_drewN | apply below_drew1) | exact HB.out)) hb); clear HB; have HB := n0_; clear n0_; (try clear hb); (try clear hb2); (try clear hk); (try clear hi)))
    go_ret
    exact ⟨by first | rfl | (simp [errW_none, errW_some] <;> rfl) | (simp [*, errW_none, errW_some] <;> rfl), by repeat (first | (with_reducible first | exact HB.out | apply below_alloc | apply pw_below_drewN | apply below_drew1) | exact HB.out)⟩

/-- THE ONE PURE STATEMENT of ostinatolaw2_StuffSix: yours. -/
def ostinatolaw2_StuffSix.Pure : Prop := ∀ (a0 : Int) (a1 : Int) (a2 : Int), (Lit.int .u64 a0).wf = true → (Lit.int .u8 a1).wf = true → (Lit.int .u8 a2).wf = true → ∃ k, ostinatolaw2_StuffSix.f k a0 a1 a2 = some true
theorem ostinatolaw2_StuffSix.walk (P : ostinatolaw2_StuffSix.Pure) (a0 : Int) (a1 : Int) (a2 : Int) (w : World) (w0 : (Lit.int .u64 a0).wf = true) (w1 : (Lit.int .u8 a1).wf = true) (w2 : (Lit.int .u8 a2).wf = true) :
    Calls Try.prog 5 #[.int .u64 a0, .int .u8 a1, .int .u8 a2] w fun e w' => e = .returned (.bool true) ∧ Below w.heap.size w w' := by
  obtain ⟨k, h⟩ := P a0 a1 a2 w0 w1 w2
  refine (ostinatolaw2_StuffSix.calls k a0 a1 a2 true w h).mono ?_
  rintro e w' ⟨rfl, hd⟩
  exact ⟨rfl, hd⟩

end Go.Proofs.Ytkclgfjfmlogmaa.QStuffSix
